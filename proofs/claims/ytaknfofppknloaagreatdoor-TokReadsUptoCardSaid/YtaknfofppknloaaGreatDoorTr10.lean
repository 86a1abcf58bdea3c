/- Layer 2, the document's answer: letters as small ones. -/
import Derived.Test.YtaknfofppknloaaGreatDoorTr9
import Derived.Test.YtaknfofppknloaaGreatDoorTk17
namespace Go.Proofs.YtaknfofppknloaaGreatDoor
open Go Go.RowKit
set_option linter.all false
namespace Tk
def sm8 (b : UInt8) : UInt8 := UInt8.ofNat (smallB b.toNat)
theorem smallB_lt (b : Nat) (h : b < 256) : smallB b < 256 := by unfold smallB; split <;> omega
theorem sm8_nat (b : UInt8) : (sm8 b).toNat = smallB b.toNat := by
  have := smallB_lt b.toNat (UInt8.toNat_lt b)
  unfold sm8
  rw [UInt8.toNat_ofNat']; omega
theorem small_eq (cs : Cs) (t : List UInt8) (hc : ∀ c ∈ cs, okc c) (ht : ∀ b ∈ t, b.toNat < 128 ∧ smallB b.toNat = b.toNat) : ((narrow cs).map sm8 == t) = decide (cs.map small = nats t) := by
  have h1 := fold_narrow cs t hc (fun b hb => (ht b hb).1)
  have h2 : (t.map fun b => smallB b.toNat) = nats t := by
    unfold nats
    exact List.map_congr_left fun b hb => (ht b hb).2
  rw [h2] at h1
  rw [← h1]
  unfold foldEq
  rw [h2, Bool.eq_iff_iff]
  simp only [beq_iff_eq, decide_eq_true_eq]
  have h3 : ∀ s : List UInt8, (s.map fun b => smallB b.toNat) = (s.map sm8).map UInt8.toNat := fun s => by
    rw [List.map_map]
    exact List.map_congr_left fun b _ => (sm8_nat b).symm
  rw [h3]
  unfold nats
  constructor
  · rintro h; rw [h]
  · intro h
    exact (List.map_inj_right (fun a b h => UInt8.toNat_inj.1 h)).1 h
theorem take_sm (l : List UInt8) (k : Nat) (h : k < l.length) : (l.take (k + 1)).map sm8 = (l.take k).map sm8 ++ [sm8 (l.getD k 0)] := by
  rw [List.take_succ_eq_append_getElem h, List.map_append]
  simp [List.getD_eq_getElem?_getD, h]
set_option maxRecDepth 100000 in
set_option maxHeartbeats 4000000 in
theorem rsmall_any (l : List UInt8) (w : World) (hs : l.length ≤ 1000000) : Calls Tryz.prog 39 #[.string ⟨l.toArray⟩] w fun e w' => e = .returned (.string ⟨(l.map sm8).toArray⟩) ∧ Pur w w' := by
  go_enter Tryz.func39, Tryz.ntmps39
  go_wp2
  go_loopw [3, 4] (fun s i wr => ∃ k : Nat, k ≤ l.length ∧ i = .int .i64 k ∧ s = .string ⟨((l.take k).map sm8).toArray⟩ ∧ Pur w wr) (fun _ i _ => l.length + 1 - (intOf i).toNat)
  case atStart => exact ⟨0, by omega, rfl, by simp, Pur.refl w⟩
  case round =>
    obtain ⟨k, hk, rfl, rfl, hpr⟩ := hrel
    by_cases hlt : k < l.length
    · have hlt' : (k : Int) < l.length := by omega
      have wn : IntKind.i64.wrap ((k : Int) + 1) = (k : Int) + 1 := IntWalk.i64_in _ (by omega)
      have HT := take_sm l k hlt
      have cb := by8_lt l k
      have z1 : ¬ 9223372036854775807 < ((l.take k).map sm8).length + 1 := by rw [List.length_map, List.length_take]; omega
      have hb : (l.getD k 0).toNat = by8 l k := rfl
      by_cases hx : 65 ≤ by8 l k ∧ by8 l k ≤ 90
      · have hv : sm8 (l.getD k 0) = B8 ((by8 l k : Int) + 32) := by
          unfold sm8 smallB B8
          rw [hb, if_pos hx]
          congr 1
        rw [hv] at HT
        have HT := Lib.hid HT
        have d1 : decide ((65 : Int) ≤ (by8 l k : Int)) = true := by simp; omega
        have d2 : decide ((by8 l k : Int) ≤ 90) = true := by simp; omega
        have w2 : IntKind.u8.wrap ((by8 l k : Int) + 32) = (by8 l k : Int) + 32 := IntWalk.u8_in _ (by omega)
        generalize (l.take k).map sm8 = acc at *
        clear hx hv hb
        go_wp2
        go_roundw
        case rel => exact ⟨k + 1, by omega, by go_num, by rw [HT.out], hpr.alloc _⟩
        case measure => simp [intOf]; omega
      · have hv : sm8 (l.getD k 0) = B8 (by8 l k : Int) := by
          unfold sm8 smallB B8
          rw [hb, if_neg hx]
          congr 1
        rw [hv] at HT
        have HT := Lib.hid HT
        generalize (l.take k).map sm8 = acc at *
        rcases Nat.lt_or_ge (by8 l k) 65 with g | g
        · have d1 : decide ((65 : Int) ≤ (by8 l k : Int)) = false := by simp; omega
          clear hx hv hb g
          go_wp2
          go_roundw
          case rel => exact ⟨k + 1, by omega, by go_num, by rw [HT.out], hpr.alloc _⟩
          case measure => simp [intOf]; omega
        · have d1 : decide ((65 : Int) ≤ (by8 l k : Int)) = true := by simp; omega
          have d2 : decide ((by8 l k : Int) ≤ 90) = false := by simp; omega
          clear hx hv hb g
          go_wp2
          go_roundw
          case rel => exact ⟨k + 1, by omega, by go_num, by rw [HT.out], hpr.alloc _⟩
          case measure => simp [intOf]; omega
    · obtain rfl : k = l.length := by omega
      have hlt' : ¬ (l.length : Int) < l.length := by omega
      rw [List.take_length]
      go_wp2
      go_ret
      exact ⟨rfl, hpr⟩
end Tk
end Go.Proofs.YtaknfofppknloaaGreatDoor
