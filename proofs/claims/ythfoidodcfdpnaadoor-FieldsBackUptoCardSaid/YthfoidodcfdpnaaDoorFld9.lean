/- A name or a value as it is written: the layer's coded, the document's Coded. -/
import Derived.Test.YthfoidodcfdpnaaDoorFld8
import Derived.StillTailTactics
import Derived.Deep.CutRange
namespace Go.Proofs.YthfoidodcfdpnaaDoor
open Go Go.RowKit
theorem codedB_plain (b : UInt8) (h : plainB b.toNat = true) : codedB b = [b] := by rw [codedB, if_pos h]
theorem codedB_space (b : UInt8) (h : b.toNat = 32) : codedB b = [43] := by
  obtain rfl : b = 32 := UInt8.toNat_inj.1 h
  rfl
theorem codedB_other (b : UInt8) (h : plainB b.toNat = false) (h2 : b.toNat ≠ 32) : codedB b = [37, hexD (b.toNat / 16), hexD (b.toNat % 16)] := by
  rw [codedB, if_neg (by rw [h]; decide), if_neg (fun e => h2 (by rw [e]; rfl))]
theorem coded_step {l acc x : Bytes} {n : Nat} (hn : n < l.length) (h : coded l = acc ++ coded (l.drop n)) (g : codedB (l.getD n 0) = x) : coded l = (acc ++ x) ++ coded (l.drop (n + 1)) := by
  rw [h, drop_at l n hn]
  unfold coded
  rw [List.flatMap_cons, g, List.append_assoc]
theorem coded_end {l acc : Bytes} {n : Nat} (hn : l.length ≤ n) (h : coded l = acc ++ coded (l.drop n)) : coded l = acc := by
  rw [h, List.drop_eq_nil_of_le hn]; simp [coded]
theorem codedB_len (b : UInt8) : (codedB b).length ≤ 3 := by
  unfold codedB
  split
  · simp
  · split <;> simp
theorem coded_len : ∀ (l : Bytes), (coded l).length ≤ 3 * l.length
  | [] => by simp [coded]
  | b :: r => by
    have := coded_len r
    have h2 := codedB_len b
    unfold coded at *
    rw [List.flatMap_cons, List.length_append, List.length_cons]
    omega
/-- the digits that are written -/
def hexUp : Bytes := [48, 49, 50, 51, 52, 53, 54, 55, 56, 57, 65, 66, 67, 68, 69, 70]
theorem hexUp_cut (n : Nat) (h : n < 16) : sub hexUp n (n + 1) = [hexD n] := by
  have H : ∀ n : Fin 16, sub hexUp n.val (n.val + 1) = [hexD n.val] := by decide +kernel
  exact H ⟨n, h⟩
theorem marks_at (b : Nat) (hb : b < 256) : decide (0 ≤ Lib.indexByte [42, 45, 46, 95] ((b : Int).toNat.toUInt8)) = (b == 42 || b == 45 || b == 46 || b == 95) := by
  have H : ∀ b : Fin 256, decide (0 ≤ Lib.indexByte [42, 45, 46, 95] ((b.val : Int).toNat.toUInt8)) = (b.val == 42 || b.val == 45 || b.val == 46 || b.val == 95) := by decide +kernel
  exact H ⟨b, hb⟩
def markI (b : Nat) : Int := Lib.indexByte [42, 45, 46, 95] ((b : Int).toNat.toUInt8)
set_option maxRecDepth 100000 in
theorem markI_iff (b : Nat) (hb : b < 256) : 0 ≤ markI b ↔ (b = 42 ∨ b = 45 ∨ b = 46 ∨ b = 95) := by
  have h := marks_at b hb
  have hk : (0 ≤ markI b) ↔ ((b == 42 || b == 45 || b == 46 || b == 95) = true) := by
    rw [← h, decide_eq_true_iff]
    rfl
  rw [hk]
  simp only [Bool.or_eq_true, beq_iff_eq, or_assoc]
theorem and15 (b : Nat) (hb : b < 256) : bits .and .u8 (b : Int) 15 = ((b % 16 : Nat) : Int) := by
  have H : ∀ b : Fin 256, bits .and .u8 (b.val : Int) 15 = ((b.val % 16 : Nat) : Int) := by decide +kernel
  exact H ⟨b, hb⟩
theorem ib_any (b : Nat) (w : World) : Calls Tryd.prog 30 #[.string ⟨#[42, 45, 46, 95]⟩, .int .u8 b] w fun e w' => e = .returned (.int .i64 (markI b)) ∧ w = w' := by
  refine (Tryd.strings_IndexByte _ _ _).mono ?_
  rintro e w' ⟨rfl, rfl⟩
  exact ⟨rfl, rfl⟩
/-- WriteByte at a builder of the call's own, in bytes, whatever its length. -/
theorem bld_byte_big (w : World) (b : Nat) (acc : Bytes) (x : UInt8) (c : Int) (hc : c = x.toNat) (wr : World) (h : Lib.IsBuilder 53 5 w.heap.size b (Lib.byteCells acc) wr) (hlen : acc.length ≤ 140737488355327) (hp : Pur w wr) :
    Calls Tryd.prog 26 #[.pointer (some ⟨b, 0, none⟩), .int .u8 c] wr fun e w' => e = .returned .nilIface ∧ (Lib.IsBuilder 53 5 w.heap.size b (Lib.byteCells (acc ++ [x])) w' ∧ Pur w w') := by
  subst hc
  refine (bld_byte w.heap.size b _ _ wr h (by rw [byteCells_length]; omega) hp.size).mono ?_
  rintro e w' ⟨rfl, h1, h2⟩
  exact ⟨rfl, .inr (byteCells_snoc acc x ▸ h1), Below.trans hp h2⟩
theorem strCells_list (s : Bytes) : Lib.strCells ⟨s.toArray⟩ = Lib.byteCells s := by
  unfold Lib.strCells Lib.byteCells
  simp
theorem byteCells_append (a b : Bytes) : Lib.byteCells a ++ Lib.byteCells b = Lib.byteCells (a ++ b) := by simp [Lib.byteCells]
theorem bld_str_big (w : World) (b : Nat) (acc s : Bytes) (wr : World) (h : Lib.IsBuilder 53 5 w.heap.size b (Lib.byteCells acc) wr) (hlen : acc.length + s.length ≤ 140737488355327) (hp : Pur w wr) :
    Calls Tryd.prog 31 #[.pointer (some ⟨b, 0, none⟩), .string ⟨s.toArray⟩] wr fun e w' => e = .returned (.tuple #[.int .i64 s.length, .nilIface]) ∧ (Lib.IsBuilder 53 5 w.heap.size b (Lib.byteCells (acc ++ s)) w' ∧ Pur w w') := by
  have hz : (ByteArray.mk s.toArray).size = s.length := by show s.toArray.size = _; simp
  refine (bld_str w.heap.size b _ ⟨s.toArray⟩ wr h (by rw [byteCells_length, hz]; omega) hp.size).mono ?_
  rintro e w' ⟨rfl, h1, h2⟩
  rw [strCells_list, byteCells_append] at h1
  rw [hz]
  exact ⟨rfl, .inr h1, Below.trans hp h2⟩
set_option maxRecDepth 100000 in
set_option maxHeartbeats 4000000 in
theorem coded_any (l : Bytes) (w : World) (hs : l.length ≤ 46912496118442) :
    Calls Tryd.prog 21 #[.string ⟨l.toArray⟩] w fun e w' => e = .returned (.string ⟨(coded l).toArray⟩) ∧ Pur w w' := by
  go_enter Tryd.func21, Tryd.ntmps21
  go_wp2
  go_loopw [8] (fun k wr => ∃ (n : Nat) (acc : Bytes), n ≤ l.length ∧ k = .int .i64 n ∧ acc.length ≤ 3 * n ∧ Lib.IsBuilder 53 5 w.heap.size w.heap.size (Lib.byteCells acc) wr ∧ Pur w wr ∧ Hid (coded l = acc ++ coded (l.drop n))) (fun k _ => l.length + 1 - (intOf k).toNat)
  case atStart => exact ⟨0, [], by omega, rfl, by simp, Lib.fresh_isBuilder _ _ w, (Pur.refl w).alloc _, Lib.hid (by simp)⟩
  case round =>
    obtain ⟨n, acc, hn, rfl, hacc, hown, hpr, H⟩ := hrel
    by_cases hlt : n < l.length
    · have hlt' : (n : Int) < l.length := by omega
      have cb := by8_lt l n
      have M := Lib.hid (markI_iff _ cb)
      go_upto_region 7 with (fail)
      go_cut [8, 29] from 8 to 63 (fun k t wx => ∃ b, k = .int .i64 n ∧ t = .bool b ∧ wx = wr ∧ Hid (plainB (by8 l n) = b))
      case first =>
        go_wp2_with (go_at_call 30; refine (ib_any _ _).mono ?_; rintro e w' ⟨rfl, rfl⟩)
        all_goals
          go_meet
          refine ⟨_, rfl, rfl, rfl, Lib.hid ?_⟩
          have := M.out
          rw [Bool.eq_iff_iff]
          simp [plainB]
          omega
      case rest =>
        obtain ⟨b, rfl, rfl, rfl, HB⟩ := hcut
        have hp := HB.out
        rcases b with _ | _
        case true =>
          have HS := Lib.hid (coded_step hlt H.out (codedB_plain _ hp))
          clear hp HB
          go_wp2_with fail
          refine (bld_byte_big w _ acc (l.getD n 0) _ (by8_toNat l n) _ hown (by omega) hpr).mono ?_
          rintro e w1 ⟨rfl, hown1, hpr1⟩
          go_wp2
          go_roundw
          case rel => exact ⟨n + 1, acc ++ [l.getD n 0], by omega, by go_num, by simp; omega, hown1, hpr1, HS⟩
          case measure => simp [intOf]; omega
        case false =>
          by_cases hs : by8 l n = 32
          · have h32 : ((by8 l n : Int) == 32) = true := by simp; omega
            have HS := Lib.hid (coded_step hlt H.out (codedB_space _ hs))
            clear hs hp HB
            go_wp2_with fail
            refine (bld_byte_big w _ acc 43 _ rfl _ hown (by omega) hpr).mono ?_
            rintro e w1 ⟨rfl, hown1, hpr1⟩
            go_wp2
            go_roundw
            case rel => exact ⟨n + 1, acc ++ [43], by omega, by go_num, by simp; omega, hown1, hpr1, HS⟩
            case measure => simp [intOf]; omega
          · have h32 : ((by8 l n : Int) == 32) = false := by simp; omega
            have HS := Lib.hid (coded_step hlt H.out (codedB_other _ hp hs))
            have q1 : bits .and .u8 (by8 l n : Int) 15 = (by8 l n : Int) % 16 := by rw [and15 _ cb]; omega
            have t4 : ((by8 l n : Int) % 16).toNat = by8 l n % 16 := by omega
            have b7 : (0 : Int) ≤ (by8 l n : Int) % 16 := by omega
            have b8 : (by8 l n : Int) % 16 ≤ (by8 l n : Int) % 16 + 1 := by omega
            have w1 : IntKind.u8.wrap ((by8 l n : Int) / 16 + 1) = (by8 l n : Int) / 16 + 1 := IntWalk.u8_in _ (by omega)
            have w2 : IntKind.u8.wrap ((by8 l n : Int) % 16 + 1) = (by8 l n : Int) % 16 + 1 := IntWalk.u8_in _ (by omega)
            have b1 : (0 : Int) ≤ (by8 l n : Int) / 16 := by omega
            have b2 : (by8 l n : Int) / 16 + 1 ≤ 16 := by omega
            have b3 : (0 : Int) ≤ (by8 l n : Int) / 16 + 1 := by omega
            have b4 : (by8 l n : Int) / 16 ≤ (by8 l n : Int) / 16 + 1 := by omega
            have t1 : ((by8 l n : Int) / 16).toNat = by8 l n / 16 := by omega
            have t2 : ((by8 l n : Int) / 16 + 1).toNat = by8 l n / 16 + 1 := by omega
            have t3 : ((by8 l n : Int) % 16 + 1).toNat = by8 l n % 16 + 1 := by omega
            have b5 : (by8 l n : Int) % 16 + 1 ≤ 16 := by omega
            have b6 : (0 : Int) ≤ (by8 l n : Int) % 16 + 1 := by omega
            have s1 : sub [48, 49, 50, 51, 52, 53, 54, 55, 56, 57, 65, 66, 67, 68, 69, 70] (by8 l n / 16) (by8 l n / 16 + 1) = [hexD (by8 l n / 16)] := hexUp_cut _ (by omega)
            have s2 : sub [48, 49, 50, 51, 52, 53, 54, 55, 56, 57, 65, 66, 67, 68, 69, 70] (by8 l n % 16) (by8 l n % 16 + 1) = [hexD (by8 l n % 16)] := hexUp_cut _ (by omega)
            clear hs hp HB
            go_wp2_with fail
            refine wp_region_still_tail 14 (by kernel_rfl) (by kernel_rfl) ?_
            simp only [List.take_succ_cons, List.take_zero, List.drop_succ_cons, List.drop_zero]
            repeat still_step
            refine wpStill_nil ?_
            change wpList _ _ _ _ _ wc.drew
            go_wp2_with fail
            refine (bld_str_big w _ acc [37, hexD (by8 l n / 16), hexD (by8 l n % 16)] _ (bld_pur hown (Pur.refl wc).drew) (by simp; omega) (hpr.trans (Pur.refl wc).drew)).mono ?_
            rintro e w1 ⟨rfl, hown1, hpr1⟩
            go_wp2
            go_roundw
            case rel => exact ⟨n + 1, acc ++ [37, hexD (by8 l n / 16), hexD (by8 l n % 16)], by omega, by go_num, by simp; omega, hown1, hpr1, HS⟩
            case measure => simp [intOf]; omega
    · have HS := Lib.hid (coded_end (by omega) H.out)
      have hlt' : decide (n < l.length) = false := by simp; omega
      go_wp2_with (go_at_call 28; refine (Tryd.Builder_String_any w.heap.size _ acc _ hown hpr.size).mono ?_)
      rintro e w1 ⟨rfl, hb1⟩
      go_wp2
      go_ret
      refine ⟨?_, Below.trans hpr hb1⟩
      rw [HS.out]
      rfl
end Go.Proofs.YthfoidodcfdpnaaDoor
