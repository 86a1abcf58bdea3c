/- What a name or a value says: the document's Said. -/
import Derived.Test.YthfoidodcfdpnaaDoorFld2
namespace Go.Proofs.YthfoidodcfdpnaaDoor
open Go Go.RowKit
theorem B8_by8 (l : Bytes) (n : Nat) : B8 (by8 l n : Int) = l.getD n 0 := by rw [by8_toNat, B8_toNat]
set_option maxHeartbeats 2000000 in
theorem rsaid_any (l : Bytes) (w : World) (hs : l.length ≤ 1000000) :
    Calls Tryd.prog 20 #[.string ⟨l.toArray⟩] w fun e w' => e = .returned (.tuple #[.string ⟨((said l).getD []).toArray⟩, .bool (said l).isSome]) ∧ Pur w w' := by
  go_enter Tryd.func20, Tryd.ntmps20
  go_wp2
  go_loopw [4, 5] (fun o k wr => ∃ (n : Nat) (acc : Bytes), n ≤ l.length ∧ k = .int .i64 n ∧ o = .string ⟨acc.toArray⟩ ∧ acc.length ≤ n ∧ Pur w wr ∧ Hid (said l = (said (l.drop n)).map (acc ++ ·))) (fun _ k _ => l.length + 1 - (intOf k).toNat)
  case atStart => exact ⟨0, [], by omega, rfl, rfl, by simp, Pur.refl w, Lib.hid (by simp)⟩
  case round =>
    obtain ⟨n, acc, hn, rfl, rfl, hacc, hpr, H⟩ := hrel
    by_cases hlt : n < l.length
    · have hlt' : (n : Int) < l.length := by omega
      by_cases h1 : by8 l n = 43
      · have HS := Lib.hid (said_step H.out (said_plus l n hlt h1))
        have hd : ((by8 l n : Int) == 43) = true := by simp; omega
        clear h1
        go_wp2
        go_roundw
        case rel => exact ⟨n + 1, acc ++ [32], by omega, by go_num, rfl, by simp; omega, hpr.alloc _, HS⟩
        case measure => simp [intOf]; omega
      by_cases h2 : by8 l n = 37
      · have hd : ((by8 l n : Int) == 43) = false := by simp; omega
        have hd2 : ((by8 l n : Int) == 37) = true := by simp; omega
        have w1 : IntKind.i64.wrap ((n : Int) + 1) = (n : Int) + 1 := IntWalk.i64_in _ (by omega)
        have w2 : IntKind.i64.wrap ((n : Int) + 1 + 1) = (n : Int) + 1 + 1 := IntWalk.i64_in _ (by omega)
        have w4 : IntKind.i64.wrap ((n : Int) + 1 + 2) = (n : Int) + 1 + 2 := IntWalk.i64_in _ (by omega)
        by_cases h3 : n + 2 < l.length
        · have d3 : decide ((l.length : Int) ≤ (n : Int) + 1 + 1) = false := by simp; omega
          have n1 : ((n : Int) + 1).toNat = n + 1 := by omega
          have n2 : ((n : Int) + 1 + 1).toNat = n + 2 := by omega
          have b1 : (n : Int) + 1 < l.length := by omega
          have b2 : (n : Int) + 1 + 1 < l.length := by omega
          have c1 : (0 : Int) ≤ (n : Int) + 1 := by omega
          have c2 : (0 : Int) ≤ (n : Int) + 1 + 1 := by omega
          have S1 := fun w => rsixteen_any (by8 l (n + 1)) w (by8_lt _ _)
          have S2 := fun w => rsixteen_any (by8 l (n + 1 + 1)) w (by8_lt _ _)
          have g := said_pct l n h3 h2
          have r1 := hexV_range (by8 l (n + 1))
          have r2 := hexV_range (by8 l (n + 1 + 1))
          change _ = if hexV (by8 l (n + 1)) < 0 ∨ hexV (by8 l (n + 1 + 1)) < 0 then none else (said (l.drop (n + 3))).map (B8 (hexV (by8 l (n + 1)) * 16 + hexV (by8 l (n + 1 + 1))) :: ·) at g
          generalize hexV (by8 l (n + 1)) = p at *
          generalize hexV (by8 l (n + 1 + 1)) = q at *
          by_cases hb : p < 0 ∨ q < 0
          · have HS := Lib.hid (said_fail H.out (by rw [g, if_pos hb]))
            rcases (show p < 0 ∨ (0 ≤ p ∧ q < 0) by omega) with hb' | ⟨hb', hb''⟩
            all_goals
              clear g h1 h2 h3 hb
              go_wp2
              refine wp_region_pur (by kernel_rfl) (by kernel_rfl) ?_
              repeat (quiet_step ((first | (go_at_call 29; with_reducible exact quiet_eq (S1 _)) | (go_at_call 29; with_reducible exact quiet_eq (S2 _)))))
              refine wpQuiet_nil ?_
              intro wq hq
              go_wp2
              go_ret2
              refine ⟨?_, hpr.trans hq⟩
              rw [HS.out]
              rfl
          · have HS := Lib.hid (said_step (m := n + 3) (x := B8 (p * 16 + q)) H.out (by rw [g, if_neg hb]))
            obtain ⟨p, rfl⟩ := Int.eq_ofNat_of_zero_le (show 0 ≤ p by omega)
            obtain ⟨q, rfl⟩ := Int.eq_ofNat_of_zero_le (show 0 ≤ q by omega)
            have w3 : IntKind.i64.wrap ((p : Int) * 16) = (p : Int) * 16 := IntWalk.i64_in _ (by omega)
            have w5 : IntKind.i64.wrap ((p : Int) * 16 + q) = (p : Int) * 16 + q := IntWalk.i64_in _ (by omega)
            have t1 : decide ((p : Int) < 0) = false := decide_eq_false (by omega)
            have t2 : decide ((q : Int) < 0) = false := decide_eq_false (by omega)
            have w6 : IntKind.u8.wrap ((p : Int) * 16 + q) = (p : Int) * 16 + q := IntWalk.u8_in _ (by omega)
            clear g h1 h2 hb r1 r2
            go_wp2
            refine wp_region_pur (by kernel_rfl) (by kernel_rfl) ?_
            repeat (quiet_step ((first | (go_at_call 29; with_reducible exact quiet_eq (S1 _)) | (go_at_call 29; with_reducible exact quiet_eq (S2 _)))))
            refine wpQuiet_nil ?_
            intro wq hq
            go_wp2
            go_roundw
            case rel => exact ⟨n + 3, acc ++ [B8 ((p : Int) * 16 + q)], by omega, by go_num, rfl, by simp; omega, (hpr.trans hq).alloc _, HS⟩
            case measure => simp [intOf]; omega
        · have HS := Lib.hid (said_fail H.out (said_short l n hlt h2 (by omega)))
          have d3 : decide ((l.length : Int) ≤ (n : Int) + 1 + 1) = true := by simp; omega
          clear h1 h2 h3
          go_wp2
          go_ret2
          refine ⟨?_, hpr⟩
          rw [HS.out]
          rfl
      · have HS := Lib.hid (said_step H.out (said_other l n hlt h1 h2))
        have hd : ((by8 l n : Int) == 43) = false := by simp; omega
        have hd2 : ((by8 l n : Int) == 37) = false := by simp; omega
        clear h1 h2
        go_wp2
        go_roundw
        case rel => exact ⟨n + 1, acc ++ [l.getD n 0], by omega, by go_num, by rw [B8_by8], by simp; omega, hpr.alloc _, HS⟩
        case measure => simp [intOf]; omega
    · have HS := Lib.hid (said_done H.out (by omega))
      have hlt' : (l.length : Int) ≤ n := by omega
      go_wp2
      go_ret2
      refine ⟨?_, hpr⟩
      rw [HS.out]
      rfl
end Go.Proofs.YthfoidodcfdpnaaDoor
