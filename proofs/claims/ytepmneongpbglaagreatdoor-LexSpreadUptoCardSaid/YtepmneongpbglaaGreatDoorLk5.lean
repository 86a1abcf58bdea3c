/- Layer 5: a character as a wide text, digits of sixteen, what stands behind a backslash. -/
import Derived.Test.YtepmneongpbglaaGreatDoorLk3
import Derived.Test.YtepmneongpbglaaGreatDoorUtfPure4
import Derived.WalkLawsBesides
namespace Go.Proofs.YtepmneongpbglaaGreatDoor
open Go Go.RowKit
set_option linter.all false
namespace Lx
theorem units_eq (c : Nat) : units c = _root_.Go.Proofs.YtepmneongpbglaaGreatDoor.units c := by
  unfold units _root_.Go.Proofs.YtepmneongpbglaaGreatDoor.units
  by_cases h : c < 65536
  · rw [if_pos h, if_neg (by omega)]
  · rw [if_neg h, if_pos (by omega)]
theorem encode_enc (c : Nat) (h : okc c) : Utf8.encode (c : Int) = ⟨(enc c).toArray⟩ := by
  have hv : Utf8.valid (c : Int) = true := by
    unfold okc at h
    simp only [Utf8.valid, Bool.or_eq_true, Bool.and_eq_true, decide_eq_true_eq]
    omega
  unfold Utf8.encode enc
  rw [hv]
  simp only [if_true, Int.toNat_natCast]
  split
  · rfl
  split
  · rfl
  split
  · rfl
  · rfl
theorem chr_okc {l : List UInt8} {i : Nat} (h : (chr l i).2 ≠ 0) : okc (chr l i).1 := by
  have hN : ∀ n c low, (chrN l i n c low).2 ≠ 0 → okc (chrN l i n c low).1 := fun n c low g => by
    unfold chrN at g ⊢
    split
    · rename_i q
      unfold okc
      have := q.2.2
      simp only
      omega
    · rename_i q; rw [if_neg q] at g; exact absurd rfl g
  have hb := by8_lt l i
  unfold chr at h ⊢
  split
  · rename_i q; rw [if_pos q] at h; exact absurd rfl h
  · rename_i q
    rw [if_neg q] at h
    split
    · unfold okc; simp only; omega
    · rename_i q1; rw [if_neg q1] at h
      split
      · rename_i q2; rw [if_pos q2] at h; exact hN _ _ _ h
      · rename_i q2; rw [if_neg q2] at h
        split
        · rename_i q3; rw [if_pos q3] at h; exact hN _ _ _ h
        · rename_i q3; rw [if_neg q3] at h
          split
          · rename_i q4; rw [if_pos q4] at h; exact hN _ _ _ h
          · rename_i q4; rw [if_neg q4] at h; exact absurd rfl h
set_option maxRecDepth 100000 in
theorem widec_any (c : Nat) (h : okc c) (w : World) (hT : LW w) : Calls Tryz.prog 46 #[.string ⟨(enc c).toArray⟩] w fun e w' => e = .returned (.string ⟨(units c).toArray⟩) ∧ Pur w w' := by
  have hle := enc_length_le c
  have WD := wide_any (enc c) w hT.tabs (by omega)
  rw [wideR_enc c h] at WD
  rw [units_eq]
  generalize enc c = s at *
  generalize _root_.Go.Proofs.YtepmneongpbglaaGreatDoor.units c = u at *
  go_enter Tryz.func46, Tryz.ntmps46
  go_wp2_with fail
  refine WD.mono ?_
  rintro e w1 ⟨rfl, p1⟩
  go_wp2
  go_ret
  exact ⟨rfl, p1⟩
/-- how digits of sixteen end -/
def HexPost (w : World) (p : Nat) (l : List UInt8) (ln : Bool) (v : Value) (r : Option (Nat × Nat)) (e : Ending) (w' : World) : Prop := match r with
  | some (u, j) => e = .returned (.tuple #[.string ⟨(unit8 u).toArray⟩, .bool true]) ∧ Lb w' p l j ln v ∧ Chg [p] w w'
  | none => e = .returned (.tuple #[.string ⟨#[]⟩, .bool false]) ∧ (∃ j, Lb w' p l j ln v) ∧ Chg [p] w w'
theorem hexv_or : ∀ b : Nat, b < 256 → sixteen b = true → digit b = false → 97 ≤ b ||| 32 ∧ hexv b = (b ||| 32) - 97 + 10 ∧ (b ||| 32) < 256 := by decide +kernel
set_option maxRecDepth 100000 in
set_option maxHeartbeats 8000000 in
theorem digits_any {w : World} {p i : Nat} {l : List UInt8} {ln : Bool} {v : Value} (n : Nat) (hn : n ≤ 4) (h : Lb w p l i ln v) (hi : i ≤ l.length) (hl : l.length ≤ 1000000) :
    Calls Tryz.prog 62 #[.pointer (some ⟨p, 0, none⟩), .int .i64 (n : Int)] w fun e w' => HexPost w p l ln v (hexGo l n i 0) e w' := by
  go_enter Tryz.func62, Tryz.ntmps62
  go_wp2
  go_loopw [6, 10] (fun u k wr => ∃ (m j x : Nat), m ≤ n ∧ j ≤ l.length ∧ k = .int .i64 m ∧ u = .int .i64 x ∧ x < 16 ^ m ∧ Lb wr p l j ln v ∧ Chg [p] w wr ∧ Hid (hexGo l n i 0 = hexGo l (n - m) j x)) (fun _ k _ => n + 1 - (intOf k).toNat)
  case atStart => exact ⟨0, i, 0, by omega, hi, rfl, rfl, by decide, h, Chg.refl _ _, Lib.hid rfl⟩
  case round =>
    obtain ⟨m, j, x, hm, hj, rfl, rfl, hx, k, G, H⟩ := hrel
    have hx4 : x < 65536 := Nat.lt_of_lt_of_le hx (show 16 ^ m ≤ 16 ^ 4 from Nat.pow_le_pow_right (by decide) (by omega))
    by_cases hmn : m < n
    · have hmn' : (m : Int) < n := by omega
      have hb8 := by8_lt l j
      have PK := peek_any k
      have SX := fun w => sixteen_any (by8 l j) w hb8
      have hgo : hexGo l (n - m) j x = if sixteen (by8 l j) then hexGo l (n - (m + 1)) (j + 1) (x * 16 + hexv (by8 l j)) else none := by
        obtain ⟨d, hd⟩ : ∃ d, n - m = d + 1 := ⟨n - m - 1, by omega⟩
        rw [hd, show n - (m + 1) = d by omega, hexGo]
      rcases hs : sixteen (by8 l j) with _ | _
      · rw [hs] at hgo SX
        have HS := Lib.hid (H.out.trans hgo)
        clear H hgo
        go_wp2_with fail
        refine PK.mono ?_
        rintro e w1 ⟨rfl, p1⟩
        go_wp2_with fail
        refine (SX _).mono ?_
        rintro e w2 ⟨rfl, rfl⟩
        go_wp2
        go_ret2
        rw [HS.out]
        exact ⟨rfl, ⟨_, k.pur p1⟩, G.pur p1⟩
      · rw [hs, if_pos rfl] at hgo
        rw [hs] at SX
        have HS := Lib.hid (H.out.trans hgo)
        have hjl : j < l.length := at_lt (fun e => by rw [e] at hs; exact absurd hs (by decide))
        have w1' : IntKind.i64.wrap ((j : Int) + 1) = (j : Int) + 1 := IntWalk.i64_in _ (by omega)
        have w2' : IntKind.i64.wrap ((m : Int) + 1) = (m : Int) + 1 := IntWalk.i64_in _ (by omega)
        have w3' : IntKind.i64.wrap ((x : Int) * 16) = (x : Int) * 16 := IntWalk.i64_in _ (by omega)
        have DG := fun w => digit_any (by8 l j) w
        have hpw : 16 ^ (m + 1) = 16 ^ m * 16 := Nat.pow_succ ..
        have hv16 : hexv (by8 l j) < 16 ∧ 48 ≤ by8 l j := by
          have : ∀ b : Nat, b < 256 → sixteen b = true → hexv b < 16 ∧ 48 ≤ b := by decide +kernel
          exact this _ hb8 hs
        have w7' : IntKind.u8.wrap ((by8 l j : Int) - 48) = (by8 l j : Int) - 48 := IntWalk.u8_in _ (by omega)
        have w8' : IntKind.i64.wrap ((by8 l j : Int) - 48) = (by8 l j : Int) - 48 := IntWalk.i64_in _ (by omega)
        rcases hd : digit (by8 l j) with _ | _
        · obtain ⟨o1, o2, o3⟩ := hexv_or (by8 l j) hb8 hs hd
          have ho : bits .or .u8 (by8 l j : Int) 32 = ((by8 l j ||| 32 : Nat) : Int) := u8_or_nat (by8 l j) 32 hb8 (by decide)
          rw [hd] at DG
          generalize hexv (by8 l j) = hv at *
          generalize (by8 l j ||| 32) = o at *
          have w4' : IntKind.u8.wrap ((o : Int) - 97) = (o : Int) - 97 := IntWalk.u8_in _ (by omega)
          have w9' : IntKind.i64.wrap ((o : Int) - 97) = (o : Int) - 97 := IntWalk.i64_in _ (by omega)
          have w5' : IntKind.i64.wrap ((o : Int) - 97 + 10) = (hv : Int) := by rw [IntWalk.i64_in _ (by omega)]; omega
          have w6' : IntKind.i64.wrap ((x : Int) * 16 + (hv : Int)) = (x : Int) * 16 + (hv : Int) := IntWalk.i64_in _ (by omega)
          clear H hgo hs hd o1 o2
          go_wp2_with fail
          refine PK.mono ?_
          rintro e w1 ⟨rfl, p1⟩
          go_wp2_with fail
          refine (SX _).mono ?_
          rintro e w2 ⟨rfl, rfl⟩
          have k1 := k.pur p1
          have c1 := k1.c1
          have f1 := k1.f 1
          have k2 := k1.seti (j + 1) ((j : Int) + 1) (by omega)
          have G2 := (G.pur p1).trans (chg1 p w1 1 (.int .i64 ((j : Int) + 1)))
          go_wp2_with fail
          refine (DG _).mono ?_
          rintro e w3 ⟨rfl, rfl⟩
          go_wp2
          go_roundw
          case rel => exact ⟨m + 1, j + 1, x * 16 + hv, by omega, by omega, by go_num, by go_num, by omega, k2, G2, HS⟩
          case measure => simp [intOf]; omega
        · have hv : hexv (by8 l j) = by8 l j - 48 := by unfold hexv; rw [if_pos hd]
          rw [hv] at HS hv16
          rw [hd] at DG
          have w6' : IntKind.i64.wrap ((x : Int) * 16 + ((by8 l j : Int) - 48)) = (x : Int) * 16 + ((by8 l j : Int) - 48) := IntWalk.i64_in _ (by omega)
          clear H hgo hs hd hv
          go_wp2_with fail
          refine PK.mono ?_
          rintro e w1 ⟨rfl, p1⟩
          go_wp2_with fail
          refine (SX _).mono ?_
          rintro e w2 ⟨rfl, rfl⟩
          have k1 := k.pur p1
          have c1 := k1.c1
          have f1 := k1.f 1
          have k2 := k1.seti (j + 1) ((j : Int) + 1) (by omega)
          have G2 := (G.pur p1).trans (chg1 p w1 1 (.int .i64 ((j : Int) + 1)))
          go_wp2_with fail
          refine (DG _).mono ?_
          rintro e w3 ⟨rfl, rfl⟩
          go_wp2
          go_roundw
          case rel => exact ⟨m + 1, j + 1, x * 16 + (by8 l j - 48), by omega, by omega, by go_num, by congr 1; omega, by omega, k2, G2, HS⟩
          case measure => simp [intOf]; omega
    · obtain rfl : m = n := by omega
      have hmn' : ¬ (m : Int) < m := by omega
      have HS := Lib.hid (show hexGo l m i 0 = some (x, j) by rw [H.out, Nat.sub_self, hexGo])
      clear H hmn
      go_wp2
      go_ret2
      rw [HS.out]
      refine ⟨?_, k.pur ((Pur.refl _).alloc _), G.pur ((Pur.refl _).alloc _)⟩
      show Ending.returned (Value.tuple #[Value.string ⟨[B8 ((x : Int) / 256), B8 ((x : Int) % 256)].toArray⟩, .bool true]) = _
      rfl
end Lx
end Go.Proofs.YtepmneongpbglaaGreatDoor
