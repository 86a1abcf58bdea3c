/- What the reference's Length, At, Unit, Cut and Find compute. -/
import Derived.Test.YtipnlgcicdnhdaaDoorUtf1
namespace Go.Proofs.YtipnlgcicdnhdaaDoor
open Go Go.RowKit
theorem rlength_any (l : List UInt8) (w : World) (hs : l.length ≤ 9223372036854775807) :
    Calls Tryd.prog 35 #[.string ⟨l.toArray⟩] w fun e w' => e = .returned (.int .i64 (l.length / 2 : Nat)) ∧ w = w' := by
  go_enter Tryd.func35, Tryd.ntmps35
  go_wp2
  go_ret
  exact ⟨rfl, rfl⟩
theorem rat_in (l : List UInt8) (i : Nat) (w : World) (hs : l.length ≤ 9223372036854775807) (h : i < l.length / 2) :
    Calls Tryd.prog 24 #[.string ⟨l.toArray⟩, .int .i64 i] w fun e w' => e = .returned (.int .i64 (at16 l i)) ∧ Pur w w' := by
  have b2 : 2 * (i : Int) + 1 < l.length := by omega
  have n0 : (i : Int) ≤ (l.length : Int) / 2 - 1 := by omega
  have hw : IntKind.i64.wrap (2 * (i:Int)) = 2 * (i:Int) := IntWalk.i64_in _ (by omega)
  have hw1 : IntKind.i64.wrap (2 * (i:Int) + 1) = 2 * (i:Int) + 1 := IntWalk.i64_in _ (by omega)
  have l1 := by8_lt l (2*i)
  have l2 := by8_lt l (2*i+1)
  go_enter Tryd.func24, Tryd.ntmps24
  go_wp2
  go_quiet (fail)
  go_wp2
  go_ret
  exact ⟨rfl, (Pur.refl w).drewN nq⟩
theorem rat_out (l : List UInt8) (i : Int) (w : World) (hs : l.length ≤ 9223372036854775807) (h : i < 0 ∨ (l.length / 2 : Nat) ≤ i) :
    Calls Tryd.prog 24 #[.string ⟨l.toArray⟩, .int .i64 i] w fun e w' => e = .returned (.int .i64 (-1)) ∧ Pur w w' := by
  by_cases h0 : i < 0
  · go_enter Tryd.func24, Tryd.ntmps24
    go_wp2
    go_ret
    exact ⟨rfl, Pur.refl w⟩
  · have h1 : (l.length : Int) / 2 - 1 < i := by omega
    clear h
    go_enter Tryd.func24, Tryd.ntmps24
    go_wp2
    go_ret
    exact ⟨rfl, Pur.refl w⟩
theorem runit_any (u : Int) (w : World) (h0 : 0 ≤ u) (hu : u < 65536) :
    Calls Tryd.prog 29 #[.int .i64 u] w fun e w' => e = .returned (.string ⟨(unit8 u.toNat).toArray⟩) ∧ Pur w w' := by
  obtain ⟨u, rfl⟩ := Int.eq_ofNat_of_zero_le h0
  rw [Int.toNat_natCast]
  go_enter Tryd.func29, Tryd.ntmps29
  go_wp2
  go_ret
  refine ⟨?_, (Pur.refl w).alloc _⟩
  show Ending.returned (Value.string ⟨[B8 ((u : Int) / 256), B8 ((u : Int) % 256)].toArray⟩) = _
  rfl
theorem rcut_any (l : List UInt8) (i j : Int) (w : World) (hs : l.length ≤ 4611686018427387903) :
    Calls Tryd.prog 26 #[.string ⟨l.toArray⟩, .int .i64 i, .int .i64 j] w fun e w' => e = .returned (.string ⟨(cutU l i j).toArray⟩) ∧ Pur w w' := by
  go_enter Tryd.func26, Tryd.ntmps26
  go_wp2
  go_loop [7, 8] (fun o k => ∃ n : Nat, (max i 0).toNat ≤ n ∧ (n ≤ (max i 0).toNat ∨ (n : Int) ≤ min j (l.length / 2 : Nat)) ∧ k = .int .i64 n ∧ o = .string ⟨(sub l (2 * (max i 0).toNat) (2 * n)).toArray⟩) (fun _ k => l.length / 2 - (intOf k).toNat)
  case atStart => exact ⟨_, Nat.le_refl _, .inl (Nat.le_refl _), by rw [Int.toNat_of_nonneg (by omega)], by rw [sub_nil l (Nat.le_refl _)]⟩
  case round =>
    obtain ⟨n, h1, h2, rfl, rfl⟩ := hrel
    have hl := length_sub_le l (2 * (max i 0).toNat) (2 * n)
    by_cases hlt : (n : Int) < min j ((l.length : Int) / 2)
    · have hsa := Lib.hid (sub_append l (a := 2 * (max i 0).toNat) (b := 2 * n) (c := 2 * n + 2) (by omega) (by omega))
      have hl2 := length_sub_le l (2 * n) (2 * n + 2)
      go_wp2_with (go_at_call 35; refine (rlength_any _ _ (by omega)).mono ?_; rintro e w' ⟨rfl, rfl⟩)
      go_round
      case rel => exact ⟨n + 1, by omega, by omega, by go_num, by rw [hsa.out]; rfl⟩
      case measure => simp [intOf]; omega
    · go_wp2_with (go_at_call 35; refine (rlength_any _ _ (by omega)).mono ?_; rintro e w' ⟨rfl, rfl⟩)
      go_ret
      refine ⟨?_, Pur.refl w⟩
      show Ending.returned (Value.string ⟨(sub l (2 * (max i 0).toNat) (2 * n)).toArray⟩) = _
      rw [cutU]
      by_cases hz : (max i 0).toNat ≤ l.length / 2
      · rw [show 2 * clamp i (l.length / 2) = 2 * (max i 0).toNat by unfold clamp; omega]
        by_cases hn : n ≤ (max i 0).toNat
        · rw [sub_nil l (by omega), sub_nil l (by unfold clamp; omega)]
        · rw [show 2 * clamp j (l.length / 2) = 2 * n by unfold clamp; omega]
      · rw [sub_nil l (b := 2 * n) (by omega), sub_nil l (a := 2 * clamp i (l.length / 2)) (by unfold clamp; omega)]
theorem rfind_any (l p : List UInt8) (i : Int) (w : World) (hs : l.length ≤ 4611686018427387903) (hp : p.length ≤ 4611686018427387903) :
    Calls Tryd.prog 25 #[.string ⟨l.toArray⟩, .string ⟨p.toArray⟩, .int .i64 i] w fun e w' => e = .returned (.int .i64 (findU l (sub p 0 (2 * (p.length / 2))) (p.length / 2) (max i 0).toNat)) ∧ Pur w w' := by
  go_enter Tryd.func25, Tryd.ntmps25
  go_wp2_with (go_at_call 35; refine (rlength_any _ _ (by omega)).mono ?_; rintro e w' ⟨rfl, rfl⟩)
  go_loopw [8] (fun k wr => ∃ n : Nat, (n ≤ (max i 0).toNat ∨ n ≤ 4611686018427387904) ∧ k = .int .i64 n ∧ Pur w wr ∧ Hid (findU l (sub p 0 (2 * (p.length / 2))) (p.length / 2) (max i 0).toNat = findU l (sub p 0 (2 * (p.length / 2))) (p.length / 2) n)) (fun k _ => l.length / 2 + 1 - (intOf k).toNat)
  case atStart => exact ⟨(max i 0).toNat, by omega, by rw [Int.toNat_of_nonneg (by omega)], Pur.refl w, Lib.hid rfl⟩
  case round =>
    obtain ⟨n, hn, rfl, hP, H⟩ := hrel
    by_cases hlt : (n : Int) ≤ (l.length : Int) / 2 - (p.length : Int) / 2
    · go_wp2_with (go_at_call 35; refine (rlength_any _ _ (by omega)).mono ?_; rintro e w' ⟨rfl, rfl⟩)
      have w1 : IntKind.i64.wrap ((n : Int) + (p.length : Int) / 2) = (n : Int) + (p.length : Int) / 2 := IntWalk.i64_in _ (by omega)
      have w2 : IntKind.i64.wrap (2 * ((p.length : Int) / 2)) = 2 * ((p.length : Int) / 2) := IntWalk.i64_in _ (by omega)
      have b1 : 0 ≤ 2 * ((p.length : Int) / 2) := by omega
      have b2 : 2 * ((p.length : Int) / 2) ≤ (p.length : Int) := by omega
      have e1 : cutU l (n : Int) ((n : Int) + (p.length : Int) / 2) = sub l (2 * n) (2 * (n + p.length / 2)) := by
        rw [cutU]
        congr 1 <;> unfold clamp <;> omega
      have e2 : sub p 0 (2 * ((p.length : Int) / 2)).toNat = sub p 0 (2 * (p.length / 2)) := by congr 1
      have hstep : n + p.length / 2 ≤ l.length / 2 := by omega
      by_cases heq : sub l (2 * n) (2 * (n + p.length / 2)) = sub p 0 (2 * (p.length / 2))
      · have hb : (cutU l (n : Int) ((n : Int) + (p.length : Int) / 2) == sub p 0 (2 * ((p.length : Int) / 2)).toNat) = true := by rw [e1, e2, heq]; simp
        clear e1 e2
        refine wp_region_pur (by kernel_rfl) (by kernel_rfl) ?_
        repeat (quiet_step ((go_at_call 26; exact quiet_pur (rcut_any _ _ _ _ hs))))
        refine wpQuiet_nil ?_
        intro wq hq
        go_wp2
        go_ret
        refine ⟨?_, hP.trans hq⟩
        rw [H.out, findU, dif_pos (by omega), if_pos heq]
        rfl
      · have hb : (cutU l (n : Int) ((n : Int) + (p.length : Int) / 2) == sub p 0 (2 * ((p.length : Int) / 2)).toNat) = false := by rw [e1, e2]; simp [heq]
        clear e1 e2
        refine wp_region_pur (by kernel_rfl) (by kernel_rfl) ?_
        repeat (quiet_step ((go_at_call 26; exact quiet_pur (rcut_any _ _ _ _ hs))))
        refine wpQuiet_nil ?_
        intro wq hq
        go_wp2
        go_roundw
        case rel => exact ⟨n + 1, by omega, by go_num, hP.trans hq, Lib.hid (by rw [H.out, findU, dif_pos (by omega), if_neg heq])⟩
        case measure => simp [intOf]; omega
    · go_wp2_with (go_at_call 35; refine (rlength_any _ _ (by omega)).mono ?_; rintro e w' ⟨rfl, rfl⟩)
      go_ret
      refine ⟨?_, hP⟩
      rw [H.out, findU, dif_neg (by omega)]
      rfl
end Go.Proofs.YtipnlgcicdnhdaaDoor
