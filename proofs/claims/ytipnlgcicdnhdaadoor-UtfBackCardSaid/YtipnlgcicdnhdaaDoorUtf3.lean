/- What unit, turned, Lower, Upper and Find of the layer utf compute, and the reference's Case. -/
import Derived.Test.YtipnlgcicdnhdaaDoorUtf2
import Derived.Test.YtipnlgcicdnhdaaDoorShelf
namespace Go.Proofs.YtipnlgcicdnhdaaDoor
open Go Go.RowKit
def lowOf (g : Bool) : Int := if g then 97 else 65
theorem lowOf_bd (g : Bool) : 65 ≤ lowOf g ∧ lowOf g ≤ 97 := by cases g <;> decide
theorem caseU_in (g : Bool) (u : Nat) (h : lowOf g ≤ u ∧ (u : Int) ≤ lowOf g + 25) : caseU g u = u ^^^ 32 := by
  cases g
  · simp only [lowOf] at h
    rw [xor32_down u (by simp at h; omega) (by simp at h; omega)]
    simp only [caseU]; rw [if_neg (by decide), if_pos (by simp at h; omega)]
  · simp only [lowOf] at h
    rw [xor32_up u (by simp at h; omega) (by simp at h; omega)]
    simp only [caseU]; rw [if_pos trivial, if_pos (by simp at h; omega)]
theorem caseU_out (g : Bool) (u : Nat) (h : ¬ (lowOf g ≤ u ∧ (u : Int) ≤ lowOf g + 25)) : caseU g u = u := by
  cases g
  · simp only [lowOf] at h
    simp only [caseU]; rw [if_neg (by decide), if_neg (by simp at h; omega)]
  · simp only [lowOf] at h
    simp only [caseU]; rw [if_pos trivial, if_neg (by simp at h; omega)]
theorem xor32_lt (b : Nat) (h : b < 256) : b ^^^ 32 < 256 := Nat.xor_lt_two_pow (n := 8) h (by decide)
theorem turned_any (g : Bool) (l : List UInt8) (w : World) (hs : l.length ≤ 140737488351232) :
    Calls Tryd.prog 33 #[.string ⟨l.toArray⟩, .int .u8 (lowOf g), .int .u8 (lowOf g + 25)] w fun e w' => e = .returned (.string ⟨(caseL g l (l.length / 2)).toArray⟩) ∧ Pur w w' := by
  have w1 : IntKind.i64.wrap (2 * ((l.length : Int) / 2)) = 2 * ((l.length : Int) / 2) := IntWalk.i64_in _ (by omega)
  have hbd := lowOf_bd g
  have hmin : min (2 * (l.length / 2)) l.length = 2 * (l.length / 2) := by omega
  go_enter Tryd.func33, Tryd.ntmps33
  go_wp2_with (first | (go_at_call 18; refine (length_any _ _ (by omega)).mono ?_; rintro e w' ⟨rfl, rfl⟩) | (refine wpList_bytes rfl _ 9 53 5 rfl _ rfl Tryd.underlying9 Tryd.underlying53 Tryd.underlying5 ?_; intro cap w1 hp hrow hcap))
  clear hmin
  go_loopw [8] (fun i wr => ∃ k : Nat, k ≤ l.length / 2 ∧ i = .int .i64 (2 * k + 1) ∧ Pur w wr ∧ BRow wr w.heap.size 5 (caseRow g l k)) (fun i _ => 2 * (l.length / 2) + 1 - (intOf i).toNat)
  case atStart => exact ⟨0, by omega, rfl, hp, hrow⟩
  case round =>
    obtain ⟨k, hk, rfl, hpr, hr⟩ := hrel
    have hlen := caseRow_length g l k hk
    by_cases hlt : k < l.length / 2
    · have c0 : wr.cell? ⟨w.heap.size, 2 * k, none⟩ = some (.int .u8 (by8 l (2 * k))) := by rw [hr.cell _ (by omega), caseRow_at g l k hlt _ (by omega) (by omega)]
      have c1 : wr.cell? ⟨w.heap.size, 2 * k + 1, none⟩ = some (.int .u8 (by8 l (2 * k + 1))) := by rw [hr.cell _ (by omega), caseRow_at g l k hlt _ (by omega) (by omega)]
      have f1 : wr.frozen? ⟨w.heap.size, 2 * k + 1, none⟩ = false := hr.free _ (by omega)
      have l0 := by8_lt l (2 * k)
      have l1 := by8_lt l (2 * k + 1)
      clear hlen
      by_cases h0 : by8 l (2 * k) = 0
      · by_cases h1 : lowOf g ≤ (by8 l (2 * k + 1) : Int) ∧ (by8 l (2 * k + 1) : Int) ≤ lowOf g + 25
        · obtain ⟨h2, h3⟩ := h1
          have b0 : ((by8 l (2 * k) : Int) == 0) = true := by simp [h0]
          have HT := Lib.hid (show caseU g (at16 l k) = by8 l (2 * k) * 256 + (by8 l (2 * k + 1) ^^^ 32) by
            rw [caseU_in g _ (by rw [at16, h0, Nat.zero_mul, Nat.zero_add]; exact ⟨h2, h3⟩), at16, h0, Nat.zero_mul, Nat.zero_add, Nat.zero_add])
          clear h0
          go_wp2
          go_roundw
          case rel =>
            refine ⟨k + 1, by omega, by go_num, hpr.setCell (Nat.le_refl _) _, ?_⟩
            have hx : bits .xor .u8 ((by8 l (2 * k + 1) : Nat) : Int) 32 = (((UInt8.ofNat (by8 l (2 * k + 1) ^^^ 32)).toNat : Nat) : Int) := by
              rw [show (32 : Int) = ((32 : Nat) : Int) from rfl, u8_xor_nat _ _ l1 (by decide), UInt8.toNat_ofNat', Nat.mod_eq_of_lt (xor32_lt _ l1)]
            rw [hx, caseRow_turn g l k hlt (by8 l (2 * k + 1) ^^^ 32) (xor32_lt _ l1) (HT.out)]
            exact hr.store _ (by rw [caseRow_length g l k hk]; omega) _
          case measure => simp [intOf]; omega
        · have hst : caseRow g l (k + 1) = caseRow g l k := caseRow_stay g l k hlt (caseU_out g _ (by rw [at16, h0, Nat.zero_mul, Nat.zero_add]; exact h1))
          have HT := Lib.hid hst
          clear hst
          have b0 : ((by8 l (2 * k) : Int) == 0) = true := by simp [h0]
          clear h0
          by_cases h2 : lowOf g ≤ (by8 l (2 * k + 1) : Int)
          · have h3 : lowOf g + 25 < (by8 l (2 * k + 1) : Int) := by omega
            clear h1
            go_wp2
            go_roundw
            case rel => exact ⟨k + 1, by omega, by go_num, hpr, by rw [HT.out]; exact hr⟩
            case measure => simp [intOf]; omega
          · have h3 : (by8 l (2 * k + 1) : Int) < lowOf g := by omega
            clear h1 h2
            go_wp2
            go_roundw
            case rel => exact ⟨k + 1, by omega, by go_num, hpr, by rw [HT.out]; exact hr⟩
            case measure => simp [intOf]; omega
      · have HT := Lib.hid (caseRow_stay g l k hlt (caseU_out g _ (by rw [at16]; omega)))
        have b0 : ((by8 l (2 * k) : Int) == 0) = false := by simp [h0]
        clear h0
        go_wp2
        go_roundw
        case rel => exact ⟨k + 1, by omega, by go_num, hpr, by rw [HT.out]; exact hr⟩
        case measure => simp [intOf]; omega
    · obtain rfl : k = l.length / 2 := by omega
      have hstr := run_str_of_row (P := Tryd.prog) wr 53 9 5 w.heap.size cap (2 * (l.length / 2)) (caseRow g l (l.length / 2)) hlen Tryd.underlying53 Tryd.underlying5 Tryd.underlying9 hr
      clear hlen
      go_wp2
      go_ret
      refine ⟨?_, hpr⟩
      have : caseRow g l (l.length / 2) = caseL g l (l.length / 2) := by rw [caseRow, sub_nil l (Nat.le_refl _), List.append_nil]
      rw [← this]
      rfl
theorem lower_any (l : List UInt8) (w : World) (hs : l.length ≤ 140737488351232) :
    Calls Tryd.prog 22 #[.string ⟨l.toArray⟩] w fun e w' => e = .returned (.string ⟨(caseL false l (l.length / 2)).toArray⟩) ∧ Pur w w' := by
  go_enter Tryd.func22, Tryd.ntmps22
  go_wp2_with (go_at_call 33; refine (turned_any false _ _ hs).mono ?_; rintro e w' ⟨rfl, hp⟩)
  go_ret
  exact ⟨rfl, hp⟩
theorem upper_any (l : List UInt8) (w : World) (hs : l.length ≤ 140737488351232) :
    Calls Tryd.prog 21 #[.string ⟨l.toArray⟩] w fun e w' => e = .returned (.string ⟨(caseL true l (l.length / 2)).toArray⟩) ∧ Pur w w' := by
  go_enter Tryd.func21, Tryd.ntmps21
  go_wp2_with (go_at_call 33; refine (turned_any true _ _ hs).mono ?_; rintro e w' ⟨rfl, hp⟩)
  go_ret
  exact ⟨rfl, hp⟩
theorem rcase_any (g : Bool) (l : List UInt8) (w : World) (hs : l.length ≤ 140737488351232) :
    Calls Tryd.prog 27 #[.string ⟨l.toArray⟩, .bool g] w fun e w' => e = .returned (.string ⟨(caseL g l (l.length / 2)).toArray⟩) ∧ Pur w w' := by
  go_enter Tryd.func27, Tryd.ntmps27
  go_wp2
  go_loopw [5, 6, 7] (fun o i _ wr => ∃ k : Nat, k ≤ l.length / 2 ∧ i = .int .i64 k ∧ o = .string ⟨(caseL g l k).toArray⟩ ∧ Pur w wr) (fun _ i _ _ => l.length / 2 + 1 - (intOf i).toNat)
  case atStart => exact ⟨0, by omega, rfl, rfl, Pur.refl w⟩
  case round =>
    obtain ⟨k, hk, rfl, rfl, hpr⟩ := hrel
    have HL := Lib.hid (caseL_length g l k)
    have hle : (caseL g l k).length ≤ 140737488351232 := by rw [HL.out]; omega
    by_cases hlt : k < l.length / 2
    · have h16 := at16_lt l k
      have fin := Lib.hid (show ∀ u : Nat, u = caseU g (at16 l k) → caseL g l k ++ unit8 u = caseL g l (k + 1) from fun u hu => by rw [hu, caseL_succ])
      have hc : (g = true ∧ 97 ≤ (at16 l k : Int) ∧ (at16 l k : Int) ≤ 122) ∨ (g = true ∧ (at16 l k : Int) < 97) ∨ (g = true ∧ 97 ≤ (at16 l k : Int) ∧ 122 < (at16 l k : Int)) ∨ (g = false ∧ 65 ≤ (at16 l k : Int) ∧ (at16 l k : Int) ≤ 90) ∨ (g = false ∧ (at16 l k : Int) < 65) ∨ (g = false ∧ 65 ≤ (at16 l k : Int) ∧ 90 < (at16 l k : Int)) := by cases g <;> simp <;> omega
      have hk1 : ((k : Nat) : Int) < (l.length : Int) / 2 := by omega
      clear hlt
      rcases hc with ⟨rfl, h1, h2⟩ | ⟨rfl, h1⟩ | ⟨rfl, h1, h2⟩ | ⟨rfl, h1, h2⟩ | ⟨rfl, h1⟩ | ⟨rfl, h1, h2⟩
      all_goals
        go_wp2_with (first | (go_at_call 35; refine (rlength_any _ _ (by omega)).mono ?_; rintro e w' ⟨rfl, rfl⟩) | (go_at_call 24; refine (rat_in _ _ _ (by omega) (by omega)).mono ?_; rintro e w1 ⟨rfl, hp1⟩) | (go_at_call 29; refine (runit_any _ _ (by omega) (by omega)).mono ?_; rintro e w2 ⟨rfl, hp2⟩))
        go_roundw
        case rel => exact ⟨k + 1, by omega, by go_num, by rw [fin.out _ (by simp [caseU]; omega)], hpr.trans (hp1.trans hp2)⟩
        case measure => simp [intOf]; omega
    · go_wp2_with (go_at_call 35; refine (rlength_any _ _ (by omega)).mono ?_; rintro e w' ⟨rfl, rfl⟩)
      go_ret
      obtain rfl : k = l.length / 2 := by omega
      exact ⟨rfl, hpr⟩
theorem isPrefixOf_sub (l p : List UInt8) (i n : Nat) (hp : p.length = n) (h : i + n ≤ l.length) : p.isPrefixOf (sub l i l.length) = (sub l i (i + n) == p) := by
  rw [Bool.eq_iff_iff, List.isPrefixOf_iff_prefix, beq_iff_eq, List.prefix_iff_eq_take, hp]
  have : (sub l i l.length).take n = sub l i (i + n) := by
    unfold sub
    rw [List.take_take]
    congr 1
    omega
  rw [this]
  exact ⟨fun h => h.symm, fun h => h.symm⟩
theorem sub_sub (l : List UInt8) (n i j : Nat) (hj : j ≤ n) : sub (sub l 0 n) i j = sub l i j := by
  unfold sub
  rw [List.drop_zero, Nat.sub_zero, List.drop_take, List.take_take]
  congr 1
  omega
theorem find_any (l p : List UInt8) (i : Int) (w : World) (hs : l.length ≤ 4611686018427387903) (hp : p.length ≤ 4611686018427387903) :
    Calls Tryd.prog 23 #[.string ⟨l.toArray⟩, .string ⟨p.toArray⟩, .int .i64 i] w fun e w' => e = .returned (.int .i64 (findU l (sub p 0 (2 * (p.length / 2))) (p.length / 2) (max i 0).toNat)) ∧ Pur w w' := by
  have w1 : IntKind.i64.wrap (2 * ((l.length : Int) / 2)) = 2 * ((l.length : Int) / 2) := IntWalk.i64_in _ (by omega)
  have w2 : IntKind.i64.wrap (2 * ((p.length : Int) / 2)) = 2 * ((p.length : Int) / 2) := IntWalk.i64_in _ (by omega)
  have b1 : 0 ≤ 2 * ((l.length : Int) / 2) := by omega
  have b2 : 2 * ((l.length : Int) / 2) ≤ l.length := by omega
  have b3 : 0 ≤ 2 * ((p.length : Int) / 2) := by omega
  have b4 : 2 * ((p.length : Int) / 2) ≤ p.length := by omega
  have n1 : (2 * ((l.length : Int) / 2)).toNat = 2 * (l.length / 2) := by omega
  have n2 : (2 * ((p.length : Int) / 2)).toNat = 2 * (p.length / 2) := by omega
  go_enter Tryd.func23, Tryd.ntmps23
  go_wp2
  refine wp_region_pur (by kernel_rfl) (by kernel_rfl) ?_
  repeat (quiet_step ((go_at_call 18; exact quiet_eq (length_any _ _ (by omega)))))
  refine wpQuiet_nil ?_
  intro wq hq
  obtain ⟨L, hL⟩ : ∃ L, L = sub l 0 (2 * (l.length / 2)) := ⟨_, rfl⟩
  obtain ⟨q, hQ⟩ : ∃ q, q = sub p 0 (2 * (p.length / 2)) := ⟨_, rfl⟩
  rw [← hL, ← hQ]
  have lL : L.length = 2 * (l.length / 2) := by rw [hL, length_sub]; omega
  have lq : q.length = 2 * (p.length / 2) := by rw [hQ, length_sub]; omega
  have hsub : ∀ i n, i + n ≤ 2 * (l.length / 2) → sub L i (i + n) = sub l i (i + n) := fun i n h => by rw [hL, sub_sub l _ i _ h]
  have HS := Lib.hid hsub
  have HQ := Lib.hid hQ
  have HL := Lib.hid lL
  have Hq := Lib.hid lq
  have bL : L.length ≤ 4611686018427387903 := by omega
  have bq : q.length ≤ 4611686018427387903 := by omega
  clear hL hQ w1 w2 b1 b2 b3 b4 n1 n2 hsub lL lq
  go_wp2
  go_loopw [7] (fun k wr => ∃ n : Nat, (n ≤ (max i 0).toNat ∨ n ≤ 4611686018427387904) ∧ k = .int .i64 n ∧ Pur w wr ∧ Hid (findU l q (p.length / 2) (max i 0).toNat = findU l q (p.length / 2) n)) (fun k _ => l.length / 2 + 1 - (intOf k).toNat)
  case atStart => exact ⟨(max i 0).toNat, by omega, by rw [Int.toNat_of_nonneg (by omega)], hq, Lib.hid rfl⟩
  case round =>
    obtain ⟨n, hn, rfl, hP, H⟩ := hrel
    by_cases hlt : (n : Int) ≤ (L.length : Int) / 2 - (q.length : Int) / 2
    · have hle : n + p.length / 2 ≤ l.length / 2 := by have := HL.out; have := Hq.out; omega
      have hpre : q.isPrefixOf (sub L (2 * n) L.length) = (sub l (2 * n) (2 * (n + p.length / 2)) == q) := by
        rw [isPrefixOf_sub L q (2 * n) (2 * (p.length / 2)) Hq.out (by rw [HL.out]; omega), HS.out _ _ (by omega), Nat.mul_add]
      by_cases heq : sub l (2 * n) (2 * (n + p.length / 2)) = q
      · have hb : Lib.hasPrefix (sub L (2 * n) L.length) q = true := by rw [Lib.hasPrefix, hpre]; simp [heq]
        clear hpre
        have HE := Lib.hid heq
        clear heq
        go_wp2_with (first | (go_at_call 18; refine (length_any _ _ (by omega)).mono ?_; rintro e w' ⟨rfl, rfl⟩) | (go_at_call 34; refine (Tryd.strings_HasPrefix _ _ _).mono ?_; rintro e w' ⟨rfl, rfl⟩))
        go_ret
        refine ⟨?_, hP⟩
        rw [← HQ.out, H.out, findU, dif_pos hle, if_pos HE.out]
        rfl
      · have hb : Lib.hasPrefix (sub L (2 * n) L.length) q = false := by rw [Lib.hasPrefix, hpre]; simp [heq]
        clear hpre
        have HE := Lib.hid heq
        clear heq
        go_wp2_with (first | (go_at_call 18; refine (length_any _ _ (by omega)).mono ?_; rintro e w' ⟨rfl, rfl⟩) | (go_at_call 34; refine (Tryd.strings_HasPrefix _ _ _).mono ?_; rintro e w' ⟨rfl, rfl⟩))
        go_roundw
        case rel => exact ⟨n + 1, by omega, by go_num, hP, Lib.hid (by rw [H.out, findU, dif_pos hle, if_neg HE.out])⟩
        case measure => simp [intOf]; have := HL.out; have := Hq.out; omega
    · go_wp2_with (first | (go_at_call 18; refine (length_any _ _ (by omega)).mono ?_; rintro e w' ⟨rfl, rfl⟩))
      go_ret
      refine ⟨?_, hP⟩
      rw [← HQ.out, H.out, findU, dif_neg (by have := HL.out; have := Hq.out; omega)]
      rfl
end Go.Proofs.YtipnlgcicdnhdaaDoor
