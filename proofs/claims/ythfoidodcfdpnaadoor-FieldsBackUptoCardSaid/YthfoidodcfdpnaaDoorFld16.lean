/- The law FieldsJoins. -/
import Derived.Test.YthfoidodcfdpnaaDoorFld15
namespace Go.Proofs.YthfoidodcfdpnaaDoor
open Go Go.RowKit
/-- the text of as many fields -/
def manyS (e : Bool) : Nat → Bytes
  | 0 => []
  | i + 1 => manyS e i ++ (if 0 < i then [38] else []) ++ [107, 61, 118] ++ (if e then [38] else [])
def kv : Fld := ([107], [118])
theorem kv_fields (e : Bool) : fieldsOf (pieces ([107, 61, 118] ++ (if e then [38] else []))) = some [kv] := by
  cases e <;> simp [pieces, fieldsOf, field, nameOf, valueOf, said, kv]
theorem many_fields (e : Bool) : ∀ i, fieldsOf (pieces (manyS e i)) = some (List.replicate i kv)
  | 0 => by simp [manyS, pieces, fieldsOf]
  | 1 => by
    have := kv_fields e
    simpa [manyS] using this
  | i + 2 => by
    have ih := many_fields e (i + 1)
    have e1 : manyS e (i + 2) = manyS e (i + 1) ++ 38 :: ([107, 61, 118] ++ (if e then [38] else [])) := by
      conv => lhs; unfold manyS
      simp
    rw [e1, pieces_amp, fieldsOf_append, ih, kv_fields]
    simp [List.replicate_succ' (n := i + 1)]
theorem many_len (e : Bool) : ∀ i, (manyS e i).length ≤ 5 * i
  | 0 => by simp [manyS]
  | i + 1 => by
    have := many_len e i
    rw [manyS]
    cases e <;> by_cases h : 0 < i <;> simp [h] <;> omega
theorem bulk_rep (m : Nat) : bulkOf (List.replicate m kv) = 2 * m := by
  unfold bulkOf
  induction m with
  | zero => rfl
  | succ m ih => rw [List.replicate_succ, List.map_cons, List.sum_cons, ih]; simp [kv]; omega
theorem rep_small (m : Nat) : FSmall (List.replicate m kv) := fun f hf => by
  obtain rfl := List.eq_of_mem_replicate hf
  exact ⟨by decide, by decide⟩
set_option maxRecDepth 100000 in
set_option maxHeartbeats 4000000 in
theorem joins_law (a b : Bytes) (w : World) (hM : MX w) (ha : a.length ≤ 140737488351232) (hb : b.length ≤ 140737488351232) :
    Calls Tryd.prog 6 #[.string ⟨a.toArray⟩, .string ⟨b.toArray⟩] w fun e w' => e = .returned (.bool true) ∧ Pur w w' := by
  by_cases hlong : 4000 < a.length + b.length
  · have d1 : decide ((4000 : Int) < (a.length : Int) + (b.length : Int)) = true := decide_eq_true (by omega)
    clear hlong
    go_enter Tryd.func6, Tryd.ntmps6
    go_wp2_with fail
    refine (awake_any _ hM).mono ?_
    rintro e w1 ⟨rfl, hp1⟩
    go_wp2
    go_ret
    exact ⟨rfl, hp1⟩
  have d1 : decide ((4000 : Int) < (a.length : Int) + (b.length : Int)) = false := decide_eq_false (by omega)
  have P1 := fun w hM => parse_any' a w hM
  have P2 := fun w hM => parse_any' b w hM
  have P3 := fun w hM => parse_any' (a ++ 38 :: b) w hM
  have hl : (a ++ 38 :: b).length ≤ 4096 := by simp; omega
  have hal : a.length ≤ 4096 := by omega
  have hbl : b.length ≤ 4096 := by omega
  have HP : fieldsOf (pieces (a ++ 38 :: b)) = (fieldsOf (pieces a)).bind fun p => (fieldsOf (pieces b)).map (p ++ ·) := by rw [pieces_amp, fieldsOf_append]
  rcases hA : fieldsOf (pieces a) with _ | fa
  · rw [hA] at HP
    rw [parse_bad hl HP] at P3
    rw [parse_bad hal hA] at P1
    have he := parse_err b
    have hs := (parse_small b).2
    generalize parse b = r at *
    obtain ⟨fs, n⟩ := r
    simp only at *
    have b1 : -1 < n := by omega
    have b2 : n < 1000 := by omega
    clear hA HP he hlong hl hal hbl
    go_enter Tryd.func6, Tryd.ntmps6
    go_wp2_with fail
    refine (awake_any _ hM).mono ?_
    rintro e w1 ⟨rfl, hp1⟩
    go_wp2_with fail
    refine (P1 _ (hM.pur hp1)).mono ?_
    rintro e w2 ⟨a2, c2, rfl, hr2, hp2⟩
    go_wp2_with fail
    refine (P2 _ (hM.pur (hp1.trans hp2))).mono ?_
    rintro e w3 ⟨a3, c3, rfl, hr3, hp3⟩
    have h3 := (hp1.trans hp2).trans hp3
    go_wp2_with fail
    refine (P3 _ (hM.pur h3)).mono ?_
    rintro e w4 ⟨a4, c4, rfl, hr4, hp4⟩
    go_wp2
    go_ret
    exact ⟨rfl, h3.trans hp4⟩
  rcases hB : fieldsOf (pieces b) with _ | fb
  · rw [hA, hB] at HP
    rw [parse_bad hl HP] at P3
    rw [parse_bad hbl hB] at P2
    have he := parse_err a
    have hs := (parse_small a).2
    generalize parse a = r at *
    obtain ⟨fs, n⟩ := r
    simp only at *
    have b1 : -1 < n := by omega
    have b2 : n < 1000 := by omega
    clear hA hB HP he hlong hl hal hbl
    go_enter Tryd.func6, Tryd.ntmps6
    go_wp2_with fail
    refine (awake_any _ hM).mono ?_
    rintro e w1 ⟨rfl, hp1⟩
    go_wp2_with fail
    refine (P1 _ (hM.pur hp1)).mono ?_
    rintro e w2 ⟨a2, c2, rfl, hr2, hp2⟩
    go_wp2_with fail
    refine (P2 _ (hM.pur (hp1.trans hp2))).mono ?_
    rintro e w3 ⟨a3, c3, rfl, hr3, hp3⟩
    have h3 := (hp1.trans hp2).trans hp3
    go_wp2_with fail
    refine (P3 _ (hM.pur h3)).mono ?_
    rintro e w4 ⟨a4, c4, rfl, hr4, hp4⟩
    go_wp2
    all_goals (go_ret; exact ⟨rfl, h3.trans hp4⟩)
  have HP' : fieldsOf (pieces (a ++ 38 :: b)) = some (fa ++ fb) := by rw [HP, hA, hB]; rfl
  by_cases hfull : 32 < fa.length + fb.length
  · rw [parse_full hl HP' (by simp; omega)] at P3
    by_cases g1 : 32 < fa.length
    · rw [parse_full hal hA g1] at P1
      have he := parse_err b
      have he2 : (parse b).2 ≠ 210 := by
        by_cases g2 : 32 < fb.length
        · rw [parse_full hbl hB g2]; simp
        · rw [parse_ok hbl hB (by omega)]; simp
      have hs := (parse_small b).2
      generalize parse b = r at *
      obtain ⟨fs, n⟩ := r
      simp only at *
      have d2 : (n == 210) = false := by simp; omega
      clear hA hB HP HP' he he2 hlong hl hal hbl hfull g1
      go_enter Tryd.func6, Tryd.ntmps6
      go_wp2_with fail
      refine (awake_any _ hM).mono ?_
      rintro e w1 ⟨rfl, hp1⟩
      go_wp2_with fail
      refine (P1 _ (hM.pur hp1)).mono ?_
      rintro e w2 ⟨a2, c2, rfl, hr2, hp2⟩
      go_wp2_with fail
      refine (P2 _ (hM.pur (hp1.trans hp2))).mono ?_
      rintro e w3 ⟨a3, c3, rfl, hr3, hp3⟩
      have h3 := (hp1.trans hp2).trans hp3
      go_wp2_with fail
      refine (P3 _ (hM.pur h3)).mono ?_
      rintro e w4 ⟨a4, c4, rfl, hr4, hp4⟩
      go_wp2
      all_goals (go_ret; exact ⟨rfl, h3.trans hp4⟩)
    rw [parse_ok hal hA (by omega)] at P1
    by_cases g2 : 32 < fb.length
    · rw [parse_full hbl hB g2] at P2
      simp only at *
      clear hA hB HP HP' hlong hl hal hbl hfull g2
      go_enter Tryd.func6, Tryd.ntmps6
      go_wp2_with fail
      refine (awake_any _ hM).mono ?_
      rintro e w1 ⟨rfl, hp1⟩
      go_wp2_with fail
      refine (P1 _ (hM.pur hp1)).mono ?_
      rintro e w2 ⟨a2, c2, rfl, hr2, hp2⟩
      go_wp2_with fail
      refine (P2 _ (hM.pur (hp1.trans hp2))).mono ?_
      rintro e w3 ⟨a3, c3, rfl, hr3, hp3⟩
      have h3 := (hp1.trans hp2).trans hp3
      go_wp2_with fail
      refine (P3 _ (hM.pur h3)).mono ?_
      rintro e w4 ⟨a4, c4, rfl, hr4, hp4⟩
      go_wp2
      all_goals (go_ret; exact ⟨rfl, h3.trans hp4⟩)
    rw [parse_ok hbl hB (by omega)] at P2
    simp only at *
    have d2 : decide ((32 : Int) < (fa.length : Int) + (fb.length : Int)) = true := decide_eq_true (by omega)
    clear hA hB HP HP' hlong hl hal hbl hfull
    go_enter Tryd.func6, Tryd.ntmps6
    go_wp2_with fail
    refine (awake_any _ hM).mono ?_
    rintro e w1 ⟨rfl, hp1⟩
    go_wp2_with fail
    refine (P1 _ (hM.pur hp1)).mono ?_
    rintro e w2 ⟨a2, c2, rfl, hr2, hp2⟩
    go_wp2_with fail
    refine (P2 _ (hM.pur (hp1.trans hp2))).mono ?_
    rintro e w3 ⟨a3, c3, rfl, hr3, hp3⟩
    have h3 := (hp1.trans hp2).trans hp3
    go_wp2_with fail
    refine (P3 _ (hM.pur h3)).mono ?_
    rintro e w4 ⟨a4, c4, rfl, hr4, hp4⟩
    go_wp2
    all_goals (go_ret; exact ⟨rfl, h3.trans hp4⟩)
  rw [parse_ok hal hA (by omega)] at P1
  rw [parse_ok hbl hB (by omega)] at P2
  rw [parse_ok hl HP' (by simp; omega)] at P3
  have P4 := fun v u w hR hQ => same_any v u (fa ++ fb) (fa ++ fb) w hR hQ (by simp; omega) (by simp; omega)
  rw [decide_eq_true (rfl : fa ++ fb = fa ++ fb)] at P4
  simp only at *
  simp only [List.length_append] at P3
  have d2 : decide ((32 : Int) < (fa.length : Int) + (fb.length : Int)) = false := decide_eq_false (by omega)
  obtain ⟨i0, hi, hz⟩ := Option.map_eq_some_iff.1 fld_info
  simp only [Prod.mk.injEq] at hz
  obtain ⟨hz0, hz1, hz2⟩ := hz
  obtain ⟨z0, hz0, hzs⟩ := Option.map_eq_some_iff.1 hz0
  clear hA hB HP HP' hlong hl hal hbl
  go_enter Tryd.func6, Tryd.ntmps6
  go_wp2_with fail
  refine (awake_any _ hM).mono ?_
  rintro e w1 ⟨rfl, hp1⟩
  go_wp2_with fail
  refine (P1 _ (hM.pur hp1)).mono ?_
  rintro e w2 ⟨a2, c2, rfl, hr2, hp2⟩
  go_wp2_with fail
  refine (P2 _ (hM.pur (hp1.trans hp2))).mono ?_
  rintro e w3 ⟨a3, c3, rfl, hr3, hp3⟩
  have h3 := (hp1.trans hp2).trans hp3
  go_wp2_with fail
  refine (P3 _ (hM.pur h3)).mono ?_
  rintro e w4 ⟨a4, c4, rfl, hr4, hp4⟩
  have h4 := h3.trans hp4
  have hr2' := hr2.pur (hp3.trans hp4)
  have hr3' := hr3.pur hp4
  clear hr2 hr3 hp1 hp2 hp3 hp4 h3
  have hown0 : (w4.alloc (.cells #[] 34)).ownsRow w4.heap.size 34 2 (.slice (some ⟨w4.heap.size, 0, none⟩) 0 0) 0 [] :=
    ⟨rfl, .inr ⟨w4.heap.size, 0, #[], rfl, Nat.le_refl _, Array.getElem?_push_size, Nat.le_refl _, Nat.zero_le _, rfl, rfl⟩⟩
  have HO := Lib.hid hown0
  have HFe := Lib.hid (hr2'.pur ((Pur.refl w4).alloc (.cells #[] 34))).feeds
  clear hown0
  go_wp2_with (at_builtin; refine wpList_append_feeds rfl _ _ 23 rfl w4.heap.size 34 i0 z0 2 32 Tryd.underlying23 hi hz0 hz1 hz2 hzs (by decide) _ 0 [] rfl HO.out _ _ _ (fcells fa) rfl HFe.out (fcells_one fa) ?c3 ?c4 ((Pur.refl w4).alloc _).size ?_)
  case c3 => unfold maxLen; omega
  case c4 => omega
  intro v5 w5 hown5 hgrow
  have hp5 : Pur w4 w5 := ((Pur.refl w4).alloc _).grown hgrow (by simp) (fun k hk => by cases hk; exact Nat.le_refl _)
  have HF2 := Lib.hid (hr3'.pur hp5).feeds
  clear hgrow HO HFe
  go_wp2_with (at_builtin; refine wpList_append_feeds rfl _ _ 23 rfl w4.heap.size 34 i0 z0 2 32 Tryd.underlying23 hi hz0 hz1 hz2 hzs (by decide) _ _ _ rfl hown5 _ _ _ (fcells fb) rfl HF2.out (fcells_one fb) ?d3 ?d4 hp5.size ?_)
  case d3 => unfold maxLen; omega
  case d4 => omega
  intro v6 w6 hown6 hgrow
  have hp6 : Pur w4 w6 := Below.grown hp5 hgrow hp5.size (fun k hk => (hown5.lt k hk).1)
  have hown6' : w6.ownsRow w4.heap.size 34 2 v6 (fa ++ fb).length (fcells (fa ++ fb)) := by
    rw [List.length_append, show fcells (fa ++ fb) = fcells fa ++ fcells fb by simp [fcells]]
    exact hown6
  have hr6 := FRead.of_own hown6'
  clear hown6 hown6' hown5 hgrow HF2
  go_wp2_with fail
  refine (P4 _ _ _ hr6 (hr4.pur hp6)).mono ?_
  rintro e w7 ⟨rfl, hp7⟩
  go_wp2
  go_ret
  exact ⟨rfl, (h4.trans hp6).trans hp7⟩
end Go.Proofs.YthfoidodcfdpnaaDoor
