/- A request's first line, both; a response's first line, both. -/
import Derived.Test.YtlgdkaeiadhiaaaGreatDoorHt6
namespace Go.Proofs.YtlgdkaeiadhiaaaGreatDoor
open Go Go.RowKit
set_option linter.all false
def rl (s : Bytes) : Bytes × Bytes × Bool := match reqLine s with
  | some (m, t) => (m, t, true)
  | none => ([], [], false)
theorem rl_three {s a b c : Bytes} (h : pcs [32] s = [a, b, c]) : rl s = if okToken a && okTarget b && !(c != vHttp) then (a, b, true) else ([], [], false) := by
  unfold rl reqLine
  rw [h]
  simp only
  cases okToken a <;> cases okTarget b <;> by_cases hc : c = vHttp <;> simp [hc]
theorem rl_other {s : Bytes} (h : (pcs [32] s).length ≠ 3) : rl s = ([], [], false) := by
  have hn : reqLine s = none := by
    unfold reqLine
    split
    · rename_i m t v e
      rw [e] at h
      exact absurd rfl h
    · rfl
  unfold rl
  rw [hn]
theorem three_of {l : List Bytes} (h : l.length = 3) : ∃ a b c, l = [a, b, c] := by
  match l, h with
  | [a, b, c], _ => exact ⟨a, b, c, rfl⟩
set_option maxRecDepth 100000 in
set_option maxHeartbeats 4000000 in
theorem reqline_any (s : Bytes) (w : World) (hW : HW w) (hs : s.length ≤ 100000000) :
    Calls Tryz.prog 20 #[.string ⟨s.toArray⟩] w fun e w' => e = .returned (.tuple #[.string ⟨(rl s).1.toArray⟩, .string ⟨(rl s).2.1.toArray⟩, .bool (rl s).2.2]) ∧ Pur w w' := by
  by_cases h3 : (pcs [32] s).length = 3
  · obtain ⟨a, b, c, hp⟩ := three_of h3
    rw [rl_three hp]
    clear h3
    have la := pcs_le [32] _ s (Nat.le_refl _) a (by rw [hp]; simp)
    have lb := pcs_le [32] _ s (Nat.le_refl _) b (by rw [hp]; simp)
    have TA := fun w => token_any a w (by omega)
    have TB := fun w => target_any b w (by omega)
    obtain ⟨b3, t3⟩ : ∃ b3, (c != vHttp) = b3 := ⟨_, rfl⟩
    rcases h1 : okToken a with _ | _ <;> rw [h1] at TA <;> rcases h2 : okTarget b with _ | _ <;> rw [h2] at TB <;> rw [t3] <;> rcases b3 with _ | _
    all_goals
      clear h1 h2
      have t4 : (c != [72, 84, 84, 80, 47, 49, 46, 49]) = _ := t3
      have t5 : (c == [72, 84, 84, 80, 47, 49, 46, 49]) = !_ := (Bool.not_not _).symm.trans (congrArg (!·) t4)
      simp only [Bool.not_true, Bool.not_false] at t5
      clear t3
      go_enter Tryz.func20, Tryz.ntmps20
      go_wp2_with fail
      refine (split_any s [32] _ hW (by simp) (by omega)).mono ?_
      rintro e w1 ⟨rfl, hp1, hr⟩
      rw [hp] at hr ⊢
      simp only [List.length_cons, List.length_nil]
      generalize w.heap.size = g at hr ⊢
      have c0 := hr.2 0 a rfl
      have c1 := hr.2 1 b rfl
      have c2 := hr.2 2 c rfl
      have p0 : ∀ x : PW w1, x.to.cell? ⟨g, 0, none⟩ = some (.string ⟨a.toArray⟩) := fun x => cell_pur c0 x.pur
      have p1 : ∀ x : PW w1, x.to.cell? ⟨g, 1, none⟩ = some (.string ⟨b.toArray⟩) := fun x => cell_pur c1 x.pur
      have K := Lib.hid hp1
      clear hr hp1 hp hW
      go_wp2_with (first
        | (go_at_call 36; refine (TA _).mono ?_; rintro e w' ⟨rfl, rfl⟩)
        | (go_at_call 40; refine (TB _).mono ?_; rintro e w' ⟨rfl, rfl⟩))
      first
      | (go_ret3
         exact ⟨rfl, K.out⟩)
      | (refine wp_region_pur (by kernel_rfl) (by kernel_rfl) ?_
         repeat (quiet_step (fail))
         refine wpQuiet_nil ?_
         intro wq hq
         go_wp2
         go_ret3
         exact ⟨rfl, K.out.trans hq⟩)
  · rw [rl_other h3]
    have d3 : (((pcs [32] s).length : Int) != 3) = true := by simp only [bne_iff_ne, ne_eq]; omega
    clear h3
    go_enter Tryz.func20, Tryz.ntmps20
    go_wp2_with fail
    refine (split_any s [32] _ hW (by simp) (by omega)).mono ?_
    rintro e w1 ⟨rfl, hp1, hr⟩
    go_wp2
    go_ret3
    exact ⟨rfl, hp1⟩
set_option maxRecDepth 100000 in
set_option maxHeartbeats 4000000 in
theorem rreqline_any (s : Bytes) (w : World) (hs : s.length ≤ 100000000) :
    Calls Tryz.prog 24 #[.string ⟨s.toArray⟩] w fun e w' => e = .returned (.tuple #[.string ⟨(rl s).1.toArray⟩, .string ⟨(rl s).2.1.toArray⟩, .bool (rl s).2.2]) ∧ Pur w w' := by
  by_cases h3 : (pcs [32] s).length = 3
  · obtain ⟨a, b, c, hp⟩ := three_of h3
    rw [rl_three hp]
    clear h3
    have la := pcs_le [32] _ s (Nat.le_refl _) a (by rw [hp]; simp)
    have lb := pcs_le [32] _ s (Nat.le_refl _) b (by rw [hp]; simp)
    have TA := fun w => rtoken_any a w (by omega)
    have TB := fun w => rtarget_any b w (by omega)
    obtain ⟨b3, t3⟩ : ∃ b3, (c != vHttp) = b3 := ⟨_, rfl⟩
    rcases h1 : okToken a with _ | _ <;> rw [h1] at TA <;> rcases h2 : okTarget b with _ | _ <;> rw [h2] at TB <;> rw [t3] <;> rcases b3 with _ | _
    all_goals
      clear h1 h2
      have t4 : (c != [72, 84, 84, 80, 47, 49, 46, 49]) = _ := t3
      have t5 : (c == [72, 84, 84, 80, 47, 49, 46, 49]) = !_ := (Bool.not_not _).symm.trans (congrArg (!·) t4)
      simp only [Bool.not_true, Bool.not_false] at t5
      clear t3
      go_enter Tryz.func24, Tryz.ntmps24
      go_wp2_with fail
      refine (rsplit_any s [32] _ (by simp) hs (by simp)).mono ?_
      rintro e w1 ⟨v, rfl, ⟨g, cc, rfl, hr⟩, hp1⟩
      rw [hp] at hr ⊢
      simp only [List.length_cons, List.length_nil]
      have c0 := hr.2 0 a rfl
      have c1 := hr.2 1 b rfl
      have c2 := hr.2 2 c rfl
      have p0 : ∀ x : PW w1, x.to.cell? ⟨g, 0, none⟩ = some (.string ⟨a.toArray⟩) := fun x => cell_pur c0 x.pur
      have p1 : ∀ x : PW w1, x.to.cell? ⟨g, 1, none⟩ = some (.string ⟨b.toArray⟩) := fun x => cell_pur c1 x.pur
      have K := Lib.hid hp1
      clear hr hp1 hp
      go_wp2_with (first
        | (go_at_call 43; refine (TA _).mono ?_; rintro e w' ⟨rfl, rfl⟩)
        | (go_at_call 48; refine (TB _).mono ?_; rintro e w' ⟨rfl, rfl⟩))
      first
      | (go_ret3
         exact ⟨rfl, K.out⟩)
      | (refine wp_region_pur (by kernel_rfl) (by kernel_rfl) ?_
         repeat (quiet_step (fail))
         refine wpQuiet_nil ?_
         intro wq hq
         go_wp2
         go_ret3
         exact ⟨rfl, K.out.trans hq⟩)
  · rw [rl_other h3]
    have d3 : (((pcs [32] s).length : Int) != 3) = true := by simp only [bne_iff_ne, ne_eq]; omega
    clear h3
    go_enter Tryz.func24, Tryz.ntmps24
    go_wp2_with fail
    refine (rsplit_any s [32] _ (by simp) hs (by simp)).mono ?_
    rintro e w1 ⟨v, rfl, ⟨g, cc, rfl, hr⟩, hp1⟩
    go_wp2
    go_ret3
    exact ⟨rfl, hp1⟩
/-! ### a response's first line -/
def headR : Bytes := vHttp ++ [32]
def stR (r : Bytes) : Option Int :=
  if 3 ≤ r.length ∧ 49 ≤ by8 r 0 ∧ by8 r 0 ≤ 53 ∧ digitsB (r.take 3) = true ∧ (r.length = 3 ∨ (by8 r 3 = 32 ∧ okText (r.drop 3) = true)) then some (dval 0 (r.take 3)) else none
theorem status_rest (s : Bytes) : statusOf s = if headR <+: s then stR (s.drop 9) else none := by
  unfold statusOf stR
  have e0 : by8 (s.drop 9) 0 = by8 s 9 := by simp [by8, List.getD_eq_getElem?_getD]
  have e3 : by8 (s.drop 9) 3 = by8 s 12 := by simp [by8, List.getD_eq_getElem?_getD]
  have ed : (s.drop 9).drop 3 = s.drop 12 := by rw [List.drop_drop]
  rw [e0, e3, ed, List.length_drop]
  by_cases h : headR <+: s
  · rw [if_pos h]
    have : vHttp ++ [32] <+: s := h
    by_cases hc : 3 ≤ s.length - 9 ∧ 49 ≤ by8 s 9 ∧ by8 s 9 ≤ 53 ∧ digitsB ((s.drop 9).take 3) = true ∧ (s.length - 9 = 3 ∨ (by8 s 12 = 32 ∧ okText (s.drop 12) = true))
    · rw [if_pos hc, if_pos]
      exact ⟨this, by omega, hc.2.1, hc.2.2.1, hc.2.2.2.1, by rcases hc.2.2.2.2 with h | h; exact .inl (by omega); exact .inr h⟩
    · rw [if_neg hc, if_neg]
      rintro ⟨_, a2, a3, a4, a5, a6⟩
      exact hc ⟨by omega, a3, a4, a5, by rcases a6 with h | h; exact .inl (by omega); exact .inr h⟩
  · rw [if_neg h, if_neg (fun hc => h hc.1)]
def stv (s : Bytes) : Int × Bool := match statusOf s with
  | some n => (n, true)
  | none => (0, false)
def stn (s : Bytes) : Int := match statusOf s with
  | some n => n
  | none => -1
theorem digits_text : ∀ l : Bytes, digitsB l = true → okText l = true := by
  intro l h
  unfold digitsB at h
  unfold okText
  rw [List.all_eq_true] at h ⊢
  intro x hx
  have := h x hx
  have hx2 := UInt8.toNat_lt x
  simp only [digB, Bool.and_eq_true, decide_eq_true_eq] at this
  simp [textB]
  omega
theorem text_split (r : Bytes) (h : digitsB (r.take 3) = true) : okText r = okText (r.drop 3) := by
  conv => lhs; rw [← List.take_append_drop 3 r]
  unfold okText
  rw [List.all_append]
  have := digits_text _ h
  unfold okText at this
  rw [this, Bool.true_and]
/-- by tests, as the layer makes them -/
theorem stR_tests (r : Bytes) (h3 : 3 ≤ r.length) : (match stR r with | some n => (n, true) | none => ((0 : Int), false)) =
    if (decide (by8 r 0 < 49) || decide (53 < by8 r 0) || !digitsB (r.take 3) || (decide (3 < r.length) && (!decide (by8 r 3 = 32) || !okText r))) = true then ((0 : Int), false) else (((dval 0 (r.take 3) : Nat) : Int), true) := by
  by_cases hd : digitsB (r.take 3) = true
  · rw [text_split r hd]
    unfold stR
    by_cases h1 : by8 r 0 < 49
    · rw [if_neg (by omega)]; simp [h1]
    · by_cases h2 : 53 < by8 r 0
      · rw [if_neg (by omega)]; simp [h2]
      · by_cases h4 : 3 < r.length
        · by_cases h5 : by8 r 3 = 32
          · by_cases h6 : okText (r.drop 3) = true
            · rw [if_pos ⟨h3, by omega, by omega, hd, .inr ⟨h5, h6⟩⟩]; simp [h1, h2, hd, h5, h6]
            · rw [if_neg (by rintro ⟨_, _, _, _, h | h⟩; omega; exact h6 h.2)]; simp [h6, h4]
          · rw [if_neg (by rintro ⟨_, _, _, _, h | h⟩; omega; exact h5 h.1)]; simp [h5, h4]
        · rw [if_pos ⟨h3, by omega, by omega, hd, .inl (by omega)⟩]; simp [h1, h2, hd, h4]
  · have : stR r = none := by unfold stR; rw [if_neg (fun h => hd h.2.2.2.1)]
    rw [this]
    simp [hd]
theorem cut_preR (l : Bytes) (w : World) : Calls Tryz.prog 49 #[.string ⟨l.toArray⟩, .string ⟨#[72, 84, 84, 80, 47, 49, 46, 49, 32]⟩] w fun e w' => e = .returned (.tuple #[.string ⟨(if headR <+: l then l.drop 9 else l).toArray⟩, .bool (decide (headR <+: l))]) ∧ w = w' := by
  refine (Tryz.strings_CutPrefix _ _ _).mono ?_
  rintro e w' ⟨rfl, rfl⟩
  refine ⟨?_, rfl⟩
  have h1 : Lib.hasPrefix l headR = decide (headR <+: l) := by
    unfold Lib.hasPrefix
    rw [Bool.eq_iff_iff]
    simp [List.isPrefixOf_iff_prefix]
  have h2 : Lib.trimPrefix l headR = if headR <+: l then l.drop 9 else l := by
    unfold Lib.trimPrefix
    rw [h1]
    by_cases h : headR <+: l
    · rw [if_pos h, if_pos (decide_eq_true h)]; rfl
    · rw [if_neg h, if_neg (by simpa using h)]
  show Ending.returned (.tuple #[.string ⟨(Lib.trimPrefix l headR).toArray⟩, .bool (Lib.hasPrefix l headR)]) = _
  rw [h1, h2]
set_option maxRecDepth 100000 in
set_option maxHeartbeats 8000000 in
theorem status_any (s : Bytes) (w : World) (hs : s.length ≤ 100000000) :
    Calls Tryz.prog 27 #[.string ⟨s.toArray⟩] w fun e w' => e = .returned (.tuple #[.int .i64 (stv s).1, .bool (stv s).2]) ∧ Pur w w' := by
  have C := fun w => cut_preR s w
  by_cases hp : headR <+: s
  · rw [decide_eq_true hp, if_pos hp] at C
    have hv : stv s = match stR (s.drop 9) with | some n => (n, true) | none => ((0 : Int), false) := by unfold stv; rw [status_rest, if_pos hp]
    rw [hv]
    have hl : (s.drop 9).length ≤ 100000000 := by rw [List.length_drop]; omega
    generalize s.drop 9 = r at *
    clear hv hp
    by_cases h3 : 3 ≤ r.length
    · rw [stR_tests r h3]
      have e3 : sub r 0 3 = r.take 3 := by simp [sub]
      have T := fun w => trimd_any (r.take 3) w (by rw [List.length_take]; omega)
      have X := fun w => text_any r w (by omega)
      have AT : digitsB (r.take 3) = true → ∀ w, Calls Tryz.prog 39 #[.string ⟨(r.take 3).toArray⟩] w fun e w' => e = .returned (.tuple #[.int .i64 (dval 0 (r.take 3) : Nat), .nilIface]) ∧ Pur w w' := fun hd w =>
        atoid_any (r.take 3) w (by intro e; have := congrArg List.length e; rw [List.length_take, List.length_nil] at this; omega) hd (by rw [List.length_take]; omega)
      have D3 : decide ((r.length : Int) < 3) = false := decide_eq_false (by omega)
      have z0 : (0 : Int) < r.length := by omega
      have z3 : (3 : Int) ≤ r.length := by omega
      obtain ⟨b1, t1⟩ : ∃ b1, decide (by8 r 0 < 49) = b1 := ⟨_, rfl⟩
      obtain ⟨b2, t2⟩ : ∃ b2, decide (53 < by8 r 0) = b2 := ⟨_, rfl⟩
      obtain ⟨b3, t3⟩ : ∃ b3, digitsB (r.take 3) = b3 := ⟨_, rfl⟩
      obtain ⟨b4, t4⟩ : ∃ b4, decide (3 < r.length) = b4 := ⟨_, rfl⟩
      obtain ⟨b5, t5⟩ : ∃ b5, decide (by8 r 3 = 32) = b5 := ⟨_, rfl⟩
      obtain ⟨b6, t6⟩ : ∃ b6, okText r = b6 := ⟨_, rfl⟩
      have s1 : decide ((by8 r 0 : Int) < 49) = b1 := by rw [← t1]; exact decide_eq_decide.2 (by omega)
      have s2 : decide ((53 : Int) < by8 r 0) = b2 := by rw [← t2]; exact decide_eq_decide.2 (by omega)
      have s3 : (Lib.trimS (r.take 3) dmarks != []) = !b3 := by
        rw [← t3, Bool.eq_iff_iff]
        have := trimD (r.take 3)
        simp [this]
      have s3' : (Lib.trimS (r.take 3) dmarks).isEmpty = b3 := by
        rw [← t3, Bool.eq_iff_iff, List.isEmpty_iff]
        exact trimD _
      have s4 : decide ((3 : Int) < r.length) = b4 := by rw [← t4]; exact decide_eq_decide.2 (by omega)
      have s5 : ((by8 r 3 : Int) != 32) = !b5 := by
        rw [← t5, Bool.eq_iff_iff]
        simp
        omega
      have Z : b4 = true → (3 : Int) < r.length := fun h => by rw [h] at t4; have := of_decide_eq_true t4; omega
      rw [t3] at AT
      rw [t6] at X
      rw [t1, t2, t3, t4, t5, t6]
      clear t1 t2 t3 t4 t5 t6 h3
      generalize Lib.trimS (r.take 3) dmarks = tr at *
      rcases b1 with _ | _ <;> rcases b2 with _ | _ <;> rcases b3 with _ | _ <;> rcases b4 with _ | _ <;> rcases b5 with _ | _ <;> rcases b6 with _ | _
      all_goals
        try have AT2 := AT rfl
        try have Z2 := Z rfl
        clear AT Z
        go_enter Tryz.func27, Tryz.ntmps27
        go_wp2_with fail
        refine (C _).mono ?_
        rintro e w' ⟨rfl, rfl⟩
        have K := Lib.hid (Pur.refl w)
        go_wp2_with (first
          | (go_at_call 35; refine (T _).mono ?_; rintro e w1 ⟨rfl, hp1⟩; have K := Lib.hid (K.out.trans hp1); clear hp1)
          | (go_at_call 37; refine (X _).mono ?_; rintro e w' ⟨rfl, rfl⟩)
          | (go_at_call 39; refine (AT2 _).mono ?_; rintro e w2 ⟨rfl, hp2⟩; have K := Lib.hid (K.out.trans hp2); clear hp2))
        go_ret2
        exact ⟨rfl, K.out⟩
    · have hn : stR r = none := by unfold stR; rw [if_neg (fun h => h3 h.1)]
      rw [hn]
      have D3 : decide ((r.length : Int) < 3) = true := decide_eq_true (by omega)
      clear hn h3
      go_enter Tryz.func27, Tryz.ntmps27
      go_wp2_with fail
      refine (C _).mono ?_
      rintro e w' ⟨rfl, rfl⟩
      go_wp2
      go_ret2
      exact ⟨rfl, Pur.refl w⟩
  · have hv : stv s = (0, false) := by unfold stv; rw [status_rest, if_neg hp]
    rw [hv]
    rw [decide_eq_false hp, if_neg hp] at C
    clear hv hp
    go_enter Tryz.func27, Tryz.ntmps27
    go_wp2_with fail
    refine (C _).mono ?_
    rintro e w' ⟨rfl, rfl⟩
    go_wp2
    go_ret2
    exact ⟨rfl, Pur.refl w⟩
end Go.Proofs.YtlgdkaeiadhiaaaGreatDoor
