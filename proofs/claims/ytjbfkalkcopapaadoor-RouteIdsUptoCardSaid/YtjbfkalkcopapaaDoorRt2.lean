/- Ids: strings.Map with a mapping of one's own. -/
import Derived.Test.YtjbfkalkcopapaaDoorRt1
import Derived.Lib.MapLaws
import Derived.Lib.TrimUEq
import Derived.Lib.TrimAscii
namespace Go.Proofs.YtjbfkalkcopapaaDoor
open Go Go.RowKit
set_option linter.all false
/-- what the mapping makes of a rune -/
def plainF (x : Int) : Int := if 127 < x then 120 else x
theorem decode_far (l : Bytes) (c : UInt8) (r : Bytes) (hl : l = c :: r) (hc : 128 ≤ c.toNat) : 128 ≤ (Lib.decodeL l).1 ∧ (∀ j, j < (Lib.decodeL l).2 → 128 ≤ (l.getD j 0).toNat) := by
  have h0 : (l.getD 0 0).toNat = c.toNat := by rw [hl]; rfl
  have h1 := UInt8.toNat_lt (l.getD 1 0)
  have h2 := UInt8.toNat_lt (l.getD 2 0)
  have h3 := UInt8.toNat_lt (l.getD 3 0)
  have hcl := UInt8.toNat_lt c
  rw [Lib.decodeL_N]
  unfold Lib.decodeN
  repeat' split
  all_goals
    refine ⟨by first | omega | (simp only; omega), fun j hj => ?_⟩
    simp only at hj
    rcases (show j = 0 ∨ j = 1 ∨ j = 2 ∨ j = 3 by omega) with rfl | rfl | rfl | rfl <;> omega
theorem mapF_cons (c : UInt8) (r : Bytes) (h : c.toNat < 128) : Lib.mapD plainF (c :: r) = c :: Lib.mapD plainF r := by
  rw [Lib.mapD_step _ _ (by simp), Lib.decodeL_ascii c r h]
  have e1 : plainF (c.toNat : Int) = (c.toNat : Int) := by unfold plainF; rw [if_neg (by omega)]
  simp only [e1]
  rw [if_pos (by omega), Lib.encodeRune, Lib.encodeRuneZ_one (by omega) (by omega)]
  simp
theorem mapF_far (l : Bytes) (c : UInt8) (r : Bytes) (hl : l = c :: r) (h : 128 ≤ c.toNat) : Lib.mapD plainF l = 120 :: Lib.mapD plainF (l.drop (Lib.decodeL l).2) := by
  have hd := (decode_far l c r hl h).1
  rw [Lib.mapD_step _ _ (by rw [hl]; simp)]
  have e1 : plainF ((Lib.decodeL l).1 : Int) = 120 := by unfold plainF; rw [if_pos (by omega)]
  rw [e1, if_pos (by omega), Lib.encodeRune, Lib.encodeRuneZ_one (by omega) (by omega)]
  rfl
def marks : Bytes := [95, 45, 46, 35]
theorem let_id (b : Nat) (hb : b < 128) : letB marks b = idB b := by
  have H : ∀ b : Fin 128, letB marks b.val = idB b.val := by decide +kernel
  exact H ⟨b, hb⟩
theorem mapF_all : ∀ (n : Nat) (l : Bytes), l.length ≤ n → ((Lib.mapD plainF l).all (fun c => letB marks c.toNat) = l.all (fun c => idB c.toNat)) ∧ (Lib.mapD plainF l).length ≤ l.length ∧ (l ≠ [] → Lib.mapD plainF l ≠ []) := by
  intro n
  induction n with
  | zero =>
    intro l h
    obtain rfl : l = [] := List.length_eq_zero_iff.1 (by omega)
    exact ⟨rfl, Nat.le_refl _, fun h => absurd rfl h⟩
  | succ n ih =>
    intro l h
    cases hl : l with
    | nil => exact ⟨rfl, Nat.le_refl _, fun h => absurd rfl h⟩
    | cons c r =>
      by_cases hc : c.toNat < 128
      · rw [mapF_cons c r hc]
        obtain ⟨h1, h2, _⟩ := ih r (by rw [hl, List.length_cons] at h; omega)
        refine ⟨?_, by rw [List.length_cons, List.length_cons]; omega, fun _ => by simp⟩
        rw [List.all_cons, List.all_cons, h1, let_id _ hc]
      · rw [← hl]
        obtain ⟨g1, g2⟩ := decode_far l c r hl (by omega)
        have hw := Lib.decodeL_width l
        have hle := Lib.decodeL_le l (by rw [hl]; simp)
        obtain ⟨h1, h2, _⟩ := ih (l.drop (Lib.decodeL l).2) (by rw [List.length_drop]; omega)
        rw [List.length_drop] at h2
        rw [mapF_far l c r hl (by omega)]
        refine ⟨?_, by rw [List.length_cons]; omega, fun _ => by simp⟩
        rw [List.all_cons, h1]
        have ht : (l.take (Lib.decodeL l).2).all (fun c => idB c.toNat) = true := by
          rw [List.all_eq_true]
          intro x hx
          obtain ⟨j, hj, rfl⟩ := List.getElem_of_mem hx
          rw [List.length_take] at hj
          have := g2 j (by omega)
          rw [List.getElem_take]
          have e : l[j] = l.getD j 0 := by simp [List.getD_eq_getElem?_getD, show j < l.length by omega]
          rw [e]
          simp only [idB, Bool.or_eq_true, decide_eq_true_eq]
          exact .inr this
        conv => rhs; rw [← List.take_append_drop (Lib.decodeL l).2 l]
        rw [List.all_append, ht]
        have e120 : letB marks (120 : UInt8).toNat = true := by decide +kernel
        rw [e120]
/-- an id is right just where its plain form is -/
theorem id_plain (l : Bytes) : (okLet marks (Lib.mapD plainF l) && decide (l.length ≤ 64)) = okId l := by
  obtain ⟨h1, h2, h3⟩ := mapF_all _ l (Nat.le_refl _)
  unfold okLet okId
  rw [h1]
  by_cases h64 : l.length ≤ 64
  · have : (Lib.mapD plainF l).length ≤ 64 := by omega
    by_cases h0 : l = []
    · subst h0; rfl
    · have e1 := List.length_pos_iff.2 (h3 h0)
      have e2 := List.length_pos_iff.2 h0
      rw [decide_eq_true h64, decide_eq_true this, decide_eq_true e1, decide_eq_true e2]
      simp
  · rw [decide_eq_false h64]
    simp
set_option maxRecDepth 100000 in
theorem idfun_any (W : World) (x : Nat) : Calls Tryd.prog 36 #[.int .i32 x] W fun e w' => e = .returned (.int .i32 (plainF x)) ∧ W = w' := by
  by_cases h : (127 : Int) < x
  · have e : plainF x = 120 := by unfold plainF; rw [if_pos h]
    rw [e]
    go_enter Tryd.func36, Tryd.ntmps36
    go_wp2
    go_ret
    exact ⟨rfl, rfl⟩
  · have e : plainF x = x := by unfold plainF; rw [if_neg h]
    rw [e]
    have d : decide ((127 : Int) < x) = false := decide_eq_false h
    go_enter Tryd.func36, Tryd.ntmps36
    go_wp2
    go_ret
    exact ⟨rfl, rfl⟩
theorem map_any (l : Bytes) (w : World) (hT : Lib.Utf8Tabs 4 5 w) (hs : l.length ≤ 1000000000) :
    Calls Tryd.prog 35 #[.func (.func 36) #[] #[], .string ⟨l.toArray⟩] w fun e w' => e = .returned (.string ⟨(Lib.mapD plainF l).toArray⟩) ∧ Pur w w' := by
  have hz : (ByteArray.mk l.toArray).size = l.length := by show l.toArray.size = _; simp
  refine (Tryd.strings_Map_grows 36 #[] ?_ plainF ⟨l.toArray⟩ w (by rw [hz]; omega) ?_ ?_ hT).mono ?_
  · intro args W
    exact Go.Proofs.enters_of Tryd.func36 (by kernel_rfl) rfl args W
  · intro W x hx hb
    refine (idfun_any W x).mono ?_
    rintro e w' ⟨rfl, rfl⟩
    exact ⟨rfl, Below.refl _ _⟩
  · intro x hx
    unfold plainF
    split <;> omega
  · rintro e w' ⟨rfl, hb⟩
    exact ⟨rfl, hb⟩
set_option maxRecDepth 100000 in
theorem id_any (l : Bytes) (w : World) (hT : Lib.Utf8Tabs 4 5 w) (hs : l.length ≤ 1000000000) :
    Calls Tryd.prog 25 #[.string ⟨l.toArray⟩] w fun e w' => e = .returned (.bool (okId l)) ∧ Pur w w' := by
  have L := fun w => letters_any (Lib.mapD plainF l) marks w (by have := (mapF_all _ l (Nat.le_refl _)).2.1; omega)
  have hid := id_plain l
  have M := map_any l w hT hs
  generalize Lib.mapD plainF l = m at *
  rcases hb : okLet marks m with _ | _
  · rw [hb] at hid L
    rw [← hid]
    go_enter Tryd.func25, Tryd.ntmps25
    go_wp2_with fail
    refine M.mono ?_
    rintro e w1 ⟨rfl, hp1⟩
    go_wp2_with fail
    refine (L _).mono ?_
    rintro e w2 ⟨rfl, rfl⟩
    go_wp2
    go_ret
    exact ⟨rfl, hp1⟩
  · rw [hb] at hid L
    rw [← hid]
    go_enter Tryd.func25, Tryd.ntmps25
    go_wp2_with fail
    refine M.mono ?_
    rintro e w1 ⟨rfl, hp1⟩
    go_wp2_with fail
    refine (L _).mono ?_
    rintro e w2 ⟨rfl, rfl⟩
    go_wp2
    go_ret
    exact ⟨by simp; omega, hp1⟩
end Go.Proofs.YtjbfkalkcopapaaDoor
