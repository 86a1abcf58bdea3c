/- The laws' first question. -/
import Derived.Test.YthfoidodcfdpnaaDoorFldPure3
namespace Go.Proofs.YthfoidodcfdpnaaDoor
open Go Go.RowKit
theorem FRead.one (w : World) (a b : Bytes) (t : TypeId) : FRead (w.alloc (.cells #[.string ⟨a.toArray⟩, .string ⟨b.toArray⟩] t)) (.slice (some ⟨w.heap.size, 0, none⟩) 1 1) [(a, b)] := by
  refine ⟨_, _, rfl, fun j f hj => ?_⟩
  match j, hj with
  | 0, hj =>
    obtain rfl := Option.some.inj hj
    exact ⟨_, 0, rfl, by simp, by rw [World.cell?_alloc_mark]; rfl, by rw [World.cell?_alloc_mark]; rfl⟩
theorem awake_parse : parse [97, 61, 49, 38, 98, 61, 120, 43, 121, 37, 50, 49, 38, 38, 99] = ([([97], [49]), ([98], [120, 32, 121, 33]), ([99], [])], 0) := by
  simp [parse, pieces, fieldsOf, field, nameOf, valueOf, said, hexV, by8, B8]
theorem awake_bad : parse [37, 52] = ([], 210) := by
  simp [parse, pieces, fieldsOf, field, nameOf, valueOf, said]
theorem awake_write : write [([97], [195, 169, 32, 38])] = ([97, 61, 37, 67, 51, 37, 65, 57, 43, 37, 50, 54], 0) := by decide +kernel
theorem awake_find : find [([97], [49]), ([98], [120, 32, 121, 33]), ([99], [])] [98] = ([120, 32, 121, 33], true) := by decide +kernel
set_option maxRecDepth 100000 in
set_option maxHeartbeats 2000000 in
theorem awake_any (w : World) (hM : MX w) : Calls Tryd.prog 9 #[] w fun e w' => e = .returned (.bool true) ∧ Pur w w' := by
  have P1 := fun w hM => parse_any [97, 61, 49, 38, 98, 61, 120, 43, 121, 37, 50, 49, 38, 38, 99] w hM
  rw [awake_parse] at P1
  simp only at P1
  have P2 := fun w hM => parse_any [37, 52] w hM
  rw [awake_bad] at P2
  simp only at P2
  have P3 := fun v w hR => write_any v [([97], [195, 169, 32, 38])] w hR (by decide) (fun f hf => by obtain rfl := List.mem_singleton.1 hf; decide)
  rw [awake_write] at P3
  simp only at P3
  have P4 := fun v w hR => find_any v [([97], [49]), ([98], [120, 32, 121, 33]), ([99], [])] [98] w hR (by decide)
  rw [awake_find] at P4
  simp only at P4
  go_enter Tryd.func9, Tryd.ntmps9
  go_wp2_with fail
  refine (P1 _ hM).mono ?_
  rintro e w1 ⟨v1, rfl, hr1, hp1⟩
  obtain ⟨a1, c1, rfl, _⟩ := id hr1
  go_wp2_with fail
  refine (P2 _ (hM.pur hp1)).mono ?_
  rintro e w2 ⟨v2, rfl, hr2, hp2⟩
  obtain ⟨a2, c2, rfl, _⟩ := id hr2
  go_wp2_with fail
  refine (P3 _ _ (FRead.one _ _ _ _)).mono ?_
  rintro e w3 ⟨rfl, hp3⟩
  have hp : Pur w1 w3 := (hp2.trans ((Pur.refl w2).alloc _)).trans hp3
  go_wp2_with fail
  refine (P4 _ _ (hr1.pur hp)).mono ?_
  rintro e w4 ⟨rfl, hp4⟩
  go_wp2
  go_ret
  exact ⟨rfl, (hp1.trans hp).trans hp4⟩
theorem parse_any' (l : Bytes) (w : World) (hM : MX w) :
    Calls Tryd.prog 10 #[.string ⟨l.toArray⟩] w fun e w' => ∃ a c, e = .returned (.tuple #[.slice a (parse l).1.length c, .int .i64 (parse l).2]) ∧ FRead w' (.slice a (parse l).1.length c) (parse l).1 ∧ Pur w w' := by
  refine (parse_any l w hM).mono ?_
  rintro e w' ⟨v, rfl, hr, hp⟩
  obtain ⟨a, c, rfl, _⟩ := id hr
  exact ⟨a, c, rfl, hr, hp⟩
theorem rparse_any' (l : Bytes) (w : World) :
    Calls Tryd.prog 11 #[.string ⟨l.toArray⟩] w fun e w' => ∃ a c, e = .returned (.tuple #[.slice a (parse l).1.length c, .int .i64 (parse l).2]) ∧ FRead w' (.slice a (parse l).1.length c) (parse l).1 ∧ Pur w w' := by
  refine (rparse_any l w).mono ?_
  rintro e w' ⟨v, rfl, hr, hp⟩
  obtain ⟨a, c, rfl, _⟩ := id hr
  exact ⟨a, c, rfl, hr, hp⟩
theorem parse_err (l : Bytes) : (parse l).2 = 0 ∨ (parse l).2 = 2 ∨ (parse l).2 = 4 ∨ (parse l).2 = 210 := by
  rcases parse_cases l with ⟨_, e⟩ | ⟨_, _, e⟩ | ⟨fs, _, _, _, e⟩ | ⟨fs, h1, h2, h3, e⟩ <;> rw [e] <;> simp
set_option maxRecDepth 100000 in
set_option maxHeartbeats 2000000 in
theorem reads_law (s name : Bytes) (w : World) (hM : MX w) :
    Calls Tryd.prog 3 #[.string ⟨s.toArray⟩, .string ⟨name.toArray⟩] w fun e w' => e = .returned (.bool true) ∧ Pur w w' := by
  have P1 := fun w hM => parse_any' s w hM
  have P2 := fun w => rparse_any' s w
  obtain ⟨_, hl⟩ := parse_small s
  have he := parse_err s
  generalize parse s = r at *
  obtain ⟨fs, n⟩ := r
  simp only at *
  have P3 := fun v w hR => find_any v fs name w hR (by omega)
  have P4 := fun v w hR => rfind_any v fs name w hR (by omega)
  have P5 := fun v u w hR hQ => same_any v u fs fs w hR hQ (by omega) (by omega)
  generalize find fs name = r at *
  obtain ⟨x, b⟩ := r
  rw [decide_eq_true (rfl : fs = fs)] at P5
  simp only at *
  have b1 : -1 < n := by omega
  have b2 : n < 1000 := by omega
  clear he
  go_enter Tryd.func3, Tryd.ntmps3
  go_wp2_with fail
  refine (awake_any _ hM).mono ?_
  rintro e w1 ⟨rfl, hp1⟩
  go_wp2_with fail
  refine (P1 _ (hM.pur hp1)).mono ?_
  rintro e w2 ⟨a2, c2, rfl, hr2, hp2⟩
  go_wp2_with fail
  refine (P2 _).mono ?_
  rintro e w3 ⟨a3, c3, rfl, hr3, hp3⟩
  go_wp2_with fail
  refine (P3 _ _ (hr2.pur hp3)).mono ?_
  rintro e w4 ⟨rfl, hp4⟩
  go_wp2_with fail
  refine (P4 _ _ (hr3.pur hp4)).mono ?_
  rintro e w5 ⟨rfl, rfl⟩
  go_wp2_with fail
  refine (P5 _ _ _ ((hr2.pur hp3).pur hp4) (hr3.pur hp4)).mono ?_
  rintro e w6 ⟨rfl, hp6⟩
  go_wp2
  go_ret
  exact ⟨by simp, (((hp1.trans hp2).trans hp3).trans hp4).trans hp6⟩
end Go.Proofs.YthfoidodcfdpnaaDoor
