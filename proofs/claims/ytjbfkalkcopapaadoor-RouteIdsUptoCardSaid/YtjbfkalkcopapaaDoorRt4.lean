/- A target of the internal processor. -/
import Derived.Test.YtjbfkalkcopapaaDoorRt3
namespace Go.Proofs.YtjbfkalkcopapaaDoor
open Go Go.RowKit
set_option linter.all false
def adrZ : Array Value := #[.int .i64 0, .string ⟨#[]⟩, .string ⟨#[]⟩, .int .i64 0, .string ⟨#[]⟩]
/-- the cells of a block of one's own, known whole -/
theorem blk_facts {w : World} {g : Nat} {t : TypeId} {c0 c1 c2 c3 c4 : Value} (h : w.heap[g]? = some (.cells #[c0, c1, c2, c3, c4] t (0, 0))) :
    w.cell? ⟨g, 0, none⟩ = some c0 ∧ w.cell? ⟨g, 1, none⟩ = some c1 ∧ w.cell? ⟨g, 2, none⟩ = some c2 ∧ w.cell? ⟨g, 3, none⟩ = some c3 ∧ w.cell? ⟨g, 4, none⟩ = some c4 ∧
    w.frozen? ⟨g, 0, none⟩ = false ∧ w.frozen? ⟨g, 1, none⟩ = false ∧ w.frozen? ⟨g, 2, none⟩ = false ∧ w.frozen? ⟨g, 3, none⟩ = false ∧ w.frozen? ⟨g, 4, none⟩ = false := by
  simp [World.cell?, World.frozen?, h]
set_option maxRecDepth 100000 in
set_option maxHeartbeats 8000000 in
theorem internal_any (t : Bytes) (w : World) (hT : Lib.Utf8Tabs 4 5 w) (hs : t.length ≤ 1000000000) :
    Calls Tryd.prog 17 #[.string ⟨t.toArray⟩] w fun e w' => e = .returned (.tuple #[adrV (said190 (internal t)).1, .int .i64 (said190 (internal t)).2]) ∧ Pur w w' := by
  by_cases h0 : t = []
  · subst h0
    have e : said190 (internal []) = (⟨1, [], [], 0, []⟩, 0) := by decide
    rw [e]
    clear e
    go_enter Tryd.func17, Tryd.ntmps17
    go_wp2
    refine bodyPost_ret (v := .tuple #[adrV ⟨1, [], [], 0, []⟩, .int .i64 0]) (by simp [results, Tryd.results17, go_sem, adrV, Adr.zero]) rfl ⟨rfl, ?_⟩
    repeat (first | with_reducible exact (Pur.refl w).alloc _ | refine Pur.setCell ?_ (by simp) _)
  by_cases h1 : t = [35, 95, 105, 110, 116, 101, 114, 110, 97, 108]
  · subst h1
    have e : said190 (internal [35, 95, 105, 110, 116, 101, 114, 110, 97, 108]) = (⟨2, [], [], 0, []⟩, 0) := by decide
    rw [e]
    clear e
    go_enter Tryd.func17, Tryd.ntmps17
    go_wp2
    refine bodyPost_ret (v := .tuple #[adrV ⟨2, [], [], 0, []⟩, .int .i64 0]) (by simp [results, Tryd.results17, go_sem, adrV, Adr.zero]) rfl ⟨rfl, ?_⟩
    repeat (first | with_reducible exact (Pur.refl w).alloc _ | refine Pur.setCell ?_ (by simp) _)
  by_cases h2 : t = [35, 95, 112, 97, 114, 101, 110, 116]
  · subst h2
    have e : said190 (internal [35, 95, 112, 97, 114, 101, 110, 116]) = (⟨3, [], [], 0, []⟩, 0) := by decide
    rw [e]
    clear e
    go_enter Tryd.func17, Tryd.ntmps17
    go_wp2
    refine bodyPost_ret (v := .tuple #[adrV ⟨3, [], [], 0, []⟩, .int .i64 0]) (by simp [results, Tryd.results17, go_sem, adrV, Adr.zero]) rfl ⟨rfl, ?_⟩
    repeat (first | with_reducible exact (Pur.refl w).alloc _ | refine Pur.setCell ?_ (by simp) _)
  have q0 := isEmpty_no h0
  have q1 := beq_no h1
  have q2 := beq_no h2
  have C1 : ∀ w, Calls Tryd.prog 24 #[.string ⟨t.toArray⟩, .string ⟨#[35, 95, 115, 99, 120, 109, 108, 95]⟩] w fun e w' => e = .returned (.tuple #[.string ⟨(Lib.trimPrefix t headS).toArray⟩, .bool (decide (headS <+: t))]) ∧ w = w' := fun w => cut_pre t headS w
  have C2 : ∀ w, Calls Tryd.prog 24 #[.string ⟨t.toArray⟩, .string ⟨#[35, 95]⟩] w fun e w' => e = .returned (.tuple #[.string ⟨(Lib.trimPrefix t headI).toArray⟩, .bool (decide (headI <+: t))]) ∧ w = w' := fun w => cut_pre t headI w
  have I1 := fun w hT => id_any (t.drop 8) w hT (by rw [List.length_drop]; omega)
  have I2 := fun w hT => id_any (t.drop 2) w hT (by rw [List.length_drop]; omega)
  have e : internal t = if headS <+: t ∧ okId (t.drop 8) = true then some ⟨4, t.drop 8, [], 0, []⟩ else if headI <+: t ∧ okId (t.drop 2) = true then some ⟨5, t.drop 2, [], 0, []⟩ else none := by
    unfold internal
    rw [if_neg h0, if_neg (show ¬ t = tInternal from h1), if_neg (show ¬ t = tParent from h2)]
  rw [e]
  clear e h0 h1 h2
  by_cases pS : headS <+: t
  · rw [decide_eq_true pS, trimPrefix_yes pS, show headS.length = 8 from rfl] at C1
    have pI : headI <+: t := List.IsPrefix.trans ⟨[115, 99, 120, 109, 108, 95], rfl⟩ pS
    rw [decide_eq_true pI, trimPrefix_yes pI, show headI.length = 2 from rfl] at C2
    rcases iS : okId (t.drop 8) with _ | _
    · rw [iS] at I1
      rcases iI : okId (t.drop 2) with _ | _
      · rw [iI] at I2
        rw [if_neg (by simp), if_neg (by simp)]
        clear pS pI iS iI
        go_enter Tryd.func17, Tryd.ntmps17
        go_wp2_with fail
        refine (C1 _).mono ?_
        rintro e w' ⟨rfl, rfl⟩
        go_wp2_with fail
        refine (I1 _ (Utf8Tabs_below hT ((Pur.refl w).alloc _))).mono ?_
        rintro e w1 ⟨rfl, hpw1⟩
        have hq1 : Pur w w1 := ((Pur.refl w).alloc _).trans hpw1
        go_wp2_with fail
        refine (C2 _).mono ?_
        rintro e w' ⟨rfl, rfl⟩
        go_wp2_with fail
        refine (I2 _ (Utf8Tabs_below hT (hq1))).mono ?_
        rintro e w2 ⟨rfl, hpw2⟩
        have hq2 : Pur (w.alloc _) w2 := hpw1.trans hpw2
        have hB := (hq2.block w.heap.size (by simp)).trans (Array.getElem?_push_size)
        obtain ⟨c0, c1, c2, c3, c4, f0, f1, f2, f3, f4⟩ := blk_facts hB
        have hz := hq2.size
        have HB := Lib.hid hB
        clear hB
        go_wp2
        refine bodyPost_ret (v := .tuple #[adrV Adr.zero, .int .i64 190]) (by simp [results, Tryd.results17, go_sem, adrV, Adr.zero, c0, c1, c2, c3, c4, f0, f1, f2, f3, f4]) rfl ⟨rfl, ?_⟩
        have hp : Pur w w2 := hq1.trans hpw2
        repeat (first | with_reducible exact hp | refine Pur.setCell ?_ (by simp) _)
      · rw [iI] at I2
        rw [if_neg (by simp), if_pos ⟨pI, rfl⟩]
        clear pS pI iS iI
        go_enter Tryd.func17, Tryd.ntmps17
        go_wp2_with fail
        refine (C1 _).mono ?_
        rintro e w' ⟨rfl, rfl⟩
        go_wp2_with fail
        refine (I1 _ (Utf8Tabs_below hT ((Pur.refl w).alloc _))).mono ?_
        rintro e w1 ⟨rfl, hpw1⟩
        have hq1 : Pur w w1 := ((Pur.refl w).alloc _).trans hpw1
        go_wp2_with fail
        refine (C2 _).mono ?_
        rintro e w' ⟨rfl, rfl⟩
        go_wp2_with fail
        refine (I2 _ (Utf8Tabs_below hT (hq1))).mono ?_
        rintro e w2 ⟨rfl, hpw2⟩
        have hq2 : Pur (w.alloc _) w2 := hpw1.trans hpw2
        have hB := (hq2.block w.heap.size (by simp)).trans (Array.getElem?_push_size)
        obtain ⟨c0, c1, c2, c3, c4, f0, f1, f2, f3, f4⟩ := blk_facts hB
        have hz := hq2.size
        have HB := Lib.hid hB
        clear hB
        go_wp2
        refine bodyPost_ret (v := .tuple #[adrV ⟨5, t.drop 2, [], 0, []⟩, .int .i64 0]) (by simp [results, Tryd.results17, go_sem, adrV, Adr.zero, c0, c1, c2, c3, c4, f0, f1, f2, f3, f4]) rfl ⟨rfl, ?_⟩
        have hp : Pur w w2 := hq1.trans hpw2
        repeat (first | with_reducible exact hp | refine Pur.setCell ?_ (by simp) _)
    · rw [iS] at I1
      rw [if_pos ⟨pS, rfl⟩]
      clear pS pI iS
      go_enter Tryd.func17, Tryd.ntmps17
      go_wp2_with fail
      refine (C1 _).mono ?_
      rintro e w' ⟨rfl, rfl⟩
      go_wp2_with fail
      refine (I1 _ (Utf8Tabs_below hT ((Pur.refl w).alloc _))).mono ?_
      rintro e w1 ⟨rfl, hpw1⟩
      have hB := (hpw1.block w.heap.size (by simp)).trans (Array.getElem?_push_size)
      obtain ⟨c0, c1, c2, c3, c4, f0, f1, f2, f3, f4⟩ := blk_facts hB
      have hz := hpw1.size
      have HB := Lib.hid hB
      clear hB
      go_wp2
      refine bodyPost_ret (v := .tuple #[adrV ⟨4, t.drop 8, [], 0, []⟩, .int .i64 0]) (by simp [results, Tryd.results17, go_sem, adrV, Adr.zero, c0, c1, c2, c3, c4, f0, f1, f2, f3, f4]) rfl ⟨rfl, ?_⟩
      have hp : Pur w w1 := ((Pur.refl w).alloc _).trans hpw1
      repeat (first | with_reducible exact hp | refine Pur.setCell ?_ (by simp) _)
  · rw [decide_eq_false pS, trimPrefix_no pS] at C1
    rw [if_neg (fun h => pS h.1)]
    by_cases pI : headI <+: t
    · rw [decide_eq_true pI, trimPrefix_yes pI, show headI.length = 2 from rfl] at C2
      rcases iI : okId (t.drop 2) with _ | _
      · rw [iI] at I2
        rw [if_neg (by simp)]
        clear pS pI iI
        go_enter Tryd.func17, Tryd.ntmps17
        go_wp2_with fail
        refine (C1 _).mono ?_
        rintro e w' ⟨rfl, rfl⟩
        go_wp2_with fail
        refine (C2 _).mono ?_
        rintro e w' ⟨rfl, rfl⟩
        go_wp2_with fail
        refine (I2 _ (Utf8Tabs_below hT ((Pur.refl w).alloc _))).mono ?_
        rintro e w1 ⟨rfl, hpw1⟩
        have hB := (hpw1.block w.heap.size (by simp)).trans (Array.getElem?_push_size)
        obtain ⟨c0, c1, c2, c3, c4, f0, f1, f2, f3, f4⟩ := blk_facts hB
        have hz := hpw1.size
        have HB := Lib.hid hB
        clear hB
        go_wp2
        refine bodyPost_ret (v := .tuple #[adrV Adr.zero, .int .i64 190]) (by simp [results, Tryd.results17, go_sem, adrV, Adr.zero, c0, c1, c2, c3, c4, f0, f1, f2, f3, f4]) rfl ⟨rfl, ?_⟩
        have hp : Pur w w1 := ((Pur.refl w).alloc _).trans hpw1
        repeat (first | with_reducible exact hp | refine Pur.setCell ?_ (by simp) _)
      · rw [iI] at I2
        rw [if_pos ⟨pI, rfl⟩]
        clear pS pI iI
        go_enter Tryd.func17, Tryd.ntmps17
        go_wp2_with fail
        refine (C1 _).mono ?_
        rintro e w' ⟨rfl, rfl⟩
        go_wp2_with fail
        refine (C2 _).mono ?_
        rintro e w' ⟨rfl, rfl⟩
        go_wp2_with fail
        refine (I2 _ (Utf8Tabs_below hT ((Pur.refl w).alloc _))).mono ?_
        rintro e w1 ⟨rfl, hpw1⟩
        have hB := (hpw1.block w.heap.size (by simp)).trans (Array.getElem?_push_size)
        obtain ⟨c0, c1, c2, c3, c4, f0, f1, f2, f3, f4⟩ := blk_facts hB
        have hz := hpw1.size
        have HB := Lib.hid hB
        clear hB
        go_wp2
        refine bodyPost_ret (v := .tuple #[adrV ⟨5, t.drop 2, [], 0, []⟩, .int .i64 0]) (by simp [results, Tryd.results17, go_sem, adrV, Adr.zero, c0, c1, c2, c3, c4, f0, f1, f2, f3, f4]) rfl ⟨rfl, ?_⟩
        have hp : Pur w w1 := ((Pur.refl w).alloc _).trans hpw1
        repeat (first | with_reducible exact hp | refine Pur.setCell ?_ (by simp) _)
    · rw [decide_eq_false pI, trimPrefix_no pI] at C2
      rw [if_neg (fun h => pI h.1)]
      clear pS pI
      go_enter Tryd.func17, Tryd.ntmps17
      go_wp2_with fail
      refine (C1 _).mono ?_
      rintro e w' ⟨rfl, rfl⟩
      go_wp2_with fail
      refine (C2 _).mono ?_
      rintro e w' ⟨rfl, rfl⟩
      go_wp2
      refine bodyPost_ret (v := .tuple #[adrV Adr.zero, .int .i64 190]) (by simp [results, Tryd.results17, go_sem, adrV, Adr.zero]) rfl ⟨rfl, ?_⟩
      repeat (first | with_reducible exact (Pur.refl w).alloc _ | refine Pur.setCell ?_ (by simp) _)
end Go.Proofs.YtjbfkalkcopapaaDoor
