/- The layer's url at any text; the layer's Find, Session, Page. -/
import Derived.Test.YtjbfkalkcopapaaDoorRt10
import Derived.Lib.AtoiAllCases
namespace Go.Proofs.YtjbfkalkcopapaaDoor
open Go Go.RowKit
set_option linter.all false
theorem portRes_out (b1 b2 b3 bh bp : Bool) (v : Int) (ho pa : Bytes) : portRes b1 b2 b3 bh bp v ho pa = said190 (if b1 && !b2 && !b3 then (if bh = true ∧ bp = true then some ⟨6, [], ho, v, pa⟩ else none) else none) := by
  cases b1 <;> cases b2 <;> cases b3 <;> cases bh <;> cases bp <;> rfl
set_option maxRecDepth 100000 in
set_option maxHeartbeats 4000000 in
/-- not of the web, or too long -/
theorem url_no (t s : Bytes) (b : Bool) (w : World) (hs : t.length ≤ 140737488351232) (hb : b = false ∨ (b = true ∧ 256 < t.length))
   (C1 : ∀ w, Calls Tryd.prog 24 #[.string ⟨t.toArray⟩, .string ⟨#[104, 116, 116, 112, 58, 47, 47]⟩] w fun e w' => e = .returned (.tuple #[.string ⟨s.toArray⟩, .bool b]) ∧ w = w') :
    Calls Tryd.prog 18 #[.string ⟨t.toArray⟩] w fun e w' => e = .returned (.tuple #[adrV Adr.zero, .int .i64 190]) ∧ Pur w w' := by
  rcases hb with rfl | ⟨rfl, hb⟩
  · go_enter Tryd.func18, Tryd.ntmps18
    go_wp2_with fail
    refine (C1 _).mono ?_
    rintro e w' ⟨rfl, rfl⟩
    go_wp2
    refine bodyPost_ret (v := .tuple #[adrV Adr.zero, .int .i64 190]) (by simp [results, Tryd.results18, go_sem, adrV, Adr.zero]) rfl ⟨rfl, ?_⟩
    repeat (first | with_reducible exact (Pur.refl w).alloc _ | refine Pur.setCell ?_ (by simp) _)
  · have d1 : decide ((256 : Int) < t.length) = true := decide_eq_true (by omega)
    go_enter Tryd.func18, Tryd.ntmps18
    go_wp2_with fail
    refine (C1 _).mono ?_
    rintro e w' ⟨rfl, rfl⟩
    go_wp2
    refine bodyPost_ret (v := .tuple #[adrV Adr.zero, .int .i64 190]) (by simp [results, Tryd.results18, go_sem, adrV, Adr.zero]) rfl ⟨rfl, ?_⟩
    repeat (first | with_reducible exact (Pur.refl w).alloc _ | refine Pur.setCell ?_ (by simp) _)
theorem url_any (t : Bytes) (w : World) (hW : RW w) (hs : t.length ≤ 140737488351232) :
    Calls Tryd.prog 18 #[.string ⟨t.toArray⟩] w fun e w' => e = .returned (.tuple #[adrV (said190 (url t)).1, .int .i64 (said190 (url t)).2]) ∧ Pur w w' := by
  have C1 : ∀ w, Calls Tryd.prog 24 #[.string ⟨t.toArray⟩, .string ⟨#[104, 116, 116, 112, 58, 47, 47]⟩] w fun e w' => e = .returned (.tuple #[.string ⟨(Lib.trimPrefix t headH).toArray⟩, .bool (decide (headH <+: t))]) ∧ w = w' := fun w => cut_pre t headH w
  by_cases hp1 : headH <+: t
  · rw [decide_eq_true hp1, trimPrefix_yes hp1, show headH.length = 7 from rfl] at C1
    by_cases hl : t.length ≤ 256
    · have hu : url t = match portIn (hp (t.drop 7)) with
        | none => none
        | some n => if okHost (hostOf (hp (t.drop 7))) = true ∧ okPath (pathOf (t.drop 7)) = true then some ⟨6, [], hostOf (hp (t.drop 7)), n, pathOf (t.drop 7)⟩ else none := by
        unfold url
        rw [if_pos ⟨hp1, hl⟩]
        rfl
      rw [hu]
      have hsl : (t.drop 7).length ≤ 256 := by rw [List.length_drop]; omega
      by_cases hpr : (hp (t.drop 7)).dropWhile (· != 58) = []
      · have : portIn (hp (t.drop 7)) = some 80 := by unfold portIn; rw [if_pos hpr]
        rw [this]
        exact url_bare t (t.drop 7) w hW hl hsl hpr C1
      · have hpi : portIn (hp (t.drop 7)) = portOf (((hp (t.drop 7)).dropWhile (· != 58)).drop 1) := by unfold portIn; rw [if_neg hpr]
        rw [hpi]
        generalize hq : ((hp (t.drop 7)).dropWhile (· != 58)).drop 1 = q
        rcases hat : Lib.atoiAll q with v | _ | _
        · obtain ⟨v0, v1⟩ := Lib.atoiAll_bounds hat
          have hres := url_port t (t.drop 7) q v _ _ _ _ _ w hW hl hsl hq hpr hat v0 v1 rfl rfl rfl rfl rfl C1
          rw [portRes_out] at hres
          have e : (match portOf q with
            | none => none
            | some n => if okHost (hostOf (hp (t.drop 7))) = true ∧ okPath (pathOf (t.drop 7)) = true then some (⟨6, [], hostOf (hp (t.drop 7)), n, pathOf (t.drop 7)⟩ : Adr) else none) = (if (Lib.itoa v == q) && !decide (v < 1) && !decide (65535 < v) then (if okHost (hostOf (hp (t.drop 7))) = true ∧ okPath (pathOf (t.drop 7)) = true then some (⟨6, [], hostOf (hp (t.drop 7)), v, pathOf (t.drop 7)⟩ : Adr) else none) else none) := by
            by_cases hg : Lib.itoa v = q ∧ 1 ≤ v ∧ v ≤ 65535
            · rw [portOf_some.2 ⟨hat, hg.1, hg.2.1, hg.2.2⟩, if_pos]
              simp [hg.1]
              omega
            · have hno : portOf q = none := by
                rcases ho : portOf q with _ | n
                · rfl
                · have := portOf_some.1 ho
                  rw [hat] at this
                  obtain ⟨h1, h2⟩ := this
                  injection h1 with h1
                  subst h1
                  exact absurd h2 hg
              rw [hno, if_neg]
              intro hc
              simp only [Bool.and_eq_true, beq_iff_eq, Bool.not_eq_true', decide_eq_false_iff_not] at hc
              exact hg ⟨hc.1.1, by omega, by omega⟩
          rw [e]
          exact hres
        · have hno : portOf q = none := by
            rcases ho : portOf q with _ | n
            · rfl
            · have := (portOf_some.1 ho).1
              rw [hat] at this
              cases this
          rw [hno]
          exact url_noport t (t.drop 7) q w hW hl hsl hq hpr (fun n hn => by rw [hat] at hn; cases hn) C1
        · have hno : portOf q = none := by
            rcases ho : portOf q with _ | n
            · rfl
            · have := (portOf_some.1 ho).1
              rw [hat] at this
              cases this
          rw [hno]
          exact url_noport t (t.drop 7) q w hW hl hsl hq hpr (fun n hn => by rw [hat] at hn; cases hn) C1
    · have hu : url t = none := by unfold url; rw [if_neg (fun h => hl h.2)]
      rw [hu]
      exact url_no t _ _ w hs (.inr ⟨rfl, by omega⟩) C1
  · have hu : url t = none := by unfold url; rw [if_neg (fun h => hp1 h.1)]
    rw [hu]
    rw [decide_eq_false hp1] at C1
    exact url_no t _ _ w hs (.inl rfl) C1
/-- a block of the call's own, behind a call that turned nothing old -/
theorem own_blk {w wx : World} {o : Obj} (h : Pur (w.alloc o) wx) : wx.heap[w.heap.size]? = some o := (h.block w.heap.size (by simp)).trans (Array.getElem?_push_size)
set_option maxRecDepth 100000 in
set_option maxHeartbeats 4000000 in
theorem find_any (t typ : Bytes) (w : World) (hW : RW w) (hs : t.length ≤ 1000000000) :
    Calls Tryd.prog 9 #[.string ⟨t.toArray⟩, .string ⟨typ.toArray⟩] w fun e w' => e = .returned (.tuple #[adrV (rtFind t typ).1, .int .i64 (rtFind t typ).2]) ∧ Pur w w' := by
  have P := fun w => processor_any typ w
  have I := fun w hT => internal_any t w hT hs
  have U := fun w hW => url_any t w hW (by omega)
  by_cases h1 : processor typ = 1
  · rw [rtFind_one h1]
    rw [h1] at P
    generalize said190 (internal t) = r at *
    obtain ⟨⟨rk, ri, rh, rp, rq⟩, rn⟩ := r
    clear U h1
    go_enter Tryd.func9, Tryd.ntmps9
    go_wp2_with fail
    refine (P _).mono ?_
    rintro e w' ⟨rfl, rfl⟩
    go_wp2_with fail
    refine (I _ (hW.pur ((Pur.refl w).alloc _)).tabs).mono ?_
    rintro e w1 ⟨rfl, hp1⟩
    obtain ⟨c0, c1, c2, c3, c4, f0, f1, f2, f3, f4⟩ := blk_facts (own_blk hp1)
    have hz := hp1.size
    have HP := Lib.hid (((Pur.refl w).alloc _).trans hp1)
    clear hp1 P I hW
    simp only [adrV]
    go_wp2
    refine bodyPost_ret (v := .tuple #[adrV ⟨rk, ri, rh, rp, rq⟩, .int .i64 rn]) (by simp [results, Tryd.results9, go_sem, adrV, Adr.zero, c0, c1, c2, c3, c4, f0, f1, f2, f3, f4]) rfl ⟨rfl, ?_⟩
    have hpu := HP.out
    repeat (first | with_reducible exact hpu | refine Pur.setCell ?_ (by simp) _)
  · by_cases h2 : processor typ = 2
    · rw [rtFind_two h2]
      rw [h2] at P
      generalize said190 (url t) = r at *
      obtain ⟨⟨rk, ri, rh, rp, rq⟩, rn⟩ := r
      clear I h1 h2
      go_enter Tryd.func9, Tryd.ntmps9
      go_wp2_with fail
      refine (P _).mono ?_
      rintro e w' ⟨rfl, rfl⟩
      go_wp2_with fail
      refine (U _ (hW.pur ((Pur.refl w).alloc _))).mono ?_
      rintro e w1 ⟨rfl, hp1⟩
      obtain ⟨c0, c1, c2, c3, c4, f0, f1, f2, f3, f4⟩ := blk_facts (own_blk hp1)
      have hz := hp1.size
      have HP := Lib.hid (((Pur.refl w).alloc _).trans hp1)
      clear hp1 P U hW
      simp only [adrV]
      go_wp2
      refine bodyPost_ret (v := .tuple #[adrV ⟨rk, ri, rh, rp, rq⟩, .int .i64 rn]) (by simp [results, Tryd.results9, go_sem, adrV, Adr.zero, c0, c1, c2, c3, c4, f0, f1, f2, f3, f4]) rfl ⟨rfl, ?_⟩
      have hpu := HP.out
      repeat (first | with_reducible exact hpu | refine Pur.setCell ?_ (by simp) _)
    · have e : rtFind t typ = (Adr.zero, 1) := by rw [rtFind, if_neg h1, if_neg h2]
      rw [e]
      have h0 : processor typ = 0 := by
        unfold processor at *
        split at h1
        · exact absurd rfl h1
        · rename_i g
          rw [if_neg g] at h2 ⊢
          split at h2
          · exact absurd rfl h2
          · rename_i g2
            rw [if_neg g2]
      rw [h0] at P
      clear I U h1 h2 e h0
      go_enter Tryd.func9, Tryd.ntmps9
      go_wp2_with fail
      refine (P _).mono ?_
      rintro e w' ⟨rfl, rfl⟩
      go_wp2
      refine bodyPost_ret (v := .tuple #[adrV Adr.zero, .int .i64 1]) (by simp [results, Tryd.results9, go_sem, adrV, Adr.zero]) rfl ⟨rfl, ?_⟩
      repeat (first | with_reducible exact (Pur.refl w).alloc _ | refine Pur.setCell ?_ (by simp) _)
theorem session_any (i : Bytes) (w : World) (hs : i.length ≤ 140737488351232) :
    Calls Tryd.prog 13 #[.string ⟨i.toArray⟩] w fun e w' => e = .returned (.string ⟨(headS ++ i).toArray⟩) ∧ w = w' := by
  have h8 : ¬ 9223372036854775807 < 8 + i.length := by omega
  go_enter Tryd.func13, Tryd.ntmps13
  go_wp2
  go_ret
  exact ⟨rfl, rfl⟩
theorem page_any (h i : Bytes) (w : World) (hs : i.length ≤ 140737488351232) (ht : h.length ≤ 140737488351232) :
    Calls Tryd.prog 14 #[.string ⟨h.toArray⟩, .string ⟨i.toArray⟩] w fun e w' => e = .returned (.string ⟨(headH ++ h ++ 47 :: i).toArray⟩) ∧ w = w' := by
  go_enter Tryd.func14, Tryd.ntmps14
  go_wp2
  go_ret
  exact ⟨rfl, rfl⟩
end Go.Proofs.YtjbfkalkcopapaaDoor
