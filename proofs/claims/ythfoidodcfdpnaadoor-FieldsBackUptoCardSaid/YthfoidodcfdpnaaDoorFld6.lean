/- The document's Parse. -/
import Derived.Test.YthfoidodcfdpnaaDoorFld5
namespace Go.Proofs.YthfoidodcfdpnaaDoor
open Go Go.RowKit
theorem name_scan (p : Bytes) (k : Nat) (hk : k ≤ p.length) (hno : ∀ j, j < k → by8 p j ≠ 61) (hend : k < p.length → by8 p k = 61) :
    nameOf p = sub p 0 k ∧ valueOf p = sub p (min (k + 1) p.length) p.length := by
  have e0 : sub p 0 k = p.take k := by simp [sub]
  have hs : (61 : UInt8) ∉ p.take k := by
    intro hm
    obtain ⟨j, hj, e⟩ := List.getElem_of_mem hm
    have hj' : j < k := by rw [List.length_take] at hj; omega
    have e' : (p.take k)[j]? = some 61 := by rw [List.getElem?_eq_getElem hj, e]
    rw [List.getElem?_take, if_pos hj'] at e'
    refine hno j hj' ?_
    unfold by8
    rw [List.getD_eq_getElem?_getD, e']
    rfl
  have hall : ∀ x ∈ p.take k, (x != 61) = true := fun x hx => by
    simp only [bne_iff_ne, ne_eq]; rintro rfl; exact hs hx
  by_cases hlt : k < p.length
  · have e2 : p.getD k 0 = 61 := (at_lit p k 61 61 rfl).2 (hend hlt)
    have e3 : p = p.take k ++ 61 :: p.drop (k + 1) := by rw [← e2, ← drop_at p k hlt, List.take_append_drop]
    have t1 : p.takeWhile (· != 61) = p.take k := by
      conv => lhs; rw [e3]
      rw [List.takeWhile_append_of_pos hall]; simp
    have t2 : p.dropWhile (· != 61) = 61 :: p.drop (k + 1) := by
      conv => lhs; rw [e3]
      rw [List.dropWhile_append_of_pos hall]; simp
    rw [nameOf, valueOf, t1, t2, e0]
    refine ⟨rfl, ?_⟩
    rw [show min (k + 1) p.length = k + 1 by omega]
    simp [sub]
    rw [List.take_of_length_le]
    rw [List.length_drop]; omega
  · have e1 : p.take k = p := List.take_of_length_le (by omega)
    rw [e1] at hs
    obtain ⟨t1, t2⟩ := takeW_all p hs
    rw [nameOf, valueOf, t1, t2, e0, e1]
    refine ⟨rfl, ?_⟩
    rw [show min (k + 1) p.length = p.length by omega]
    simp [sub]
set_option maxRecDepth 100000 in
set_option maxHeartbeats 4000000 in
theorem rparse_any (l : Bytes) (w : World) :
    Calls Tryd.prog 11 #[.string ⟨l.toArray⟩] w fun e w' => ∃ v, e = .returned (.tuple #[v, .int .i64 (parse l).2]) ∧ FRead w' v (parse l).1 ∧ Pur w w' := by
  by_cases hlong : l.length > 4096
  · have hd : decide ((4096 : Int) < l.length) = true := decide_eq_true (by omega)
    have HP := Lib.hid (show parse l = ([], 2) by rw [parse, if_pos hlong])
    clear hlong
    go_enter Tryd.func11, Tryd.ntmps11
    go_wp2
    go_ret2
    exact ⟨_, by rw [HP.out]; rfl, by rw [HP.out]; exact FRead.nil _, Pur.refl w⟩
  · have hd : decide ((4096 : Int) < l.length) = false := decide_eq_false (by omega)
    have hll : l.length ≤ 4096 := by omega
    clear hlong
    obtain ⟨i0, hi, hz⟩ := Option.map_eq_some_iff.1 fld_info
    simp only [Prod.mk.injEq] at hz
    obtain ⟨hz0, hz1, hz2⟩ := hz
    obtain ⟨z0, hz0, hzs⟩ := Option.map_eq_some_iff.1 hz0
    go_enter Tryd.func11, Tryd.ntmps11
    go_wp2
    have HLL := Lib.hid hll
    clear hd hll
    go_loopw [4, 5, 6] (fun o f k wr => ∃ (a i : Nat) (acc : List Fld), a ≤ i ∧ i ≤ l.length + 1 ∧ (i ≤ l.length ∨ a = i) ∧ f = .int .i64 a ∧ k = .int .i64 i ∧ acc.length ≤ i ∧ wr.ownsRow w.heap.size 34 2 o acc.length (fcells acc) ∧ Pur w wr ∧ Hid (∀ j, a ≤ j → j < i → by8 l j ≠ 38) ∧ Hid (fieldsOf (pieces l) = (fieldsOf (pieces (l.drop a))).map (acc ++ ·))) (fun _ _ k _ => l.length + 2 - (intOf k).toNat)
    case atStart => exact ⟨0, 0, [], by omega, by omega, .inl (by omega), rfl, rfl, by simp, World.ownsRow_nil _ _ _ _, Pur.refl w, Lib.hid (fun j h1 h2 => by omega), Lib.hid (by simp)⟩
    case round =>
      obtain ⟨a, i, acc, hai, hi1, hor, rfl, rfl, hacc, hown, hpr, hno, H⟩ := hrel
      have w1 : IntKind.i64.wrap ((i : Int) + 1) = (i : Int) + 1 := IntWalk.i64_in _ (by have := HLL.out; omega)
      by_cases hle : i ≤ l.length
      · have dle : decide ((i : Int) ≤ l.length) = true := decide_eq_true (by omega)
        clear hor
        by_cases hc : i < l.length ∧ by8 l i ≠ 38
        · have d1 : decide ((i : Int) < l.length) = true := decide_eq_true (by omega)
          have hlt' : (i : Int) < l.length := by omega
          have d2 : ((by8 l i : Int) == 38) = false := by have := hc.2; simp; omega
          have d3 : ((by8 l i : Int) != 38) = true := by have := hc.2; simp; omega
          have HN : Hid (∀ j, a ≤ j → j < i + 1 → by8 l j ≠ 38) := Lib.hid (fun j h1 h2 => by
            by_cases e : j = i
            · rw [e]; exact hc.2
            · exact hno.out j h1 (by omega))
          clear hc hno hi1 hle
          have hi1 : i + 1 ≤ l.length + 1 := by omega
          go_wp2
          go_roundw
          case rel => exact ⟨a, i + 1, acc, by omega, by omega, .inl (by omega), rfl, by go_num, by omega, hown, hpr, HN, H⟩
          case measure => simp [intOf]; omega
        · have hs := fields_scan l a i hai hle (fun h => by by_cases e : by8 l i = 38; · exact e
                                                            · exact absurd ⟨h, e⟩ hc) hno.out
          have hgd : (¬ i < l.length) ∨ (i < l.length ∧ (i : Int) < l.length ∧ ((by8 l i : Int) != 38) = false) := by
            by_cases h : i < l.length
            · have e : by8 l i = 38 := by
                by_cases e : by8 l i = 38
                · exact e
                · exact absurd ⟨h, e⟩ hc
              exact .inr ⟨h, by omega, by rw [e]; rfl⟩
            · exact .inl h
          have hplen := length_sub l a i
          have hpl2 : (sub l a i).length ≤ 4096 := by have := HLL.out; omega
          have b1 : (a : Int) ≤ i := by omega
          have b2 : (i : Int) ≤ l.length := by omega
          by_cases hp0 : sub l a i = []
          · have HS := Lib.hid (show fieldsOf (pieces l) = (fieldsOf (pieces (l.drop (i + 1)))).map (acc ++ ·) by rw [H.out, hs, hp0, fields_skip])
            have hpb : (sub l a i == []) = true := by simpa using hp0
            clear hs hc hno
            rcases hgd with g1 | ⟨g1, g2, g3⟩
            all_goals
              go_wp2
              go_roundw
              case rel => exact ⟨i + 1, i + 1, acc, by omega, by omega, .inr rfl, by go_num, by go_num, by omega, hown, hpr, Lib.hid (fun j h1 h2 => by omega), HS⟩
              case measure => simp [intOf]; omega
          · have hpb : (sub l a i == []) = false := by simpa using hp0
            have hsc : fieldsOf (pieces l) = (fieldsOf (sub l a i :: pieces (l.drop (i + 1)))).map (acc ++ ·) := by rw [H.out, hs]
            have HSL := Lib.hid (show ∃ q, q = sub l a i from ⟨_, rfl⟩)
            clear hs hc hno H
            rcases hgd with g1 | ⟨g1, g2, g3⟩
            all_goals
              go_wp2
              generalize sub l a i = p at *
              have HSC := Lib.hid hsc
              have HP0 := Lib.hid hp0
              clear hsc hp0 hpb HSL hplen
              go_loop [8] (fun k => ∃ j : Nat, j ≤ p.length ∧ k = .int .i64 j ∧ Hid (∀ m, m < j → by8 p m ≠ 61)) (fun k => p.length + 1 - (intOf k).toNat)
              case atStart => exact ⟨0, by omega, rfl, Lib.hid (fun m h => by omega)⟩
              case round =>
                obtain ⟨j, hj, rfl, hnj⟩ := hrel
                have w2 : IntKind.i64.wrap ((j : Int) + 1) = (j : Int) + 1 := IntWalk.i64_in _ (by omega)
                by_cases hcj : j < p.length ∧ by8 p j ≠ 61
                · have k1 : j < p.length := hcj.1
                  have k2 : (j : Int) < p.length := by omega
                  have k3 : ((by8 p j : Int) != 61) = true := by have := hcj.2; simp; omega
                  have k4 : ((by8 p j : Int) == 61) = false := by have := hcj.2; simp; omega
                  have HN : Hid (∀ m, m < j + 1 → by8 p m ≠ 61) := Lib.hid (fun m h => by
                    by_cases e : m = j
                    · rw [e]; exact hcj.2
                    · exact hnj.out m (by omega))
                  clear hcj
                  go_wp2
                  go_round
                  case rel => exact ⟨j + 1, by omega, by go_num, HN⟩
                  case measure => simp [intOf]; omega
                · have hend : j < p.length → by8 p j = 61 := fun h => by
                    by_cases e : by8 p j = 61
                    · exact e
                    · exact absurd ⟨h, e⟩ hcj
                  obtain ⟨eN, eV⟩ := name_scan p j hj hnj.out hend
                  have hgj : (¬ j < p.length) ∨ (j < p.length ∧ (j : Int) < p.length ∧ ((by8 p j : Int) != 61) = false) := by
                    by_cases h : j < p.length
                    · exact .inr ⟨h, by omega, by rw [hend h]; rfl⟩
                    · exact .inl h
                  have n1 : (min ((j : Int) + 1) p.length).toNat = min (j + 1) p.length := by omega
                  have m1 : (0 : Int) ≤ min ((j : Int) + 1) p.length := by omega
                  have m2 : min ((j : Int) + 1) p.length ≤ (p.length : Int) := by omega
                  have jl : (j : Int) ≤ p.length := by omega
                  have hnl := nameOf_le p
                  have hvl := valueOf_le p
                  have S1 := fun w => rsaid_any (nameOf p) w (by omega)
                  have S2 := fun w => rsaid_any (valueOf p) w (by omega)
                  rcases hN : said (nameOf p) with _ | nm <;> rcases hV : said (valueOf p) with _ | vl
                  case' none.none => have HS := Lib.hid (show fieldsOf (pieces l) = none by rw [HSC.out, fields_bad HP0.out (.inl hN)]; rfl)
                  case' none.some => have HS := Lib.hid (show fieldsOf (pieces l) = none by rw [HSC.out, fields_bad HP0.out (.inl hN)]; rfl)
                  case' some.none => have HS := Lib.hid (show fieldsOf (pieces l) = none by rw [HSC.out, fields_bad HP0.out (.inr hV)]; rfl)
                  case' some.some => have HS := Lib.hid (show fieldsOf (pieces l) = (fieldsOf (pieces (l.drop (i + 1)))).map ((acc ++ [(nm, vl)]) ++ ·) from fstep HSC.out (by rw [fields_good HP0.out hN hV]))
                  case some.some =>
                    simp only [hN] at S1
                    simp only [hV] at S2
                    simp only [eN] at S1
                    simp only [eV] at S2
                    clear hN hV hnl hvl hend hcj eN eV
                    rcases hgj with q1 | ⟨q1, q2, q3⟩
                    all_goals
                      go_wp2_with fail
                      refine (S1 _).mono ?_
                      rintro e w3 ⟨rfl, hp3⟩
                      go_wp2_with fail
                      refine (S2 _).mono ?_
                      rintro e w4 ⟨rfl, hp4⟩
                      have hq := hp3.trans hp4
                      go_wp2_with (at_builtin; refine wpList_append_own _ rfl _ _ 23 rfl w.heap.size 34 i0 z0 2 32 Tryd.underlying23 hi hz0 hz1 hz2 hzs (by decide) _ _ _ rfl ((ownsRow_pur hown hq).alloc _) ⟨_, 0, none⟩ 1 1 [.string ⟨nm.toArray⟩, .string ⟨vl.toArray⟩] rfl rfl ?c1 ?c2 ?c3 ?c4 ?c5 ?_)
                      case c1 =>
                        intro j u hj
                        rw [add_zero', World.cell?_alloc_mark]
                        match j, hj with
                        | 0, hj => simpa using hj
                        | 1, hj => simpa using hj
                      case c2 => intro u hu; simp at hu; rcases hu with rfl | rfl <;> rfl
                      case c3 => have := HLL.out; unfold maxLen; omega
                      case c4 => have := HLL.out; omega
                      case c5 => have := (hpr.trans hq).size; simp; omega
                      intro v5 w5 hown5 hgrow _
                      go_wp2
                      go_roundw
                      case rel =>
                        refine ⟨i + 1, i + 1, acc ++ [(nm, vl)], by omega, by omega, .inr rfl, by go_num, by go_num, by simp; omega, ?_, (((hpr.trans hq).alloc _).grown hgrow (by have := (hpr.trans hq).size; simp; omega) (fun k hk => (hown.lt k hk).1)), Lib.hid (fun j h1 h2 => by omega), HS⟩
                        rw [List.length_append, ← fcells_snoc]
                        exact hown5
                      case measure => simp [intOf]; omega
                  all_goals
                    simp only [hN] at S1
                    simp only [hV] at S2
                    simp only [eN] at S1
                    simp only [eV] at S2
                    clear hN hV hnl hvl hend hcj eN eV
                    have HP := Lib.hid (parse_bad HLL.out HS.out)
                    rcases hgj with q1 | ⟨q1, q2, q3⟩
                    all_goals
                      go_wp2_with fail
                      refine (S1 _).mono ?_
                      rintro e w3 ⟨rfl, hp3⟩
                      go_wp2_with fail
                      refine (S2 _).mono ?_
                      rintro e w4 ⟨rfl, hp4⟩
                      go_wp2
                      go_ret2
                      exact ⟨_, by rw [HP.out]; rfl, by rw [HP.out]; exact FRead.nil _, (hpr.trans hp3).trans hp4⟩
      · obtain rfl : a = i := by omega
        have hil : l.length + 1 = a := by omega
        have HS : fieldsOf (pieces l) = some acc := by
          rw [H.out, List.drop_eq_nil_of_le (by omega)]
          simp [fieldsOf, pieces]
        have hread := FRead.of_own hown
        have dle : decide ((a : Int) ≤ l.length) = false := decide_eq_false (by omega)
        obtain ⟨ao, cp, rfl⟩ := own_slice hown
        by_cases h32 : 32 < acc.length
        · have HP := Lib.hid (parse_full HLL.out HS h32)
          have d1 : decide ((32 : Int) < acc.length) = true := decide_eq_true (by omega)
          clear HS h32
          go_wp2
          go_ret2
          exact ⟨_, by rw [HP.out]; rfl, by rw [HP.out]; exact FRead.nil _, hpr⟩
        · have HP := Lib.hid (parse_ok HLL.out HS (by omega))
          have d1 : decide ((32 : Int) < acc.length) = false := decide_eq_false (by omega)
          clear HS h32
          go_wp2
          go_ret2
          exact ⟨_, by rw [HP.out]; rfl, by rw [HP.out]; exact hread, hpr⟩
end Go.Proofs.YthfoidodcfdpnaaDoor
