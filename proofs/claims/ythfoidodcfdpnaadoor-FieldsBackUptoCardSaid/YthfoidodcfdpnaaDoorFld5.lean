/- The layer's Parse. -/
import Derived.Test.YthfoidodcfdpnaaDoorFld4
import Derived.Lib.SplitLaws
namespace Go.Proofs.YthfoidodcfdpnaaDoor
open Go Go.RowKit
theorem split_any (l : Bytes) (w : World) (hM : MX w) (hs : l.length ≤ 1000000) :
    Calls Tryd.prog 17 #[.string ⟨l.toArray⟩, .string ⟨#[38]⟩] w fun e w' => e = .returned (.slice (some ⟨w.heap.size, 0, none⟩) (pieces l).length (pieces l).length) ∧ (Pur w w' ∧ w.heap.size < w'.heap.size ∧ ∀ (j : Nat) p, (pieces l)[j]? = some p → w'.cell? ⟨w.heap.size, j, none⟩ = some (.string ⟨p.toArray⟩)) := by
  obtain ⟨m, hm⟩ := hM
  refine (Tryd.strings_Split ⟨l.toArray⟩ ⟨#[38]⟩ m w (by show l.toArray.size < _; simp; omega) hm (by decide)).mono ?_
  rintro e w' ⟨rfl, rfl⟩
  have hd := Lib.splitB_data ⟨#[38]⟩ 0 (Lib.countB ⟨l.toArray⟩ ⟨#[38]⟩) ⟨l.toArray⟩
  have hp : (Lib.splitB ⟨#[38]⟩ 0 (Lib.countB ⟨l.toArray⟩ ⟨#[38]⟩) ⟨l.toArray⟩).map (·.data.toList) = pieces l := by
    rw [hd, ← split_pieces _ l (Nat.le_refl _)]
    rfl
  have hl : Lib.countB ⟨l.toArray⟩ ⟨#[38]⟩ + 1 = (pieces l).length := by
    rw [← hp, List.length_map]
    exact (Lib.splitB_all _ (by decide) 0 _ _ rfl).symm
  rw [hl]
  refine ⟨rfl, (Pur.refl w).alloc _, by simp, fun j p hj => ?_⟩
  rw [World.cell?_alloc_mark]
  rw [← hp, List.getElem?_map] at hj
  obtain ⟨s, h1, rfl⟩ := Option.map_eq_some_iff.1 hj
  simp [h1]
theorem cut_any (p : Bytes) (w : World) (hM : MX w) (hs : p.length ≤ 1000000) :
    Calls Tryd.prog 18 #[.string ⟨p.toArray⟩, .string ⟨#[61]⟩] w fun e w' => e = .returned (.tuple #[.string ⟨(nameOf p).toArray⟩, .string ⟨(valueOf p).toArray⟩, .bool (Lib.cut p [61]).2.2]) ∧ Pur w w' := by
  obtain ⟨m, hm⟩ := hM
  refine (Tryd.strings_Cut ⟨p.toArray⟩ ⟨#[61]⟩ m w (by show p.toArray.size < _; simp; omega) hm).mono ?_
  rintro e w' ⟨rfl, n, rfl⟩
  refine ⟨?_, (Pur.refl w).drewN n⟩
  obtain ⟨h1, h2⟩ := cut_name p
  rw [← h1, ← h2]
theorem parse_bad {l : Bytes} (h : l.length ≤ 4096) (hf : fieldsOf (pieces l) = none) : parse l = ([], 210) := by
  rw [parse, if_neg (by omega), hf]
theorem parse_full {l : Bytes} {fs : List Fld} (h : l.length ≤ 4096) (hf : fieldsOf (pieces l) = some fs) (h32 : 32 < fs.length) : parse l = ([], 4) := by
  rw [parse, if_neg (by omega), hf]; simp [h32]
theorem parse_ok {l : Bytes} {fs : List Fld} (h : l.length ≤ 4096) (hf : fieldsOf (pieces l) = some fs) (h32 : fs.length ≤ 32) : parse l = (fs, 0) := by
  rw [parse, if_neg (by omega), hf]; simp; exact h32
theorem own_slice {w : World} {B : Nat} {e : TypeId} {z : Nat} {v : Value} {n : Nat} {xs : List Value} (h : w.ownsRow B e z v n xs) : ∃ a c, v = .slice a n c := by
  rcases h.2 with ⟨rfl, h0⟩ | ⟨g, cap, cur, hv, _⟩
  · exact ⟨none, 0, by rw [h0]⟩
  · exact ⟨_, _, hv⟩
set_option maxHeartbeats 2000000 in
theorem parse_any (l : Bytes) (w : World) (hM : MX w) :
    Calls Tryd.prog 10 #[.string ⟨l.toArray⟩] w fun e w' => ∃ v, e = .returned (.tuple #[v, .int .i64 (parse l).2]) ∧ FRead w' v (parse l).1 ∧ Pur w w' := by
  by_cases hlong : l.length > 4096
  · have hd : decide ((4096 : Int) < l.length) = true := decide_eq_true (by omega)
    have HP := Lib.hid (show parse l = ([], 2) by rw [parse, if_pos hlong])
    clear hlong
    go_enter Tryd.func10, Tryd.ntmps10
    go_wp2
    go_ret2
    exact ⟨_, by rw [HP.out]; rfl, by rw [HP.out]; exact FRead.nil _, Pur.refl w⟩
  · have hd : decide ((4096 : Int) < l.length) = false := decide_eq_false (by omega)
    have hll : l.length ≤ 4096 := by omega
    clear hlong
    obtain ⟨i0, hi, hz⟩ := Option.map_eq_some_iff.1 fld_info
    simp only [Prod.mk.injEq] at hz
    obtain ⟨hz0, hz1, hz2⟩ := hz
    obtain ⟨z0, hz0, hzs⟩ := Option.map_eq_some_iff.1 hz0
    go_enter Tryd.func10, Tryd.ntmps10
    go_wp2_with (go_at_call 17; refine (split_any l _ hM (by omega)).mono ?_)
    rintro e w1 ⟨rfl, hp1, hB, hC⟩
    have hM1 := hM.pur hp1
    go_wp2
    go_loopw [4, 20] (fun o k wr => ∃ (n : Nat) (acc : List Fld), n ≤ (pieces l).length ∧ k = .int .i64 n ∧ acc.length ≤ n ∧ wr.ownsRow w1.heap.size 34 2 o acc.length (fcells acc) ∧ Pur w1 wr ∧ Hid (fieldsOf (pieces l) = (fieldsOf ((pieces l).drop n)).map (acc ++ ·))) (fun _ k _ => (pieces l).length + 1 - (intOf k).toNat)
    case atStart => exact ⟨0, [], by omega, rfl, by simp, World.ownsRow_nil _ _ _ _, Pur.refl w1, Lib.hid (by simp)⟩
    case round =>
      obtain ⟨n, acc, hn, rfl, hacc, hown, hpr, H⟩ := hrel
      by_cases hlt : n < (pieces l).length
      · have hlt' : (n : Int) < ((pieces l).length : Int) := by omega
        obtain ⟨p, hpn⟩ : ∃ p, (pieces l)[n]? = some p := ⟨_, List.getElem?_eq_getElem hlt⟩
        have hcell := (hpr.cell (p := ⟨w.heap.size, n, none⟩) hB).trans (hC n p hpn)
        have hple := pieces_le l p (List.mem_of_getElem? hpn)
        have hdrop : (pieces l).drop n = p :: (pieces l).drop (n + 1) := by
          rw [List.drop_eq_getElem_cons hlt]
          rw [List.getElem?_eq_getElem hlt] at hpn
          rw [Option.some.inj hpn]
        have hlen := pieces_len l
        clear hpn
        by_cases hp0 : p = []
        · subst hp0
          have HS := Lib.hid (show fieldsOf (pieces l) = (fieldsOf ((pieces l).drop (n + 1))).map (acc ++ ·) by rw [H.out, hdrop, fields_skip])
          clear hdrop
          go_wp2
          go_roundw
          case rel => exact ⟨n + 1, acc, by omega, by go_num, by omega, hown, hpr, HS⟩
          case measure => simp [intOf]; omega
        · have hMr := (hM1.pur hpr)
          have hpb : (p == []) = false := by simpa using hp0
          have hnl := nameOf_le p
          have hvl := valueOf_le p
          have S1 := fun w => plain_any (nameOf p) w (by omega)
          have S2 := fun w => plain_any (valueOf p) w (by omega)
          rcases hN : said (nameOf p) with _ | nm <;> rcases hV : said (valueOf p) with _ | vl
          case' none.none => have HS := Lib.hid (show fieldsOf (pieces l) = none by rw [H.out, hdrop, fields_bad hp0 (.inl hN)]; rfl)
          case' none.some => have HS := Lib.hid (show fieldsOf (pieces l) = none by rw [H.out, hdrop, fields_bad hp0 (.inl hN)]; rfl)
          case' some.none => have HS := Lib.hid (show fieldsOf (pieces l) = none by rw [H.out, hdrop, fields_bad hp0 (.inr hV)]; rfl)
          case' some.some => have HS := Lib.hid (show fieldsOf (pieces l) = (fieldsOf ((pieces l).drop (n + 1))).map ((acc ++ [(nm, vl)]) ++ ·) from fstep H.out (by rw [hdrop, fields_good hp0 hN hV]))
          case some.some =>
            simp only [hN] at S1
            simp only [hV] at S2
            clear hdrop hp0 hN hV hnl hvl
            go_wp2_with (go_at_call 18; refine (cut_any p _ hMr (by omega)).mono ?_)
            rintro e w2 ⟨rfl, hp2⟩
            go_wp2_with fail
            refine (S1 _).mono ?_
            rintro e w3 ⟨rfl, hp3⟩
            go_wp2_with fail
            refine (S2 _).mono ?_
            rintro e w4 ⟨rfl, hp4⟩
            have hq := (hp2.trans hp3).trans hp4
            go_wp2_with (at_builtin; refine wpList_append_own _ rfl _ _ 23 rfl w1.heap.size 34 i0 z0 2 32 Tryd.underlying23 hi hz0 hz1 hz2 hzs (by decide) _ _ _ rfl ((ownsRow_pur hown hq).alloc _) ⟨_, 0, none⟩ 1 1 [.string ⟨nm.toArray⟩, .string ⟨vl.toArray⟩] rfl rfl ?c1 ?c2 ?c3 ?c4 ?c5 ?_)
            case c1 =>
              intro j u hj
              rw [add_zero', World.cell?_alloc_mark]
              match j, hj with
              | 0, hj => simpa using hj
              | 1, hj => simpa using hj
            case c2 => intro u hu; simp at hu; rcases hu with rfl | rfl <;> rfl
            case c3 => unfold maxLen; omega
            case c4 => omega
            case c5 => have := (hpr.trans hq).size; simp; omega
            intro v5 w5 hown5 hgrow _
            go_wp2
            go_roundw
            case rel =>
              refine ⟨n + 1, acc ++ [(nm, vl)], by omega, by go_num, by simp; omega, ?_, (((hpr.trans hq).alloc _).grown hgrow (by have := (hpr.trans hq).size; simp; omega) (fun k hk => (hown.lt k hk).1)), HS⟩
              rw [List.length_append, ← fcells_snoc]
              exact hown5
            case measure => simp [intOf]; omega
          all_goals
            simp only [hN] at S1
            simp only [hV] at S2
            clear hdrop hp0 hN hV hnl hvl
            go_wp2_with (go_at_call 18; refine (cut_any p _ hMr (by omega)).mono ?_)
            rintro e w2 ⟨rfl, hp2⟩
            go_wp2_with fail
            refine (S1 _).mono ?_
            rintro e w3 ⟨rfl, hp3⟩
            go_wp2_with fail
            refine (S2 _).mono ?_
            rintro e w4 ⟨rfl, hp4⟩
            go_wp2
            go_ret2
            have HP := Lib.hid (parse_bad hll HS.out)
            exact ⟨_, by rw [HP.out]; rfl, by rw [HP.out]; exact FRead.nil _, ((hp1.trans hpr).trans hp2).trans (hp3.trans hp4)⟩
      · obtain rfl : n = (pieces l).length := by omega
        have HS : fieldsOf (pieces l) = some acc := by
          rw [H.out, List.drop_length, fieldsOf]
          simp
        have hread := FRead.of_own hown
        obtain ⟨ao, cp, rfl⟩ := own_slice hown
        by_cases h32 : 32 < acc.length
        · have HP := Lib.hid (parse_full hll HS h32)
          have d1 : decide ((32 : Int) < acc.length) = true := decide_eq_true (by omega)
          clear HS h32
          go_wp2
          go_ret2
          exact ⟨_, by rw [HP.out]; rfl, by rw [HP.out]; exact FRead.nil _, hp1.trans hpr⟩
        · have HP := Lib.hid (parse_ok hll HS (by omega))
          have d1 : decide ((32 : Int) < acc.length) = false := decide_eq_false (by omega)
          clear HS h32
          go_wp2
          go_ret2
          exact ⟨_, by rw [HP.out]; rfl, by rw [HP.out]; exact hread, hp1.trans hpr⟩
end Go.Proofs.YthfoidodcfdpnaaDoor
