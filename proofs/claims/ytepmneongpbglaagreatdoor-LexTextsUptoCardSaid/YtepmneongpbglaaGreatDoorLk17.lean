/- Layer 5: any wide text, each unit as an escape, is told as it is. -/
import Derived.Test.YtepmneongpbglaaGreatDoorLk15
import Derived.Test.YtepmneongpbglaaGreatDoorLk18
namespace Go.Proofs.YtepmneongpbglaaGreatDoor
open Go Go.RowKit
set_option linter.all false
namespace Lx
theorem hexes_app : ∀ (a b : List UInt8), a.length % 2 = 0 → hexes (a ++ b) = hexes a ++ hexes b
  | [], b, _ => rfl
  | [x], b, h => by simp at h
  | x :: y :: r, b, h => by
    have := hexes_app r b (by simp only [List.length_cons] at h; omega)
    simp only [List.cons_append, hexes, this]
theorem hexes_two (v : List UInt8) {n : Nat} (he : n % 2 = 0) (hn : n + 2 ≤ v.length) :
    hexes (v.take (n + 2)) = hexes (v.take n) ++ [92, 117, dg (by8 v n / 16), dg (by8 v n % 16), dg (by8 v (n + 1) / 16), dg (by8 v (n + 1) % 16)] := by
  have e0 : by8 v n = v[n].toNat := by simp [by8, List.getD_eq_getElem?_getD, List.getElem?_eq_getElem (show n < v.length by omega)]
  have e1 : by8 v (n + 1) = v[n + 1].toNat := by simp [by8, List.getD_eq_getElem?_getD, List.getElem?_eq_getElem (show n + 1 < v.length by omega)]
  have e2 : v.take (n + 2) = v.take n ++ [v[n], v[n + 1]] := by
    rw [List.take_add, List.drop_eq_getElem_cons (show n < v.length by omega), List.drop_eq_getElem_cons (show n + 1 < v.length by omega)]
    rfl
  rw [e2, hexes_app _ _ (by rw [List.length_take]; omega), e0, e1]
  rfl
set_option maxRecDepth 100000 in
set_option maxHeartbeats 16000000 in
theorem texts_law (v : List UInt8) (sg : Bool) (w : World) (hW : LW w) (hF : Rf.F64 w) (hs : v.length ≤ 1000000000) : Calls Tryz.prog 4 #[.string ⟨v.toArray⟩, .bool sg] w fun e w' => e = .returned (.bool true) ∧ Pur w w' := by
  have AW := awake_any w hW hF
  by_cases hod : v.length % 2 = 0
  · have t1 : ((v.length : Int) % 2 != 0) = false := by rw [bne_eq_false_iff_eq]; omega
    have t1' : ((v.length : Int).tmod 2 != 0) = false := by rw [Int.tmod_eq_emod_of_nonneg (by omega)]; exact t1
    by_cases hbig : 2000 < v.length
    · have t2 : decide ((2000 : Int) < (v.length : Int)) = true := by rw [decide_eq_true_eq]; omega
      clear hod hbig
      go_enter Tryz.func4, Tryz.ntmps4
      go_wp2_with fail
      refine AW.mono ?_
      rintro e w1 ⟨rfl, p1⟩
      go_wp2
      go_ret
      exact ⟨rfl, p1⟩
    · have t2 : decide ((2000 : Int) < (v.length : Int)) = false := by rw [decide_eq_false_iff_not]; omega
      have hbig' : v.length ≤ 2000 := by omega
      have hlx := fun (m : Nat) (hm : m = 34 ∨ m = 39) => lex_hexes C1F m hm v hod
      have HOD := Lib.hid hod
      have HX := fun (b : Nat) (hb : b < 256) (w : World) => hex_any b w hb
      clear hbig hod
      rcases sg with _ | _
      · have hlex := hlx 34 (by decide)
        have XA := fun w1 (h : Pur w w1) => lex_any (34 :: (hexes v ++ [34])) w1 (hW.pur h) ((nc_1F hF).pur h) (by rw [List.length_cons, List.length_append, hexes_len]; simp; omega) (by rw [show lex C1F (34 :: (hexes v ++ [34])) = _ from hlex]; exact fun h => by cases h)
        simp only [show lex C1F (34 :: (hexes v ++ [34])) = some (.ok [⟨4, v, [], 0, false⟩]) from hlex] at XA
        unfold LexPost at XA
        simp only at XA
        clear hlx hlex
        go_enter Tryz.func4, Tryz.ntmps4
        go_wp2_with fail
        refine AW.mono ?_
        rintro e w1 ⟨rfl, p1⟩
        clear AW
        go_wp2
        go_loopw [6, 7] (fun s x wr => ∃ n : Nat, s = .string ⟨(34 :: hexes (v.take n)).toArray⟩ ∧ x = .int .i64 (n : Int) ∧ n ≤ v.length ∧ Hid (n % 2 = 0) ∧ Pur w wr) (fun _ x _ => v.length + 1 - (intOf x).toNat)
        case atStart => exact ⟨0, rfl, rfl, by omega, Lib.hid rfl, p1⟩
        case round =>
          obtain ⟨n, rfl, rfl, hn, he, hp⟩ := hrel
          by_cases hlt : n < v.length
          · have hlt' : (n : Int) < v.length := by omega
            have hn2 : n + 2 ≤ v.length := by have := he.out; have := HOD.out; omega
            have hn1 : (n : Int) + 1 < v.length := by omega
            have hn0 : (0 : Int) ≤ (n : Int) + 1 := by omega
            have wn1 : IntKind.i64.wrap ((n : Int) + 1) = (n : Int) + 1 := IntWalk.i64_in _ (by omega)
            have wn2 : IntKind.i64.wrap ((n : Int) + 2) = (n : Int) + 2 := IntWalk.i64_in _ (by omega)
            have n1 : ((n : Int) + 1).toNat = n + 1 := by omega
            have H1 := HX (by8 v n) (by8_lt v n)
            have H2 := HX (by8 v (n + 1)) (by8_lt v (n + 1))
            have HT := Lib.hid (hexes_two v he.out hn2)
            have hlen : (hexes (v.take n)).length ≤ 6000 := by rw [hexes_len, List.length_take]; omega
            generalize hexes (v.take n) = acc at *
            clear XA HX
            go_wp2
            refine wp_region_pur (by kernel_rfl) (by kernel_rfl) ?_
            repeat (first | (quiet_step (((go_at_call 13; first | with_reducible exact quiet_pur (H1 _) | with_reducible exact quiet_pur (H2 _))))) | (refine wpQuiet_step (fun K hK => ?_); go_simp; apply Exists.intro; refine ⟨fun _ => ?_, hK _ ?_⟩; (rw [if_neg (by omega)]; exact ⟨rfl, rfl⟩); clear hK K))
            refine wpQuiet_nil ?_
            intro wq hq
            go_wp2
            go_roundw
            case rel => exact ⟨n + 2, by rw [HT.out], by go_num, by omega, Lib.hid (by have := he.out; omega), hp.trans hq⟩
            case measure => simp [intOf]; omega
          · have hlt' : ¬ (n : Int) < v.length := by omega
            obtain rfl : n = v.length := by omega
            have XA1 := XA wr hp
            have htk : v.take v.length = v := List.take_length
            rw [htk]
            have z1 : ¬ 9223372036854775807 < (hexes v).length + 1 + 1 := by rw [hexes_len]; omega
            have z2 : ¬ 9223372036854775807 < (hexes v).length + 2 := by rw [hexes_len]; omega
            clear XA HX htk
            go_wp2_with fail
            refine XA1.mono ?_
            rintro e w3 ⟨p3, u, zs, hz, hN, rfl, hown⟩
            have hz1 : ∃ y, zs = [((⟨4, v, [], 0, false⟩ : Lx), y)] := by
              rcases zs with _ | ⟨a, _ | ⟨b, r⟩⟩
              · simp at hz
              · simp only [List.map_cons, List.map_nil, List.cons.injEq, and_true] at hz
                exact ⟨a.2, by rw [← hz]⟩
              · simp at hz
            obtain ⟨y, rfl⟩ := hz1
            clear hz hN XA1
            obtain ⟨g, cap, rfl, hg0, hg1⟩ := hown.form (by simp)
            have cl : ∀ j u, (rowOf [((⟨4, v, [], 0, false⟩ : Lx), y)])[j]? = some u → w3.cell? ⟨g, j, none⟩ = some u := by
              intro j u hv
              have hj := (List.getElem?_eq_some_iff.1 hv).1
              rw [hown.cellAt j (by simpa [rowOf, Lx.cells] using hj)]
              exact hv
            have a0 := cl 0 _ rfl
            have a1 := cl 1 _ rfl
            have a3 := cl 3 _ rfl
            clear cl hown
            go_wp2
            go_ret
            exact ⟨rfl, hp.trans p3⟩
      · have hlex := hlx 39 (by decide)
        have XA := fun w1 (h : Pur w w1) => lex_any (39 :: (hexes v ++ [39])) w1 (hW.pur h) ((nc_1F hF).pur h) (by rw [List.length_cons, List.length_append, hexes_len]; simp; omega) (by rw [show lex C1F (39 :: (hexes v ++ [39])) = _ from hlex]; exact fun h => by cases h)
        simp only [show lex C1F (39 :: (hexes v ++ [39])) = some (.ok [⟨4, v, [], 0, false⟩]) from hlex] at XA
        unfold LexPost at XA
        simp only at XA
        clear hlx hlex
        go_enter Tryz.func4, Tryz.ntmps4
        go_wp2_with fail
        refine AW.mono ?_
        rintro e w1 ⟨rfl, p1⟩
        clear AW
        go_wp2
        go_loopw [6, 7] (fun s x wr => ∃ n : Nat, s = .string ⟨(39 :: hexes (v.take n)).toArray⟩ ∧ x = .int .i64 (n : Int) ∧ n ≤ v.length ∧ Hid (n % 2 = 0) ∧ Pur w wr) (fun _ x _ => v.length + 1 - (intOf x).toNat)
        case atStart => exact ⟨0, rfl, rfl, by omega, Lib.hid rfl, p1⟩
        case round =>
          obtain ⟨n, rfl, rfl, hn, he, hp⟩ := hrel
          by_cases hlt : n < v.length
          · have hlt' : (n : Int) < v.length := by omega
            have hn2 : n + 2 ≤ v.length := by have := he.out; have := HOD.out; omega
            have hn1 : (n : Int) + 1 < v.length := by omega
            have hn0 : (0 : Int) ≤ (n : Int) + 1 := by omega
            have wn1 : IntKind.i64.wrap ((n : Int) + 1) = (n : Int) + 1 := IntWalk.i64_in _ (by omega)
            have wn2 : IntKind.i64.wrap ((n : Int) + 2) = (n : Int) + 2 := IntWalk.i64_in _ (by omega)
            have n1 : ((n : Int) + 1).toNat = n + 1 := by omega
            have H1 := HX (by8 v n) (by8_lt v n)
            have H2 := HX (by8 v (n + 1)) (by8_lt v (n + 1))
            have HT := Lib.hid (hexes_two v he.out hn2)
            have hlen : (hexes (v.take n)).length ≤ 6000 := by rw [hexes_len, List.length_take]; omega
            generalize hexes (v.take n) = acc at *
            clear XA HX
            go_wp2
            refine wp_region_pur (by kernel_rfl) (by kernel_rfl) ?_
            repeat (first | (quiet_step (((go_at_call 13; first | with_reducible exact quiet_pur (H1 _) | with_reducible exact quiet_pur (H2 _))))) | (refine wpQuiet_step (fun K hK => ?_); go_simp; apply Exists.intro; refine ⟨fun _ => ?_, hK _ ?_⟩; (rw [if_neg (by omega)]; exact ⟨rfl, rfl⟩); clear hK K))
            refine wpQuiet_nil ?_
            intro wq hq
            go_wp2
            go_roundw
            case rel => exact ⟨n + 2, by rw [HT.out], by go_num, by omega, Lib.hid (by have := he.out; omega), hp.trans hq⟩
            case measure => simp [intOf]; omega
          · have hlt' : ¬ (n : Int) < v.length := by omega
            obtain rfl : n = v.length := by omega
            have XA1 := XA wr hp
            have htk : v.take v.length = v := List.take_length
            rw [htk]
            have z1 : ¬ 9223372036854775807 < (hexes v).length + 1 + 1 := by rw [hexes_len]; omega
            have z2 : ¬ 9223372036854775807 < (hexes v).length + 2 := by rw [hexes_len]; omega
            clear XA HX htk
            go_wp2_with fail
            refine XA1.mono ?_
            rintro e w3 ⟨p3, u, zs, hz, hN, rfl, hown⟩
            have hz1 : ∃ y, zs = [((⟨4, v, [], 0, false⟩ : Lx), y)] := by
              rcases zs with _ | ⟨a, _ | ⟨b, r⟩⟩
              · simp at hz
              · simp only [List.map_cons, List.map_nil, List.cons.injEq, and_true] at hz
                exact ⟨a.2, by rw [← hz]⟩
              · simp at hz
            obtain ⟨y, rfl⟩ := hz1
            clear hz hN XA1
            obtain ⟨g, cap, rfl, hg0, hg1⟩ := hown.form (by simp)
            have cl : ∀ j u, (rowOf [((⟨4, v, [], 0, false⟩ : Lx), y)])[j]? = some u → w3.cell? ⟨g, j, none⟩ = some u := by
              intro j u hv
              have hj := (List.getElem?_eq_some_iff.1 hv).1
              rw [hown.cellAt j (by simpa [rowOf, Lx.cells] using hj)]
              exact hv
            have a0 := cl 0 _ rfl
            have a1 := cl 1 _ rfl
            have a3 := cl 3 _ rfl
            clear cl hown
            go_wp2
            go_ret
            exact ⟨rfl, hp.trans p3⟩
  · have t1 : ((v.length : Int) % 2 != 0) = true := by rw [bne_iff_ne]; omega
    have t1' : ((v.length : Int).tmod 2 != 0) = true := by rw [Int.tmod_eq_emod_of_nonneg (by omega)]; exact t1
    clear hod
    go_enter Tryz.func4, Tryz.ntmps4
    go_wp2_with fail
    refine AW.mono ?_
    rintro e w1 ⟨rfl, p1⟩
    go_wp2
    go_ret
    exact ⟨rfl, p1⟩
end Lx
end Go.Proofs.YtepmneongpbglaaGreatDoor
