/- Layer 2, the document's answer: reading a document. -/
import Derived.Test.YtaknfofppknloaaGreatDoorTrR
namespace Go.Proofs.YtaknfofppknloaaGreatDoor
open Go Go.RowKit
set_option linter.all false
namespace Tk
def ErrAt (w : World) (p n : Nat) (wh : Nat × Nat) : Prop := ∃ (a b c : Value) (i : Nat), w.heap[p]? = some (.cells #[a, b, c, .int .i64 (i : Int), .int .i64 (n : Int), .int .i64 (wh.1 : Int), .int .i64 (wh.2 : Int)] 53 (0, 0))
/-- how the reading ends -/
def RRead (w : World) (l : List UInt8) (e : Ending) (w' : World) : Prop := ∃ p, e = .returned (.pointer (some ⟨p, 0, none⟩)) ∧ Pur w w' ∧ w.heap.size ≤ p ∧
  (if 65536 < l.length then ErrAt w' p 2 (1, 1) else if (read l).2 = 0 then ∃ r : Ro, r.p = p ∧ Sc w' r (read l).1 0 0 (0, 0) else ErrAt w' p (read l).2 (place (read l).1 (read l).1.length))
theorem pos_info : (Tryz.prog.info? 29).map (fun i => (i.zero.map (·.cells.size), i.size, i.bytes)) = some (some 2, 2, 16) := by kernel_rfl
/-- where each character stands -/
def spotsOf (acc : Cs) : List (Nat × Nat) := (List.range acc.length).map (place acc)
theorem spotsOf_len (acc : Cs) : (spotsOf acc).length = acc.length := by simp [spotsOf]
theorem spotV_append (a b : List (Nat × Nat)) : spotV (a ++ b) = spotV a ++ spotV b := by simp [spotV]
theorem spots_end (acc : Cs) : spotV (spotsOf acc ++ [place acc acc.length]) = spotCells (acc.length + 1) acc := by
  have e : spotsOf acc ++ [place acc acc.length] = (List.range (acc.length + 1)).map (place acc) := by
    rw [List.range_succ, List.map_append]; rfl
  rw [e]
  unfold spotV spotCells
  rw [List.flatMap_map]
theorem str_info1 : (Tryz.prog.info? 9).map (fun i => (i.zero.map (·.cells.size), i.size, i.bytes)) = some (some 1, 1, 16) := by kernel_rfl
theorem placeGo_app2 : ∀ (a b : Cs) (p : Nat × Nat), placeGo (a ++ b) p = placeGo b (placeGo a p)
  | [], b, p => rfl
  | c :: a, b, p => by simp only [List.cons_append, placeGo]; exact placeGo_app2 a b _
theorem place_snoc (acc : Cs) (c : Nat) : place (acc ++ [c]) (acc.length + 1) = if c = 10 then ((place acc acc.length).1 + 1, 1) else ((place acc acc.length).1, (place acc acc.length).2 + 1) := by
  unfold place
  rw [List.take_of_length_le (by simp), List.take_of_length_le (Nat.le_refl _), placeGo_app2]
  rfl
theorem spotsOf_snoc (acc : Cs) (c : Nat) : spotsOf (acc ++ [c]) = spotsOf acc ++ [place acc acc.length] := by
  unfold spotsOf
  rw [List.length_append, List.length_singleton, List.range_succ, List.map_append]
  congr 1
  · exact List.map_congr_left fun k hk => by
      have := List.mem_range.1 hk
      unfold place; rw [List.take_append_of_le_length (by omega)]
  · simp [place]
theorem placeGo_bd : ∀ (a : Cs) (p : Nat × Nat), (placeGo a p).1 ≤ p.1 + a.length ∧ (placeGo a p).2 ≤ p.2 + a.length + 1
  | [], p => by simp [placeGo]
  | c :: a, p => by
    have := placeGo_bd a (if c = 10 then (p.1 + 1, 1) else (p.1, p.2 + 1))
    simp only [placeGo, List.length_cons]
    split at this <;> simp only at this <;> split <;> first | omega | (rename_i h1 h2; exact absurd h2 h1) | (rename_i h1 h2; exact absurd h1 h2)
theorem place_bd (cs : Cs) (k : Nat) : (place cs k).1 ≤ 1 + k ∧ (place cs k).2 ≤ 2 + k := by
  have := placeGo_bd (cs.take k) (1, 1)
  have h : (cs.take k).length ≤ k := by rw [List.length_take]; omega
  unfold place
  simp only at this
  omega
theorem Rd.sc {w0 w : World} {r : Ro} {q : Nat} {acc : Cs} {pl : Nat × Nat} (h : Rd w0 w r q acc acc (spotsOf acc ++ [place acc acc.length]) pl) (hl : acc.length ≤ 65536) (hok : ∀ c ∈ acc, allowed c = true) : Sc w r acc 0 0 (0, 0) := by
  refine ⟨h.own, row_mono h.text (Nat.zero_le _), row_mono h.chars (Nat.zero_le _), ?_, ?_, hl, hok⟩
  · have := row_mono h.spots (Nat.zero_le _)
    rw [spots_end, List.length_append, spotsOf_len] at this
    exact this
  · unfold Ro.row
    simp only [List.mem_append, mem_own, not_or]
    exact ⟨h.pt, h.pc, h.pa⟩
set_option maxRecDepth 100000 in
set_option maxHeartbeats 16000000 in
theorem rread_any (l : List UInt8) (w : World) : Calls Tryz.prog 11 #[.string ⟨l.toArray⟩] w fun e w' => RRead w l e w' := by
  obtain ⟨i0, hi0, hz⟩ := Option.map_eq_some_iff.1 pos_info
  simp only [Prod.mk.injEq] at hz
  obtain ⟨hz0, hz1, hz2⟩ := hz
  obtain ⟨z0, hz0, hzs⟩ := Option.map_eq_some_iff.1 hz0
  obtain ⟨W2, hW2⟩ : ∃ W2, W2 = (w.alloc (.cells #[.slice none 0 0, .slice none 0 0, .slice none 0 0, .int .i64 0, .int .i64 0, .int .i64 0, .int .i64 0] 53)).alloc (.cells #[.int .i64 1, .int .i64 1] 29) := ⟨_, rfl⟩
  have hs1 : (w.alloc (.cells #[.slice none 0 0, .slice none 0 0, .slice none 0 0, .int .i64 0, .int .i64 0, .int .i64 0, .int .i64 0] 53)).heap.size = w.heap.size + 1 := Array.size_push _
  have R0 : Rd w W2 ⟨w.heap.size, .slice none 0 0, .slice none 0 0, .slice none 0 0⟩ (w.heap.size + 1) [] [] [] (1, 1) := by
    rw [hW2]
    exact ⟨bk_alloc (bk_new _ _) _, by rw [← hs1]; exact bk_new _ _, World.ownsRow_nil _ _ _ _, World.ownsRow_nil _ _ _ _, World.ownsRow_nil _ _ _ _, ((Pur.refl w).alloc _).alloc _, by simp only; omega, by omega, by simp only; omega, by simp [Value.ownBlock], by simp [Value.ownBlock], by simp [Value.ownBlock], by simp [Value.ownBlock], by simp [Value.ownBlock], by simp [Value.ownBlock], by simp [Value.ownBlock], by simp [Value.ownBlock], by simp [Value.ownBlock]⟩
  rcases Nat.lt_or_ge 65536 l.length with hlong | hlong
  · have d1 : decide ((65536 : Int) < (l.length : Int)) = true := by simp; omega
    have HR := Lib.hid (show ∀ e w', RRead w l e w' = ∃ p, e = .returned (.pointer (some ⟨p, 0, none⟩)) ∧ Pur w w' ∧ w.heap.size ≤ p ∧ ErrAt w' p 2 (1, 1) from fun e w' => by unfold RRead; simp only [if_pos hlong])
    clear hlong R0
    go_enter Tryz.func11, Tryz.ntmps11
    go_wp2
    go_ret
    rw [HR.out]
    refine ⟨w.heap.size, rfl, ((Pur.refl w).alloc _).alloc _, Nat.le_refl _, _, _, _, 0, bk_alloc (bk_new _ _) _⟩
  · have d1 : decide ((65536 : Int) < (l.length : Int)) = false := by simp; omega
    have HR := Lib.hid (show ∀ e w', RRead w l e w' = ∃ p, e = .returned (.pointer (some ⟨p, 0, none⟩)) ∧ Pur w w' ∧ w.heap.size ≤ p ∧ (if (read l).2 = 0 then ∃ r : Ro, r.p = p ∧ Sc w' r (read l).1 0 0 (0, 0) else ErrAt w' p (read l).2 (place (read l).1 (read l).1.length)) from fun e w' => by unfold RRead; simp only [if_neg (Nat.not_lt.2 hlong)])
    go_enter Tryz.func11, Tryz.ntmps11
    go_wp2
    rw [← hW2]
    clear hW2 hs1
    go_loopw [5] (fun v wr => ∃ (i f : Nat) (acc : Cs) (tv cv av : Value), v = .int .i64 i ∧ i ≤ l.length ∧ l.length < i + f ∧ acc.length ≤ i ∧ (∀ c ∈ acc, allowed c = true) ∧ Rd w wr ⟨w.heap.size, tv, cv, av⟩ (w.heap.size + 1) acc acc (spotsOf acc) (place acc acc.length) ∧ Hid (read l = (acc ++ (readGo l f i).1, (readGo l f i).2))) (fun v _ => l.length + 1 - (intOf v).toNat)
    case atStart => exact ⟨0, l.length + 1, [], _, _, _, rfl, by omega, by omega, by simp, by simp, R0, Lib.hid rfl⟩
    case round =>
      obtain ⟨i, f, acc, tv, cv, av, rfl, i1, i2, hal, hok, h3, H⟩ := hrel
      obtain ⟨f, rfl⟩ : ∃ g, f = g + 1 := ⟨f - 1, by omega⟩
      clear R0
      by_cases hlt : i < l.length
      · have hlt' : (i : Int) < (l.length : Int) := by omega
        have CH := fun w => rchar_in l i w (by omega) hlt
        have hcb := chr_bd l i
        have hce := chr_end l i
        have htx := chr_text (l := l) (i := i) hlt
        rcases hro : rdOne l i with n | ⟨c, n⟩
        · -- refused
          obtain ⟨hg, hn⟩ := readGo_bad (f := f) hlt hro
          have HS := Lib.hid (show read l = (acc, n) by rw [H.out, hg]; simp)
          have y0 := bk_cell h3.pos 0 _ rfl
          have y1 := bk_cell h3.pos 1 _ rfl
          have z4 := bk_cell h3.own 4 _ rfl
          have z5 := bk_cell h3.own 5 _ rfl
          have z6 := bk_cell h3.own 6 _ rfl
          have f4 := bk_free h3.own 4
          have f5 := bk_free h3.own 5
          have f6 := bk_free h3.own 6
          have K1 := bk_set h3.own 4 (.int .i64 (n : Int))
          have K2 := bk_set K1 5 (.int .i64 ((place acc acc.length).1 : Int))
          have K3 := bk_set K2 6 (.int .i64 ((place acc acc.length).2 : Int))
          have P3 := ((h3.pur.setCell (p := ⟨w.heap.size, 4, none⟩) (Nat.le_refl _) (.int .i64 (n : Int))).setCell (p := ⟨w.heap.size, 5, none⟩) (Nat.le_refl _) (.int .i64 ((place acc acc.length).1 : Int))).setCell (p := ⟨w.heap.size, 6, none⟩) (Nat.le_refl _) (.int .i64 ((place acc acc.length).2 : Int))
          have dn : ((n : Int) != 0) = true := by rw [bne_iff_ne]; omega
          clear H hg
          unfold rdOne at hro
          by_cases hm0 : (chr l i).2 = 0
          · rw [if_pos hm0] at hro
            cases hro
            rw [hm0] at CH
            generalize (chr l i).1 = c0 at *
            clear hce htx hm0
            go_wp2_with fail
            refine (CH _).mono ?_
            rintro e1 w4 ⟨rfl, rfl⟩
            go_wp2
            go_ret
            rw [HR.out, HS.out]
            exact ⟨w.heap.size, rfl, P3, Nat.le_refl _, by rw [if_neg hn]; exact ⟨_, _, _, 0, K3⟩⟩
          · rw [if_neg hm0] at hro
            by_cases h13 : (chr l i).1 = 13
            · rw [if_pos h13] at hro; cases hro
            rw [if_neg h13] at hro
            rcases hall : allowed (chr l i).1 with _ | _
            · rw [hall, if_neg (by simp)] at hro
              cases hro
              have AL := fun w => rallowed_any (((chr l i).1 : Nat) : Int) w (by omega)
              rw [show on allowed (((chr l i).1 : Nat) : Int) = allowed (chr l i).1 by simp [on], hall] at AL
              have him := hce hm0
              have w1' : IntKind.i64.wrap ((i : Int) + ((chr l i).2 : Int)) = (i : Int) + ((chr l i).2 : Int) := IntWalk.i64_in _ (by omega)
              have dm : (((chr l i).2 : Int) == 0) = false := by rw [beq_eq_false_iff_ne]; omega
              have d13 : (((chr l i).1 : Int) == 13) = false := by rw [beq_eq_false_iff_ne]; omega
              generalize (chr l i).1 = c0 at *
              generalize (chr l i).2 = m at *
              clear hce htx hall
              go_wp2_with fail
              refine (CH _).mono ?_
              rintro e1 w4 ⟨rfl, rfl⟩
              go_wp2_with fail
              refine (AL _).mono ?_
              rintro e1 w4 ⟨rfl, rfl⟩
              go_wp2
              go_ret
              rw [HR.out, HS.out]
              exact ⟨w.heap.size, rfl, P3, Nat.le_refl _, by rw [if_neg hn]; exact ⟨_, _, _, 0, K3⟩⟩
            · rw [hall, if_pos rfl] at hro; cases hro
        · obtain ⟨k1, k2, k3, k4⟩ := rdOne_ok hlt hro
          have HS := Lib.hid (show read l = ((acc ++ [c]) ++ (readGo l f (i + n)).1, (readGo l f (i + n)).2) by rw [H.out, readGo_one hlt hro]; simp)
          have hpb := place_bd acc acc.length
          have hok' : ∀ x ∈ acc ++ [c], allowed x = true := fun x hx => (List.mem_append.1 hx).elim (hok x) (fun hx => by simp at hx; subst hx; exact k1)
          have HPL := Lib.hid (place_snoc acc c)
          have wl : IntKind.i64.wrap (((place acc acc.length).1 : Int) + 1) = ((place acc acc.length).1 : Int) + 1 := IntWalk.i64_in _ (by omega)
          have wc : IntKind.i64.wrap (((place acc acc.length).2 : Int) + 1) = ((place acc acc.length).2 : Int) + 1 := IntWalk.i64_in _ (by omega)
          clear H
          unfold rdOne at hro
          by_cases hm0 : (chr l i).2 = 0
          · rw [if_pos hm0] at hro; cases hro
          rw [if_neg hm0] at hro
          have him := hce hm0
          have htx := htx hm0
          have w1' : IntKind.i64.wrap ((i : Int) + ((chr l i).2 : Int)) = (i : Int) + ((chr l i).2 : Int) := IntWalk.i64_in _ (by omega)
          have dm : (((chr l i).2 : Int) == 0) = false := by rw [beq_eq_false_iff_ne]; omega
          by_cases h13 : (chr l i).1 = 13
          · rw [if_pos h13] at hro
            have hm1 := chr13 l i h13 hm0
            rw [h13, hm1] at CH
            have w2' : IntKind.i64.wrap ((i : Int) + 1) = (i : Int) + 1 := IntWalk.i64_in _ (by omega)
            have w3' : IntKind.i64.wrap ((i : Int) + 2) = (i : Int) + 2 := IntWalk.i64_in _ (by omega)
            clear htx hce dm w1' h13 hm0 him hm1
            have b8l := by8_lt l (i + 1)
            by_cases hb10 : by8 l (i + 1) = 10
            · rw [if_pos hb10] at hro
              cases hro
              rw [if_pos rfl] at HPL
              have e1 : decide ((i : Int) + 1 < (l.length : Int)) = true := by simp; omega
              have e1' : (i : Int) + 1 < (l.length : Int) := by omega
              have e2 : (0 : Int) ≤ (i : Int) + 1 := by omega
              have e3 : ((i : Int) + 1).toNat = i + 1 := by omega
              have e4 : i + 1 < l.length := by omega
              have e5 : ((by8 l (i + 1) : Int) == 10) = true := by rw [hb10]; rfl
              clear hb10
              go_wp2_with fail
              refine (CH _).mono ?_
              rintro e1 w4 ⟨rfl, rfl⟩
              obtain ⟨ca, cc, hcv⟩ := row_shape h3.chars
              obtain ⟨ta, tc, htv⟩ := row_shape h3.text
              simp only at hcv htv
              subst hcv htv
              have hBW0 : w.heap.size ≤ wr.heap.size := h3.pur.size
              have hpW0 := bk_lt h3.own
              have c1 := bk_cell h3.own 1 _ rfl
              have f1 := bk_free h3.own 1
              simp only at hpW0 c1 f1
              have hchp := h3.pc
              have hin : ints (acc ++ [10]) = ints acc ++ [.int .i64 10] := by simp [ints]
              have htn : encs (acc ++ [10]) = encs acc ++ [.string ⟨([10]).toArray⟩] := by rw [show ([10] : List UInt8) = enc 10 from rfl]; simp [encs]
              go_wp2_with (at_builtin; refine append_new wr rfl _ _ 43 3 1 8 int_info1 Tryz.underlying43 (by decide) (by decide) (by rfl) w.heap.size _ acc.length _ _ _ [.int .i64 10] rfl ?c1 (by rfl) wr.heap.size rfl (by rfl) h3.chars (by omega) hBW0 ?_)
              case c1 => intro u hu; simp at hu; subst hu; rfl
              intro v7 w7 hown7 hg7 hloc7
              obtain ⟨va, vc, rfl⟩ := row_shape hown7
              have K7 := (hg7.block w.heap.size (Nat.lt_of_lt_of_le hpW0 ((Pur.refl wr).alloc _).size) (fun e => hchp e.symm)).trans (bk_alloc h3.own (.cells #[.int .i64 10] 3))
              have q7 := bk_cell K7 1 _ rfl
              have q8 := bk_free K7 1
              have R1 := h3.setc (v := .slice va (acc.length + 1) vc) (l1 := acc ++ [10]) (by rw [List.length_append, hin]; exact hown7) hg7 hloc7
              have cz0 := bk_cell R1.own 0 _ rfl
              have hpW1 := bk_lt R1.own
              have hBW1 := R1.pur.size
              have htp := R1.pt
              simp only at cz0 hpW1 htp
              have RT := R1.text
              go_wp2_with (at_builtin; refine append_new (w7.setCell ⟨w.heap.size, 1, none⟩ (.slice va (acc.length + 1) vc)) rfl _ _ 50 9 1 16 str_info1 Tryz.underlying50 (by decide) (by decide) (by rfl) w.heap.size _ acc.length _ _ _ [.string ⟨([10]).toArray⟩] rfl ?c2 (by rfl) w7.heap.size (by simp [World.setCell]) (by rfl) RT (by omega) hBW1 ?_)
              case c2 => first | rfl | (intro u hu; simp at hu; subst hu; rfl)
              intro v8 w8 hown8 hg8 hloc8
              obtain ⟨ua, uc, rfl⟩ := row_shape hown8
              have K8 := (hg8.block w.heap.size (Nat.lt_of_lt_of_le hpW1 ((Pur.refl _).alloc _).size) (fun e => htp e.symm)).trans (bk_alloc R1.own (.cells #[.string ⟨([10]).toArray⟩] 9))
              have q9 := bk_cell K8 0 _ rfl
              have q10 := bk_free K8 0
              have R2 := R1.sett (v := .slice ua (acc.length + 1) uc) (l1 := acc ++ [10]) (by rw [List.length_append, htn]; exact hown8) hg8 (hloc8.imp id (fun h => h.trans (by simp [World.setCell])))
              go_wp2
              obtain ⟨W2, hW2⟩ : ∃ W2, W2 = w8.setCell ⟨w.heap.size, 0, none⟩ (.slice ua (acc.length + 1) uc) := ⟨_, rfl⟩
              rw [← hW2] at R2 ⊢
              clear hW2 R1 K7 K8 q7 q8 q9 q10 cz0 c1 f1 hown7 hown8 hg7 hg8 RT hin htn
              obtain ⟨aa, ac, hav⟩ := row_shape R2.spots
              simp only at hav
              subst hav
              have hap : (Value.slice aa (spotsOf acc).length ac).ownBlock ≠ some w.heap.size := R2.pa
              have Pd : Pur W2 (W2.drew.alloc (.cells #[.int .i64 (((place acc acc.length).1 : Int)), .int .i64 (((place acc acc.length).2 : Int))] 29)) := ((Pur.refl W2).drew).alloc _
              have Pa : Pur W2 (W2.alloc (.cells #[.int .i64 (((place acc acc.length).1 : Int)), .int .i64 (((place acc acc.length).2 : Int))] 29)) := (Pur.refl W2).alloc _
              have q2 := bk_cell R2.own 2 _ rfl
              have q2' := bk_cell (bk_pur R2.own Pa) 2 _ rfl
              have q2'' := bk_cell (bk_pur R2.own Pd) 2 _ rfl
              have y0 := bk_cell R2.pos 0 _ rfl
              have y1 := bk_cell R2.pos 1 _ rfl
              have hpW := bk_lt R2.own
              have hBW : w.heap.size ≤ W2.heap.size := R2.pur.size
              have hsl : (spotsOf acc).length ≤ 900000 := by rw [spotsOf_len]; omega
              simp only at q2 q2' q2'' hpW
              go_region_law
                (refine step_append_lies _ (by rfl) _ _ _ (by rfl) w.heap.size 29 i0 z0 2 16 Tryz.underlying51 hi0 hz0 hz1 hz2 hzs (by omega) (.slice aa (spotsOf acc).length ac) (spotsOf acc).length (spotV (spotsOf acc)) (by rfl) (R2.spots.drew.alloc _) ⟨W2.heap.size, 0, none⟩ 1 1 [.int .i64 (((place acc acc.length).1 : Int)), .int .i64 (((place acc acc.length).2 : Int))] (by rfl) (by rfl) (World.news_of_block (cs := #[.int .i64 (((place acc acc.length).1 : Int)), .int .i64 (((place acc acc.length).2 : Int))]) (t := 29) (fr := (0, 0)) (heap_alloc_new W2.drew _)) (by simp [Value.oneCell']) (by omega) (by unfold maxLen; omega) (by omega) (Nat.le_trans hBW Pd.size) (W2.heap.size + 1) (by simp) ?_; intro gg cap w11 hown11 hgrow hat hlt11; have K11 := (hgrow.block w.heap.size (Nat.lt_of_lt_of_le hpW Pd.size) (fun e => hap e.symm)).trans (bk_pur R2.own Pd); have q7 := bk_cell K11 2 _ rfl; have q8 := bk_free K11 2)
              all_goals
                have R3' := (R2.purd ((Pur.refl W2).drew)).seta (v := .slice (some ⟨gg, 0, none⟩) ((spotsOf acc).length + 1) cap) (l1 := spotsOf acc ++ [place acc acc.length]) (by rw [List.length_append, spotV_append]; exact hown11) hgrow (by
                  rcases hat with hat | hat
                  · exact .inl hat.symm
                  · right; rw [hat]; rfl)
                have p1 := bk_cell R3'.pos 1 _ rfl
                have p0 := bk_cell R3'.pos 0 _ rfl
                have g1 := bk_free R3'.pos 1
                have R4 := R3'.setp 1 (.int .i64 (((place acc acc.length).2 : Int) + 1)) ((place acc acc.length).1, (place acc acc.length).2 + 1) (by simp)
                have p4 := bk_cell R4.pos 0 _ rfl
                have p5 := bk_cell R4.pos 1 _ rfl
                have g4 := bk_free R4.pos 0
                have g5 := bk_free R4.pos 1
                have R5 := (R4.setp 0 (.int .i64 (((place acc acc.length).1 : Int) + 1)) ((place acc acc.length).1 + 1, (place acc acc.length).2 + 1) (by simp)).setp 1 (.int .i64 1) ((place acc acc.length).1 + 1, 1) (by simp)
                simp only at p0 p1 p4 p5
                clear K11 q7 q8 q2 q2' q2'' y0 y1
                go_wp2
                go_roundw
                case rel => exact ⟨i + 2, f, acc ++ [10], _, _, _, by go_num, by omega, by omega, by simp; omega, hok', by rw [spotsOf_snoc, List.length_append, List.length_singleton, HPL.out]; exact R5, HS⟩
                case measure => simp [intOf]; omega
            · rw [if_neg hb10] at hro
              cases hro
              rw [if_pos rfl] at HPL
              have e5 : ((by8 l (i + 1) : Int) == 10) = false := by rw [beq_eq_false_iff_ne]; omega
              have e2 : (0 : Int) ≤ (i : Int) + 1 := by omega
              have e3 : ((i : Int) + 1).toNat = i + 1 := by omega
              clear hb10
              rcases Nat.lt_or_ge (i + 1) l.length with e4 | e4
              · have e1 : decide ((i : Int) + 1 < (l.length : Int)) = true := by simp; omega
                have e1' : (i : Int) + 1 < (l.length : Int) := by omega
                go_wp2_with fail
                refine (CH _).mono ?_
                rintro e1 w4 ⟨rfl, rfl⟩
                obtain ⟨ca, cc, hcv⟩ := row_shape h3.chars
                obtain ⟨ta, tc, htv⟩ := row_shape h3.text
                simp only at hcv htv
                subst hcv htv
                have hBW0 : w.heap.size ≤ wr.heap.size := h3.pur.size
                have hpW0 := bk_lt h3.own
                have c1 := bk_cell h3.own 1 _ rfl
                have f1 := bk_free h3.own 1
                simp only at hpW0 c1 f1
                have hchp := h3.pc
                have hin : ints (acc ++ [10]) = ints acc ++ [.int .i64 10] := by simp [ints]
                have htn : encs (acc ++ [10]) = encs acc ++ [.string ⟨([10]).toArray⟩] := by rw [show ([10] : List UInt8) = enc 10 from rfl]; simp [encs]
                go_wp2_with (at_builtin; refine append_new wr rfl _ _ 43 3 1 8 int_info1 Tryz.underlying43 (by decide) (by decide) (by rfl) w.heap.size _ acc.length _ _ _ [.int .i64 10] rfl ?c1 (by rfl) wr.heap.size rfl (by rfl) h3.chars (by omega) hBW0 ?_)
                case c1 => intro u hu; simp at hu; subst hu; rfl
                intro v7 w7 hown7 hg7 hloc7
                obtain ⟨va, vc, rfl⟩ := row_shape hown7
                have K7 := (hg7.block w.heap.size (Nat.lt_of_lt_of_le hpW0 ((Pur.refl wr).alloc _).size) (fun e => hchp e.symm)).trans (bk_alloc h3.own (.cells #[.int .i64 10] 3))
                have q7 := bk_cell K7 1 _ rfl
                have q8 := bk_free K7 1
                have R1 := h3.setc (v := .slice va (acc.length + 1) vc) (l1 := acc ++ [10]) (by rw [List.length_append, hin]; exact hown7) hg7 hloc7
                have cz0 := bk_cell R1.own 0 _ rfl
                have hpW1 := bk_lt R1.own
                have hBW1 := R1.pur.size
                have htp := R1.pt
                simp only at cz0 hpW1 htp
                have RT := R1.text
                go_wp2_with (at_builtin; refine append_new (w7.setCell ⟨w.heap.size, 1, none⟩ (.slice va (acc.length + 1) vc)) rfl _ _ 50 9 1 16 str_info1 Tryz.underlying50 (by decide) (by decide) (by rfl) w.heap.size _ acc.length _ _ _ [.string ⟨([10]).toArray⟩] rfl ?c2 (by rfl) w7.heap.size (by simp [World.setCell]) (by rfl) RT (by omega) hBW1 ?_)
                case c2 => first | rfl | (intro u hu; simp at hu; subst hu; rfl)
                intro v8 w8 hown8 hg8 hloc8
                obtain ⟨ua, uc, rfl⟩ := row_shape hown8
                have K8 := (hg8.block w.heap.size (Nat.lt_of_lt_of_le hpW1 ((Pur.refl _).alloc _).size) (fun e => htp e.symm)).trans (bk_alloc R1.own (.cells #[.string ⟨([10]).toArray⟩] 9))
                have q9 := bk_cell K8 0 _ rfl
                have q10 := bk_free K8 0
                have R2 := R1.sett (v := .slice ua (acc.length + 1) uc) (l1 := acc ++ [10]) (by rw [List.length_append, htn]; exact hown8) hg8 (hloc8.imp id (fun h => h.trans (by simp [World.setCell])))
                go_wp2
                obtain ⟨W2, hW2⟩ : ∃ W2, W2 = w8.setCell ⟨w.heap.size, 0, none⟩ (.slice ua (acc.length + 1) uc) := ⟨_, rfl⟩
                rw [← hW2] at R2 ⊢
                clear hW2 R1 K7 K8 q7 q8 q9 q10 cz0 c1 f1 hown7 hown8 hg7 hg8 RT hin htn
                obtain ⟨aa, ac, hav⟩ := row_shape R2.spots
                simp only at hav
                subst hav
                have hap : (Value.slice aa (spotsOf acc).length ac).ownBlock ≠ some w.heap.size := R2.pa
                have Pd : Pur W2 (W2.drew.alloc (.cells #[.int .i64 (((place acc acc.length).1 : Int)), .int .i64 (((place acc acc.length).2 : Int))] 29)) := ((Pur.refl W2).drew).alloc _
                have Pa : Pur W2 (W2.alloc (.cells #[.int .i64 (((place acc acc.length).1 : Int)), .int .i64 (((place acc acc.length).2 : Int))] 29)) := (Pur.refl W2).alloc _
                have q2 := bk_cell R2.own 2 _ rfl
                have q2' := bk_cell (bk_pur R2.own Pa) 2 _ rfl
                have q2'' := bk_cell (bk_pur R2.own Pd) 2 _ rfl
                have y0 := bk_cell R2.pos 0 _ rfl
                have y1 := bk_cell R2.pos 1 _ rfl
                have hpW := bk_lt R2.own
                have hBW : w.heap.size ≤ W2.heap.size := R2.pur.size
                have hsl : (spotsOf acc).length ≤ 900000 := by rw [spotsOf_len]; omega
                simp only at q2 q2' q2'' hpW
                go_region_law
                  (refine step_append_lies _ (by rfl) _ _ _ (by rfl) w.heap.size 29 i0 z0 2 16 Tryz.underlying51 hi0 hz0 hz1 hz2 hzs (by omega) (.slice aa (spotsOf acc).length ac) (spotsOf acc).length (spotV (spotsOf acc)) (by rfl) (R2.spots.drew.alloc _) ⟨W2.heap.size, 0, none⟩ 1 1 [.int .i64 (((place acc acc.length).1 : Int)), .int .i64 (((place acc acc.length).2 : Int))] (by rfl) (by rfl) (World.news_of_block (cs := #[.int .i64 (((place acc acc.length).1 : Int)), .int .i64 (((place acc acc.length).2 : Int))]) (t := 29) (fr := (0, 0)) (heap_alloc_new W2.drew _)) (by simp [Value.oneCell']) (by omega) (by unfold maxLen; omega) (by omega) (Nat.le_trans hBW Pd.size) (W2.heap.size + 1) (by simp) ?_; intro gg cap w11 hown11 hgrow hat hlt11; have K11 := (hgrow.block w.heap.size (Nat.lt_of_lt_of_le hpW Pd.size) (fun e => hap e.symm)).trans (bk_pur R2.own Pd); have q7 := bk_cell K11 2 _ rfl; have q8 := bk_free K11 2)
                all_goals
                  have R3' := (R2.purd ((Pur.refl W2).drew)).seta (v := .slice (some ⟨gg, 0, none⟩) ((spotsOf acc).length + 1) cap) (l1 := spotsOf acc ++ [place acc acc.length]) (by rw [List.length_append, spotV_append]; exact hown11) hgrow (by
                    rcases hat with hat | hat
                    · exact .inl hat.symm
                    · right; rw [hat]; rfl)
                  have p1 := bk_cell R3'.pos 1 _ rfl
                  have p0 := bk_cell R3'.pos 0 _ rfl
                  have g1 := bk_free R3'.pos 1
                  have R4 := R3'.setp 1 (.int .i64 (((place acc acc.length).2 : Int) + 1)) ((place acc acc.length).1, (place acc acc.length).2 + 1) (by simp)
                  have p4 := bk_cell R4.pos 0 _ rfl
                  have p5 := bk_cell R4.pos 1 _ rfl
                  have g4 := bk_free R4.pos 0
                  have g5 := bk_free R4.pos 1
                  have R5 := (R4.setp 0 (.int .i64 (((place acc acc.length).1 : Int) + 1)) ((place acc acc.length).1 + 1, (place acc acc.length).2 + 1) (by simp)).setp 1 (.int .i64 1) ((place acc acc.length).1 + 1, 1) (by simp)
                  simp only at p0 p1 p4 p5
                  clear K11 q7 q8 q2 q2' q2'' y0 y1
                  go_wp2
                  go_roundw
                  case rel => exact ⟨i + 1, f, acc ++ [10], _, _, _, by go_num, by omega, by omega, by simp; omega, hok', by rw [spotsOf_snoc, List.length_append, List.length_singleton, HPL.out]; exact R5, HS⟩
                  case measure => simp [intOf]; omega
              · have e1 : decide ((i : Int) + 1 < (l.length : Int)) = false := by simp; omega
                have e1' : ¬ (i : Int) + 1 < (l.length : Int) := by omega
                go_wp2_with fail
                refine (CH _).mono ?_
                rintro e1 w4 ⟨rfl, rfl⟩
                obtain ⟨ca, cc, hcv⟩ := row_shape h3.chars
                obtain ⟨ta, tc, htv⟩ := row_shape h3.text
                simp only at hcv htv
                subst hcv htv
                have hBW0 : w.heap.size ≤ wr.heap.size := h3.pur.size
                have hpW0 := bk_lt h3.own
                have c1 := bk_cell h3.own 1 _ rfl
                have f1 := bk_free h3.own 1
                simp only at hpW0 c1 f1
                have hchp := h3.pc
                have hin : ints (acc ++ [10]) = ints acc ++ [.int .i64 10] := by simp [ints]
                have htn : encs (acc ++ [10]) = encs acc ++ [.string ⟨([10]).toArray⟩] := by rw [show ([10] : List UInt8) = enc 10 from rfl]; simp [encs]
                go_wp2_with (at_builtin; refine append_new wr rfl _ _ 43 3 1 8 int_info1 Tryz.underlying43 (by decide) (by decide) (by rfl) w.heap.size _ acc.length _ _ _ [.int .i64 10] rfl ?c1 (by rfl) wr.heap.size rfl (by rfl) h3.chars (by omega) hBW0 ?_)
                case c1 => intro u hu; simp at hu; subst hu; rfl
                intro v7 w7 hown7 hg7 hloc7
                obtain ⟨va, vc, rfl⟩ := row_shape hown7
                have K7 := (hg7.block w.heap.size (Nat.lt_of_lt_of_le hpW0 ((Pur.refl wr).alloc _).size) (fun e => hchp e.symm)).trans (bk_alloc h3.own (.cells #[.int .i64 10] 3))
                have q7 := bk_cell K7 1 _ rfl
                have q8 := bk_free K7 1
                have R1 := h3.setc (v := .slice va (acc.length + 1) vc) (l1 := acc ++ [10]) (by rw [List.length_append, hin]; exact hown7) hg7 hloc7
                have cz0 := bk_cell R1.own 0 _ rfl
                have hpW1 := bk_lt R1.own
                have hBW1 := R1.pur.size
                have htp := R1.pt
                simp only at cz0 hpW1 htp
                have RT := R1.text
                go_wp2_with (at_builtin; refine append_new (w7.setCell ⟨w.heap.size, 1, none⟩ (.slice va (acc.length + 1) vc)) rfl _ _ 50 9 1 16 str_info1 Tryz.underlying50 (by decide) (by decide) (by rfl) w.heap.size _ acc.length _ _ _ [.string ⟨([10]).toArray⟩] rfl ?c2 (by rfl) w7.heap.size (by simp [World.setCell]) (by rfl) RT (by omega) hBW1 ?_)
                case c2 => first | rfl | (intro u hu; simp at hu; subst hu; rfl)
                intro v8 w8 hown8 hg8 hloc8
                obtain ⟨ua, uc, rfl⟩ := row_shape hown8
                have K8 := (hg8.block w.heap.size (Nat.lt_of_lt_of_le hpW1 ((Pur.refl _).alloc _).size) (fun e => htp e.symm)).trans (bk_alloc R1.own (.cells #[.string ⟨([10]).toArray⟩] 9))
                have q9 := bk_cell K8 0 _ rfl
                have q10 := bk_free K8 0
                have R2 := R1.sett (v := .slice ua (acc.length + 1) uc) (l1 := acc ++ [10]) (by rw [List.length_append, htn]; exact hown8) hg8 (hloc8.imp id (fun h => h.trans (by simp [World.setCell])))
                go_wp2
                obtain ⟨W2, hW2⟩ : ∃ W2, W2 = w8.setCell ⟨w.heap.size, 0, none⟩ (.slice ua (acc.length + 1) uc) := ⟨_, rfl⟩
                rw [← hW2] at R2 ⊢
                clear hW2 R1 K7 K8 q7 q8 q9 q10 cz0 c1 f1 hown7 hown8 hg7 hg8 RT hin htn
                obtain ⟨aa, ac, hav⟩ := row_shape R2.spots
                simp only at hav
                subst hav
                have hap : (Value.slice aa (spotsOf acc).length ac).ownBlock ≠ some w.heap.size := R2.pa
                have Pd : Pur W2 (W2.drew.alloc (.cells #[.int .i64 (((place acc acc.length).1 : Int)), .int .i64 (((place acc acc.length).2 : Int))] 29)) := ((Pur.refl W2).drew).alloc _
                have Pa : Pur W2 (W2.alloc (.cells #[.int .i64 (((place acc acc.length).1 : Int)), .int .i64 (((place acc acc.length).2 : Int))] 29)) := (Pur.refl W2).alloc _
                have q2 := bk_cell R2.own 2 _ rfl
                have q2' := bk_cell (bk_pur R2.own Pa) 2 _ rfl
                have q2'' := bk_cell (bk_pur R2.own Pd) 2 _ rfl
                have y0 := bk_cell R2.pos 0 _ rfl
                have y1 := bk_cell R2.pos 1 _ rfl
                have hpW := bk_lt R2.own
                have hBW : w.heap.size ≤ W2.heap.size := R2.pur.size
                have hsl : (spotsOf acc).length ≤ 900000 := by rw [spotsOf_len]; omega
                simp only at q2 q2' q2'' hpW
                go_region_law
                  (refine step_append_lies _ (by rfl) _ _ _ (by rfl) w.heap.size 29 i0 z0 2 16 Tryz.underlying51 hi0 hz0 hz1 hz2 hzs (by omega) (.slice aa (spotsOf acc).length ac) (spotsOf acc).length (spotV (spotsOf acc)) (by rfl) (R2.spots.drew.alloc _) ⟨W2.heap.size, 0, none⟩ 1 1 [.int .i64 (((place acc acc.length).1 : Int)), .int .i64 (((place acc acc.length).2 : Int))] (by rfl) (by rfl) (World.news_of_block (cs := #[.int .i64 (((place acc acc.length).1 : Int)), .int .i64 (((place acc acc.length).2 : Int))]) (t := 29) (fr := (0, 0)) (heap_alloc_new W2.drew _)) (by simp [Value.oneCell']) (by omega) (by unfold maxLen; omega) (by omega) (Nat.le_trans hBW Pd.size) (W2.heap.size + 1) (by simp) ?_; intro gg cap w11 hown11 hgrow hat hlt11; have K11 := (hgrow.block w.heap.size (Nat.lt_of_lt_of_le hpW Pd.size) (fun e => hap e.symm)).trans (bk_pur R2.own Pd); have q7 := bk_cell K11 2 _ rfl; have q8 := bk_free K11 2)
                all_goals
                  have R3' := (R2.purd ((Pur.refl W2).drew)).seta (v := .slice (some ⟨gg, 0, none⟩) ((spotsOf acc).length + 1) cap) (l1 := spotsOf acc ++ [place acc acc.length]) (by rw [List.length_append, spotV_append]; exact hown11) hgrow (by
                    rcases hat with hat | hat
                    · exact .inl hat.symm
                    · right; rw [hat]; rfl)
                  have p1 := bk_cell R3'.pos 1 _ rfl
                  have p0 := bk_cell R3'.pos 0 _ rfl
                  have g1 := bk_free R3'.pos 1
                  have R4 := R3'.setp 1 (.int .i64 (((place acc acc.length).2 : Int) + 1)) ((place acc acc.length).1, (place acc acc.length).2 + 1) (by simp)
                  have p4 := bk_cell R4.pos 0 _ rfl
                  have p5 := bk_cell R4.pos 1 _ rfl
                  have g4 := bk_free R4.pos 0
                  have g5 := bk_free R4.pos 1
                  have R5 := (R4.setp 0 (.int .i64 (((place acc acc.length).1 : Int) + 1)) ((place acc acc.length).1 + 1, (place acc acc.length).2 + 1) (by simp)).setp 1 (.int .i64 1) ((place acc acc.length).1 + 1, 1) (by simp)
                  simp only at p0 p1 p4 p5
                  clear K11 q7 q8 q2 q2' q2'' y0 y1
                  go_wp2
                  go_roundw
                  case rel => exact ⟨i + 1, f, acc ++ [10], _, _, _, by go_num, by omega, by omega, by simp; omega, hok', by rw [spotsOf_snoc, List.length_append, List.length_singleton, HPL.out]; exact R5, HS⟩
                  case measure => simp [intOf]; omega
          rw [if_neg h13] at hro
          rcases hall : allowed (chr l i).1 with _ | _
          · rw [hall, if_neg (by simp)] at hro; cases hro
          rw [hall, if_pos rfl] at hro
          cases hro
          have AL := fun w => rallowed_any (((chr l i).1 : Nat) : Int) w (by omega)
          rw [show on allowed (((chr l i).1 : Nat) : Int) = allowed (chr l i).1 by simp [on], hall] at AL
          have d13 : (((chr l i).1 : Int) == 13) = false := by rw [beq_eq_false_iff_ne]; omega
          generalize (chr l i).1 = c0 at *
          generalize (chr l i).2 = m at *
          clear hce hall h13
          by_cases h10 : c0 = 10
          · have d10 : ((c0 : Int) == 10) = true := by rw [beq_iff_eq]; omega
            rw [if_pos h10] at HPL
            clear h10
            go_wp2_with fail
            refine (CH _).mono ?_
            rintro e1 w4 ⟨rfl, rfl⟩
            go_wp2_with fail
            refine (AL _).mono ?_
            rintro e1 w4 ⟨rfl, rfl⟩
            obtain ⟨ca, cc, hcv⟩ := row_shape h3.chars
            obtain ⟨ta, tc, htv⟩ := row_shape h3.text
            simp only at hcv htv
            subst hcv htv
            have hBW0 : w.heap.size ≤ wr.heap.size := h3.pur.size
            have hpW0 := bk_lt h3.own
            have c1 := bk_cell h3.own 1 _ rfl
            have f1 := bk_free h3.own 1
            simp only at hpW0 c1 f1
            have hchp := h3.pc
            have hin : ints (acc ++ [c0]) = ints acc ++ [.int .i64 (c0 : Int)] := by simp [ints]
            have htn : encs (acc ++ [c0]) = encs acc ++ [.string ⟨(enc c0).toArray⟩] := by simp [encs]
            go_wp2_with (at_builtin; refine append_new wr rfl _ _ 43 3 1 8 int_info1 Tryz.underlying43 (by decide) (by decide) (by rfl) w.heap.size _ acc.length _ _ _ [.int .i64 (c0 : Int)] rfl ?c1 (by rfl) wr.heap.size rfl (by rfl) h3.chars (by omega) hBW0 ?_)
            case c1 => intro u hu; simp at hu; subst hu; rfl
            intro v7 w7 hown7 hg7 hloc7
            obtain ⟨va, vc, rfl⟩ := row_shape hown7
            have K7 := (hg7.block w.heap.size (Nat.lt_of_lt_of_le hpW0 ((Pur.refl wr).alloc _).size) (fun e => hchp e.symm)).trans (bk_alloc h3.own (.cells #[.int .i64 (c0 : Int)] 3))
            have q7 := bk_cell K7 1 _ rfl
            have q8 := bk_free K7 1
            have R1 := h3.setc (v := .slice va (acc.length + 1) vc) (l1 := acc ++ [c0]) (by rw [List.length_append, hin]; exact hown7) hg7 hloc7
            have cz0 := bk_cell R1.own 0 _ rfl
            have hpW1 := bk_lt R1.own
            have hBW1 := R1.pur.size
            have htp := R1.pt
            simp only at cz0 hpW1 htp
            have RT := R1.text
            go_wp2_with (at_builtin; refine append_new (w7.setCell ⟨w.heap.size, 1, none⟩ (.slice va (acc.length + 1) vc)) rfl _ _ 50 9 1 16 str_info1 Tryz.underlying50 (by decide) (by decide) (by rfl) w.heap.size _ acc.length _ _ _ [.string ⟨(enc c0).toArray⟩] rfl ?c2 (by rfl) w7.heap.size (by simp [World.setCell]) (by rfl) RT (by omega) hBW1 ?_)
            case c2 => first | rfl | (intro u hu; simp at hu; subst hu; rfl)
            intro v8 w8 hown8 hg8 hloc8
            obtain ⟨ua, uc, rfl⟩ := row_shape hown8
            have K8 := (hg8.block w.heap.size (Nat.lt_of_lt_of_le hpW1 ((Pur.refl _).alloc _).size) (fun e => htp e.symm)).trans (bk_alloc R1.own (.cells #[.string ⟨(enc c0).toArray⟩] 9))
            have q9 := bk_cell K8 0 _ rfl
            have q10 := bk_free K8 0
            have R2 := R1.sett (v := .slice ua (acc.length + 1) uc) (l1 := acc ++ [c0]) (by rw [List.length_append, htn]; exact hown8) hg8 (hloc8.imp id (fun h => h.trans (by simp [World.setCell])))
            go_wp2
            obtain ⟨W2, hW2⟩ : ∃ W2, W2 = w8.setCell ⟨w.heap.size, 0, none⟩ (.slice ua (acc.length + 1) uc) := ⟨_, rfl⟩
            rw [← hW2] at R2 ⊢
            clear hW2 R1 K7 K8 q7 q8 q9 q10 cz0 c1 f1 hown7 hown8 hg7 hg8 RT hin htn
            obtain ⟨aa, ac, hav⟩ := row_shape R2.spots
            simp only at hav
            subst hav
            have hap : (Value.slice aa (spotsOf acc).length ac).ownBlock ≠ some w.heap.size := R2.pa
            have Pd : Pur W2 (W2.drew.alloc (.cells #[.int .i64 (((place acc acc.length).1 : Int)), .int .i64 (((place acc acc.length).2 : Int))] 29)) := ((Pur.refl W2).drew).alloc _
            have Pa : Pur W2 (W2.alloc (.cells #[.int .i64 (((place acc acc.length).1 : Int)), .int .i64 (((place acc acc.length).2 : Int))] 29)) := (Pur.refl W2).alloc _
            have q2 := bk_cell R2.own 2 _ rfl
            have q2' := bk_cell (bk_pur R2.own Pa) 2 _ rfl
            have q2'' := bk_cell (bk_pur R2.own Pd) 2 _ rfl
            have y0 := bk_cell R2.pos 0 _ rfl
            have y1 := bk_cell R2.pos 1 _ rfl
            have hpW := bk_lt R2.own
            have hBW : w.heap.size ≤ W2.heap.size := R2.pur.size
            have hsl : (spotsOf acc).length ≤ 900000 := by rw [spotsOf_len]; omega
            simp only at q2 q2' q2'' hpW
            go_region_law
              (refine step_append_lies _ (by rfl) _ _ _ (by rfl) w.heap.size 29 i0 z0 2 16 Tryz.underlying51 hi0 hz0 hz1 hz2 hzs (by omega) (.slice aa (spotsOf acc).length ac) (spotsOf acc).length (spotV (spotsOf acc)) (by rfl) (R2.spots.drew.alloc _) ⟨W2.heap.size, 0, none⟩ 1 1 [.int .i64 (((place acc acc.length).1 : Int)), .int .i64 (((place acc acc.length).2 : Int))] (by rfl) (by rfl) (World.news_of_block (cs := #[.int .i64 (((place acc acc.length).1 : Int)), .int .i64 (((place acc acc.length).2 : Int))]) (t := 29) (fr := (0, 0)) (heap_alloc_new W2.drew _)) (by simp [Value.oneCell']) (by omega) (by unfold maxLen; omega) (by omega) (Nat.le_trans hBW Pd.size) (W2.heap.size + 1) (by simp) ?_; intro gg cap w11 hown11 hgrow hat hlt11; have K11 := (hgrow.block w.heap.size (Nat.lt_of_lt_of_le hpW Pd.size) (fun e => hap e.symm)).trans (bk_pur R2.own Pd); have q7 := bk_cell K11 2 _ rfl; have q8 := bk_free K11 2)
            all_goals
              have R3' := (R2.purd ((Pur.refl W2).drew)).seta (v := .slice (some ⟨gg, 0, none⟩) ((spotsOf acc).length + 1) cap) (l1 := spotsOf acc ++ [place acc acc.length]) (by rw [List.length_append, spotV_append]; exact hown11) hgrow (by
                rcases hat with hat | hat
                · exact .inl hat.symm
                · right; rw [hat]; rfl)
              have p1 := bk_cell R3'.pos 1 _ rfl
              have p0 := bk_cell R3'.pos 0 _ rfl
              have g1 := bk_free R3'.pos 1
              have R4 := R3'.setp 1 (.int .i64 (((place acc acc.length).2 : Int) + 1)) ((place acc acc.length).1, (place acc acc.length).2 + 1) (by simp)
              have p4 := bk_cell R4.pos 0 _ rfl
              have p5 := bk_cell R4.pos 1 _ rfl
              have g4 := bk_free R4.pos 0
              have g5 := bk_free R4.pos 1
              have R5 := (R4.setp 0 (.int .i64 (((place acc acc.length).1 : Int) + 1)) ((place acc acc.length).1 + 1, (place acc acc.length).2 + 1) (by simp)).setp 1 (.int .i64 1) ((place acc acc.length).1 + 1, 1) (by simp)
              simp only at p0 p1 p4 p5
              clear K11 q7 q8 q2 q2' q2'' y0 y1
              go_wp2
              go_roundw
              case rel => exact ⟨i + m, f, acc ++ [c0], _, _, _, by go_num, by omega, by omega, by simp; omega, hok', by rw [spotsOf_snoc, List.length_append, List.length_singleton, HPL.out]; exact R5, HS⟩
              case measure => simp [intOf]; omega
          · have d10 : ((c0 : Int) == 10) = false := by rw [beq_eq_false_iff_ne]; omega
            rw [if_neg h10] at HPL
            go_wp2_with fail
            refine (CH _).mono ?_
            rintro e1 w4 ⟨rfl, rfl⟩
            go_wp2_with fail
            refine (AL _).mono ?_
            rintro e1 w4 ⟨rfl, rfl⟩
            obtain ⟨ca, cc, hcv⟩ := row_shape h3.chars
            obtain ⟨ta, tc, htv⟩ := row_shape h3.text
            simp only at hcv htv
            subst hcv htv
            have hBW0 : w.heap.size ≤ wr.heap.size := h3.pur.size
            have hpW0 := bk_lt h3.own
            have c1 := bk_cell h3.own 1 _ rfl
            have f1 := bk_free h3.own 1
            simp only at hpW0 c1 f1
            have hchp := h3.pc
            have hin : ints (acc ++ [c0]) = ints acc ++ [.int .i64 (c0 : Int)] := by simp [ints]
            have htn : encs (acc ++ [c0]) = encs acc ++ [.string ⟨(enc c0).toArray⟩] := by simp [encs]
            go_wp2_with (at_builtin; refine append_new wr rfl _ _ 43 3 1 8 int_info1 Tryz.underlying43 (by decide) (by decide) (by rfl) w.heap.size _ acc.length _ _ _ [.int .i64 (c0 : Int)] rfl ?c1 (by rfl) wr.heap.size rfl (by rfl) h3.chars (by omega) hBW0 ?_)
            case c1 => intro u hu; simp at hu; subst hu; rfl
            intro v7 w7 hown7 hg7 hloc7
            obtain ⟨va, vc, rfl⟩ := row_shape hown7
            have K7 := (hg7.block w.heap.size (Nat.lt_of_lt_of_le hpW0 ((Pur.refl wr).alloc _).size) (fun e => hchp e.symm)).trans (bk_alloc h3.own (.cells #[.int .i64 (c0 : Int)] 3))
            have q7 := bk_cell K7 1 _ rfl
            have q8 := bk_free K7 1
            have R1 := h3.setc (v := .slice va (acc.length + 1) vc) (l1 := acc ++ [c0]) (by rw [List.length_append, hin]; exact hown7) hg7 hloc7
            have cz0 := bk_cell R1.own 0 _ rfl
            have hpW1 := bk_lt R1.own
            have hBW1 := R1.pur.size
            have htp := R1.pt
            simp only at cz0 hpW1 htp
            have RT := R1.text
            go_wp2_with (at_builtin; refine append_new (w7.setCell ⟨w.heap.size, 1, none⟩ (.slice va (acc.length + 1) vc)) rfl _ _ 50 9 1 16 str_info1 Tryz.underlying50 (by decide) (by decide) (by rfl) w.heap.size _ acc.length _ _ _ [.string ⟨(enc c0).toArray⟩] rfl ?c2 (by rfl) w7.heap.size (by simp [World.setCell]) (by rfl) RT (by omega) hBW1 ?_)
            case c2 => first | rfl | (intro u hu; simp at hu; subst hu; rfl)
            intro v8 w8 hown8 hg8 hloc8
            obtain ⟨ua, uc, rfl⟩ := row_shape hown8
            have K8 := (hg8.block w.heap.size (Nat.lt_of_lt_of_le hpW1 ((Pur.refl _).alloc _).size) (fun e => htp e.symm)).trans (bk_alloc R1.own (.cells #[.string ⟨(enc c0).toArray⟩] 9))
            have q9 := bk_cell K8 0 _ rfl
            have q10 := bk_free K8 0
            have R2 := R1.sett (v := .slice ua (acc.length + 1) uc) (l1 := acc ++ [c0]) (by rw [List.length_append, htn]; exact hown8) hg8 (hloc8.imp id (fun h => h.trans (by simp [World.setCell])))
            go_wp2
            obtain ⟨W2, hW2⟩ : ∃ W2, W2 = w8.setCell ⟨w.heap.size, 0, none⟩ (.slice ua (acc.length + 1) uc) := ⟨_, rfl⟩
            rw [← hW2] at R2 ⊢
            clear hW2 R1 K7 K8 q7 q8 q9 q10 cz0 c1 f1 hown7 hown8 hg7 hg8 RT hin htn
            obtain ⟨aa, ac, hav⟩ := row_shape R2.spots
            simp only at hav
            subst hav
            have hap : (Value.slice aa (spotsOf acc).length ac).ownBlock ≠ some w.heap.size := R2.pa
            have Pd : Pur W2 (W2.drew.alloc (.cells #[.int .i64 (((place acc acc.length).1 : Int)), .int .i64 (((place acc acc.length).2 : Int))] 29)) := ((Pur.refl W2).drew).alloc _
            have Pa : Pur W2 (W2.alloc (.cells #[.int .i64 (((place acc acc.length).1 : Int)), .int .i64 (((place acc acc.length).2 : Int))] 29)) := (Pur.refl W2).alloc _
            have q2 := bk_cell R2.own 2 _ rfl
            have q2' := bk_cell (bk_pur R2.own Pa) 2 _ rfl
            have q2'' := bk_cell (bk_pur R2.own Pd) 2 _ rfl
            have y0 := bk_cell R2.pos 0 _ rfl
            have y1 := bk_cell R2.pos 1 _ rfl
            have hpW := bk_lt R2.own
            have hBW : w.heap.size ≤ W2.heap.size := R2.pur.size
            have hsl : (spotsOf acc).length ≤ 900000 := by rw [spotsOf_len]; omega
            simp only at q2 q2' q2'' hpW
            go_region_law
              (refine step_append_lies _ (by rfl) _ _ _ (by rfl) w.heap.size 29 i0 z0 2 16 Tryz.underlying51 hi0 hz0 hz1 hz2 hzs (by omega) (.slice aa (spotsOf acc).length ac) (spotsOf acc).length (spotV (spotsOf acc)) (by rfl) (R2.spots.drew.alloc _) ⟨W2.heap.size, 0, none⟩ 1 1 [.int .i64 (((place acc acc.length).1 : Int)), .int .i64 (((place acc acc.length).2 : Int))] (by rfl) (by rfl) (World.news_of_block (cs := #[.int .i64 (((place acc acc.length).1 : Int)), .int .i64 (((place acc acc.length).2 : Int))]) (t := 29) (fr := (0, 0)) (heap_alloc_new W2.drew _)) (by simp [Value.oneCell']) (by omega) (by unfold maxLen; omega) (by omega) (Nat.le_trans hBW Pd.size) (W2.heap.size + 1) (by simp) ?_; intro gg cap w11 hown11 hgrow hat hlt11; have K11 := (hgrow.block w.heap.size (Nat.lt_of_lt_of_le hpW Pd.size) (fun e => hap e.symm)).trans (bk_pur R2.own Pd); have q7 := bk_cell K11 2 _ rfl; have q8 := bk_free K11 2)
            all_goals
              have R3' := (R2.purd ((Pur.refl W2).drew)).seta (v := .slice (some ⟨gg, 0, none⟩) ((spotsOf acc).length + 1) cap) (l1 := spotsOf acc ++ [place acc acc.length]) (by rw [List.length_append, spotV_append]; exact hown11) hgrow (by
                rcases hat with hat | hat
                · exact .inl hat.symm
                · right; rw [hat]; rfl)
              have p1 := bk_cell R3'.pos 1 _ rfl
              have p0 := bk_cell R3'.pos 0 _ rfl
              have g1 := bk_free R3'.pos 1
              have R4 := R3'.setp 1 (.int .i64 (((place acc acc.length).2 : Int) + 1)) ((place acc acc.length).1, (place acc acc.length).2 + 1) (by simp)
              have p4 := bk_cell R4.pos 0 _ rfl
              have p5 := bk_cell R4.pos 1 _ rfl
              have g4 := bk_free R4.pos 0
              have g5 := bk_free R4.pos 1
              have R5 := R4
              simp only at p0 p1 p4 p5
              clear K11 q7 q8 q2 q2' q2'' y0 y1
              go_wp2
              go_roundw
              case rel => exact ⟨i + m, f, acc ++ [c0], _, _, _, by go_num, by omega, by omega, by simp; omega, hok', by rw [spotsOf_snoc, List.length_append, List.length_singleton, HPL.out]; exact R5, HS⟩
              case measure => simp [intOf]; omega
      · obtain rfl : i = l.length := by omega
        have hlt' : ¬ (l.length : Int) < l.length := by omega
        have hg : readGo l (f + 1) l.length = ([], 0) := by rw [readGo, if_neg (by omega)]
        have HS := Lib.hid (show read l = (acc, 0) by rw [H.out, hg]; simp)
        have hpl : (place acc acc.length) = (place acc acc.length) := rfl
        obtain ⟨aa, ac, hav⟩ := row_shape h3.spots
        simp only at hav
        subst hav
        have hap : (Value.slice aa (spotsOf acc).length ac).ownBlock ≠ some w.heap.size := h3.pa
        have Pd : Pur wr (wr.drew.alloc (.cells #[.int .i64 (((place acc acc.length).1 : Int)), .int .i64 (((place acc acc.length).2 : Int))] 29)) := ((Pur.refl wr).drew).alloc _
        have Pa : Pur wr (wr.alloc (.cells #[.int .i64 (((place acc acc.length).1 : Int)), .int .i64 (((place acc acc.length).2 : Int))] 29)) := (Pur.refl wr).alloc _
        have q2 := bk_cell h3.own 2 _ rfl
        have q2' := bk_cell (bk_pur h3.own Pa) 2 _ rfl
        have q2'' := bk_cell (bk_pur h3.own Pd) 2 _ rfl
        have y0 := bk_cell h3.pos 0 _ rfl
        have y1 := bk_cell h3.pos 1 _ rfl
        have hpW := bk_lt h3.own
        have hBW : w.heap.size ≤ wr.heap.size := h3.pur.size
        have hsl : (spotsOf acc).length ≤ 900000 := by rw [spotsOf_len]; omega
        simp only at q2 q2' q2'' hpW
        go_wp2
        go_region_law
          (refine step_append_lies _ (by rfl) _ _ _ (by rfl) w.heap.size 29 i0 z0 2 16 Tryz.underlying51 hi0 hz0 hz1 hz2 hzs (by omega) (.slice aa (spotsOf acc).length ac) (spotsOf acc).length (spotV (spotsOf acc)) (by rfl) (h3.spots.drew.alloc _) ⟨wr.heap.size, 0, none⟩ 1 1 [.int .i64 (((place acc acc.length).1 : Int)), .int .i64 (((place acc acc.length).2 : Int))] (by rfl) (by rfl) (World.news_of_block (cs := #[.int .i64 (((place acc acc.length).1 : Int)), .int .i64 (((place acc acc.length).2 : Int))]) (t := 29) (fr := (0, 0)) (heap_alloc_new wr.drew _)) (by simp [Value.oneCell']) (by omega) (by unfold maxLen; omega) (by omega) (Nat.le_trans hBW Pd.size) (wr.heap.size + 1) (by simp) ?_; intro gg cap w11 hown11 hgrow hat hlt11; have K11 := (hgrow.block w.heap.size (Nat.lt_of_lt_of_le hpW Pd.size) (fun e => hap e.symm)).trans (bk_pur h3.own Pd); have q7 := bk_cell K11 2 _ rfl; have q8 := bk_free K11 2)
        all_goals
          have R1' := (h3.purd ((Pur.refl wr).drew)).seta (v := .slice (some ⟨gg, 0, none⟩) ((spotsOf acc).length + 1) cap) (l1 := spotsOf acc ++ [place acc acc.length]) (by rw [List.length_append, spotV_append]; exact hown11) hgrow (by
            rcases hat with hat | hat
            · exact .inl hat.symm
            · right; rw [hat]; rfl)
          go_wp2
          go_ret
          rw [HR.out, HS.out]
          exact ⟨w.heap.size, rfl, R1'.pur, Nat.le_refl _, by rw [if_pos rfl]; exact ⟨_, rfl, R1'.sc (by omega) hok⟩⟩
end Tk
end Go.Proofs.YtaknfofppknloaaGreatDoor
