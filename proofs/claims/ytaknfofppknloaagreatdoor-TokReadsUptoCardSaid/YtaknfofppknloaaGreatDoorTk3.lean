/- Layer 2: a place; a fault; over one character, and over blanks. -/
import Derived.Test.YtaknfofppknloaaGreatDoorTk2
namespace Go.Proofs.YtaknfofppknloaaGreatDoor
open Go Go.RowKit
set_option linter.all false
namespace Tk
theorem placeGo_step (cs : Cs) (n k : Nat) (q : Nat × Nat) (h : k < (cs.take n).length) : placeGo ((cs.take n).drop k) q = placeGo ((cs.take n).drop (k + 1)) (if cs.getD k 0 = 10 then (q.1 + 1, 1) else (q.1, q.2 + 1)) := by
  have h2 : k < n ∧ k < cs.length := by rw [List.length_take] at h; omega
  rw [List.drop_eq_getElem_cons h]
  simp [placeGo, List.getD_eq_getElem?_getD, List.getElem?_eq_getElem h2.2]
set_option maxRecDepth 100000 in
set_option maxHeartbeats 4000000 in
theorem place_any {w : World} {p : Pl} {d : Sd} (h : At w p d) (i : Nat) (hi : i ≤ 1000000) : Calls Tryz.prog 55 #[.pointer (some ⟨p.s, 0, none⟩), .int .i64 (i : Int)] w fun e w' => e = .returned (.agg #[.int .i64 ((place d.cs i).1 : Int), .int .i64 ((place d.cs i).2 : Int)]) ∧ Pur w w' := by
  have C0 : ∀ w', Pur w w' → w'.cell? ⟨p.s, 0, none⟩ = some p.cv := fun w' hp => (h.pur hp).c0
  obtain ⟨a, c, hcv, hl, hc, hcell⟩ := h.cshape
  rw [hcv] at C0
  have hCell : ∀ k, k < d.cs.length → ∃ g, a = some ⟨g, 0, none⟩ ∧ ∀ wr, Pur w wr → wr.cell? ⟨g, k, none⟩ = some (.int .i64 ((d.cs.getD k 0 : Nat) : Int)) := fun k hk => by
    obtain ⟨g, rfl, -⟩ := hcell k hk
    refine ⟨g, rfl, fun wr hr => ?_⟩
    obtain ⟨a', c', hcv', _, _, hcell'⟩ := (h.pur hr).cshape
    rw [hcv] at hcv'
    cases hcv'
    obtain ⟨g', hg', hk'⟩ := hcell' k hk
    cases hg'
    exact hk'
  have hcl := h.clen
  obtain ⟨m, hm⟩ : ∃ m, m = (d.cs.take i).length := ⟨_, rfl⟩
  have hm2 : (min (i : Int) (d.cs.length : Int)) = (m : Int) := by rw [hm, List.length_take]; omega
  have hm3 : m ≤ d.cs.length := by rw [hm, List.length_take]; omega
  have hm4 : (m : Int) ≤ c := by omega
  have hm5 : (0 : Int) ≤ m := by omega
  have c0 := C0 _ ((Pur.refl w).alloc (.cells #[.int .i64 0, .int .i64 0] 29))
  have c0' := C0 _ (((Pur.refl w).alloc (.cells #[.int .i64 0, .int .i64 0] 29)).alloc (.cells #[.int .i64 1, .int .i64 1] 29))
  clear hcv hcell h
  unfold place
  go_enter Tryz.func55, Tryz.ntmps55
  go_wp2
  go_region
  go_wp2
  go_loopw [22] (fun k wr => ∃ (n l q : Nat), n ≤ m ∧ k = .int .i64 n ∧ Pur w wr ∧ wr.heap[w.heap.size]? = some (.cells #[.int .i64 0, .int .i64 0] 29 (0, 0)) ∧ wr.heap[w.heap.size + 1]? = some (.cells #[.int .i64 (l : Int), .int .i64 (q : Int)] 29 (0, 0)) ∧ l ≤ n + 1 ∧ q ≤ n + 1 ∧ Hid (placeGo (d.cs.take i) (1, 1) = placeGo ((d.cs.take i).drop n) (l, q))) (fun k _ => m + 1 - (intOf k).toNat)
  case atStart =>
    refine ⟨0, 1, 1, by omega, rfl, ?_, ?_, ?_, by omega, by omega, Lib.hid (by simp)⟩
    · exact ((((Pur.refl w).alloc _).alloc _).drew)
    · exact bk_alloc (bk_new w _) _
    · have := bk_new (w.alloc (.cells #[.int .i64 0, .int .i64 0] 29)) (.cells #[.int .i64 1, .int .i64 1] 29)
      rw [show (w.alloc (.cells #[.int .i64 0, .int .i64 0] 29)).heap.size = w.heap.size + 1 by simp] at this
      exact this
  case round =>
    obtain ⟨n, l, q, hn, rfl, hpr, hb0, hb1, hl1, hq1, H⟩ := hrel
    have x0 := bk_cell hb0 0 _ rfl
    have x1 := bk_cell hb0 1 _ rfl
    have y0 := bk_cell hb1 0 _ rfl
    have y1 := bk_cell hb1 1 _ rfl
    have f0 := bk_free hb0 0
    have f1 := bk_free hb0 1
    have g0 := bk_free hb1 0
    have g1 := bk_free hb1 1
    by_cases hlt : n < m
    · have hlt' : (n : Int) < m := by omega
      obtain ⟨g, rfl, hk⟩ := hCell n (by omega)
      have hk' := hk wr hpr
      have HS := Lib.hid (H.out.trans (placeGo_step d.cs i n (l, q) (by omega)))
      have w1 : IntKind.i64.wrap ((q : Int) + 1) = (q : Int) + 1 := IntWalk.i64_in _ (by omega)
      have w2 : IntKind.i64.wrap ((l : Int) + 1) = (l : Int) + 1 := IntWalk.i64_in _ (by omega)
      generalize d.cs.getD n 0 = x at *
      clear hCell hk H C0
      have B2 := bk_set hb1 1 (.int .i64 ((q : Int) + 1))
      have B2' := bk_other hb0 (a := ⟨w.heap.size + 1, 1, none⟩) (by simp) (.int .i64 ((q : Int) + 1))
      by_cases hx : x = 10
      · have d1 : ((x : Int) == 10) = true := by simp; omega
        rw [if_pos hx] at HS
        clear hx
        go_wp2
        go_roundw
        case rel =>
          refine ⟨n + 1, l + 1, 1, by omega, by go_num, ?_, ?_, ?_, by omega, by omega, Lib.hid HS.out⟩
          · repeat (first | with_reducible exact hpr | with_reducible refine Pur.setCell ?_ (by simp) _)
          · exact bk_other (bk_other (bk_other hb0 (a := ⟨w.heap.size + 1, 1, none⟩) (by simp) _) (a := ⟨w.heap.size + 1, 0, none⟩) (by simp) _) (a := ⟨w.heap.size + 1, 1, none⟩) (by simp) _
          · have := bk_set (bk_set (bk_set hb1 1 (.int .i64 ((q : Int) + 1))) 0 (.int .i64 ((l : Int) + 1))) 1 (.int .i64 1)
            simpa using this
        case measure => simp [intOf]; omega
      · have d1 : ((x : Int) == 10) = false := by simp; omega
        rw [if_neg hx] at HS
        clear hx
        go_wp2
        go_roundw
        case rel =>
          refine ⟨n + 1, l, q + 1, by omega, by go_num, ?_, ?_, ?_, by omega, by omega, Lib.hid HS.out⟩
          · repeat (first | with_reducible exact hpr | with_reducible refine Pur.setCell ?_ (by simp) _)
          · exact B2'
          · simpa using B2
        case measure => simp [intOf]; omega
    · obtain rfl : n = m := by omega
      have HS := H.out
      rw [List.drop_of_length_le (by omega)] at HS
      clear hCell C0
      go_wp2
      refine bodyPost_ret (v := .agg #[.int .i64 (l : Int), .int .i64 (q : Int)]) (by simp [results, Tryz.results55, go_sem, y0, y1, x0, x1, f0, f1]) rfl ⟨?_, ?_⟩
      · rw [HS]; rfl
      · repeat (first | with_reducible exact hpr | with_reducible refine Pur.setCell ?_ (Nat.le_refl _) _)
/-- HOW A FAULT ENDS A CALL: nothing of it but blocks of S has turned of what lay before. -/
def Flt (S : List Nat) (w : World) (cs : Cs) (i n : Nat) (e : Ending) (w' : World) : Prop :=
  ∃ b, e = .panicked [{ v := .iface 46 (.pointer (some ⟨b, 0, none⟩)), recovered := false }] ∧ w.heap.size ≤ b ∧ Chg S w w' ∧
    w'.heap[b]? = some (.cells #[.int .i64 ((place cs i).1 : Int), .int .i64 ((place cs i).2 : Int), .iface 32 (.int .i64 (n : Int))] 61 (0, 0))
theorem Flt.next {S S' : List Nat} {w w1 w' : World} {cs : Cs} {i n : Nat} {e : Ending} (h : Chg S w w1) (k : Flt S' w1 cs i n e w') (hs : ∀ b ∈ S', b ∈ S ∨ w.heap.size ≤ b) : Flt S w cs i n e w' := by
  obtain ⟨b, h1, h2, h3, h4⟩ := k
  exact ⟨b, h1, Nat.le_trans h.size h2, h.next h3 hs, h4⟩
theorem Flt.after {S : List Nat} {w w1 w' : World} {cs : Cs} {i n : Nat} {e : Ending} (h : Chg S w w1) (k : Flt S w1 cs i n e w') : Flt S w cs i n e w' := k.next h fun _ hb => .inl hb
set_option maxRecDepth 100000 in
theorem fail_any {w : World} {p : Pl} {d : Sd} (h : At w p d) (S : List Nat) (i : Nat) (n : Nat) (hi : i ≤ 1000000) : Calls Tryz.prog 30 #[.pointer (some ⟨p.s, 0, none⟩), .int .i64 (i : Int), .int .i64 (n : Int)] w fun e w' => Flt S w d.cs i n e w' := by
  have PL := place_any h i hi
  go_enter Tryz.func30, Tryz.ntmps30
  go_wp2_with fail
  refine PL.mono ?_
  rintro e w1 ⟨rfl, h1⟩
  go_wp2
  refine ⟨rfl, w1.heap.size, rfl, h1.size, (Chg.of_pur h1).alloc _, ?_⟩
  exact bk_new w1 _
/-- over some characters: now q is left -/
def Went (p : Pl) (d : Sd) (w : World) (q : Cs) (w' : World) : Prop := ∃ j, d.cs.drop j = q ∧ d.i ≤ j ∧ j ≤ d.cs.length ∧ At w' p { d with i := j } ∧ Chg [p.s] w w'
/-- how a part of the scanner ends that goes over characters alone -/
def Gives {α : Type} (p : Pl) (d : Sd) (w : World) (r : R α) (v : α → Value) (e : Ending) (w' : World) : Prop := match r with
  | .ok (a, q) => e = .returned (v a) ∧ Went p d w q w'
  | .error (k, n) => Flt [p.s] w d.cs (d.cs.length - k) n e w'
/-- a whole number in a cell -/
def natAt (w : World) (a : Addr) : Nat := match w.cell? a with | some (.int _ n) => n.toNat | _ => 0
theorem At.nat {w : World} {p : Pl} {d : Sd} (h : At w p d) : natAt w ⟨p.s, 1, none⟩ = d.i := by simp [natAt, h.c1]
theorem rest_nil {d : Sd} (h : d.rest = []) : d.cs.length ≤ d.i := by unfold Sd.rest at h; simpa using h
theorem rest_cons {d : Sd} {c : Nat} {q : Cs} (h : d.rest = c :: q) : d.i < d.cs.length ∧ d.cs.drop (d.i + 1) = q ∧ (c :: q).length = d.cs.length - d.i := by
  unfold Sd.rest at h
  have hl : d.i < d.cs.length := by
    rcases Nat.lt_or_ge d.i d.cs.length with h1 | h1
    · exact h1
    · rw [List.drop_of_length_le h1] at h; cases h
  have e := drop_cons d.cs d.i hl
  rw [h] at e
  refine ⟨hl, (List.cons.inj e).2.symm, ?_⟩
  rw [← h, List.length_drop]
theorem rest_len {d : Sd} : d.rest.length = d.cs.length - d.i := by unfold Sd.rest; simp
set_option maxRecDepth 100000 in
theorem take_any {w : World} {p : Pl} {d : Sd} (h : At w p d) (hi : d.i ≤ d.cs.length) (c : UInt8) : Calls Tryz.prog 57 #[.pointer (some ⟨p.s, 0, none⟩), .string ⟨#[c]⟩] w fun e w' => Gives p d w (takeC c.toNat d.rest) (fun _ => .tuple #[]) e w' := by
  have PK : ∀ x : PW w, _ := fun x => peek_any (h.pur x.pur)
  have hcl := h.clen
  have b0 : by8 [c] 0 = c.toNat := rfl
  have hc := c.toNat_lt
  go_enter Tryz.func57, Tryz.ntmps57
  go_wp2
  go_loopw [7] (fun k wr => (k = .int .i64 0 ∧ wr = w) ∨ (k = .int .i64 1 ∧ takeC c.toNat d.rest = .ok ((), d.cs.drop (d.i + 1)) ∧ d.i < d.cs.length ∧ At wr p { d with i := d.i + 1 } ∧ Chg [p.s] w wr)) (fun k _ => 1 - (intOf k).toNat)
  case atStart => exact .inl ⟨rfl, rfl⟩
  case round =>
    rcases hrel with ⟨rfl, rfl⟩ | ⟨rfl, h1, hlt, h2, h3⟩
    · generalize hbc : c.toNat = m at *
      obtain ⟨bo, hbo⟩ : ∃ bo : Bool, (pk d.rest != (m : Int)) = bo := ⟨_, rfl⟩
      generalize hpk : pk d.rest = x at *
      rcases bo with _ | _
      · go_wp2
        refine wp_region_pur (by kernel_rfl) (by kernel_rfl) ?_
        repeat (go_big_quiet_step ((go_at_call 23; with_reducible exact quiet_pur (PK _))))
        refine wpQuiet_nil ?_
        intro wq hq
        have h1 := h.pur hq
        have c1 := h1.c1
        have f1 := h1.f 1
        rcases hr : d.rest with _ | ⟨y, q⟩
        · rw [hr] at hpk
          simp only [bne_eq_false_iff_eq, pk] at hbo hpk
          omega
        · obtain ⟨hlt, hq2, hlen⟩ := rest_cons hr
          have w1 : IntKind.i64.wrap ((d.i : Int) + 1) = (d.i : Int) + 1 := IntWalk.i64_in _ (by omega)
          go_wp2
          go_roundw
          case rel =>
            refine .inr ⟨by go_num, ?_, hlt, h1.seti (d.i + 1) _ (by omega), (Chg.of_pur hq).setCell (.inl (by simp)) _⟩
            rw [hr] at hpk
            simp only [bne_eq_false_iff_eq, pk] at hbo hpk
            rw [hr, hq2, takeC, if_pos (by omega)]
          case measure => simp [intOf]
      · go_wp2
        refine wp_region_pur (by kernel_rfl) (by kernel_rfl) ?_
        repeat (go_big_quiet_step ((go_at_call 23; with_reducible exact quiet_pur (PK _))))
        refine wpQuiet_nil ?_
        intro wq hq
        have h1 := h.pur hq
        have c1 := h1.c1
        have FL := fail_any h1 [p.s] d.i 21 (by omega)
        go_wp2_with fail
        refine FL.mono ?_
        rintro e w2 hf
        obtain ⟨b, rfl, hf2⟩ := id hf
        go_wp2
        refine ⟨rfl, ?_⟩
        have hf' := Flt.after (Chg.of_pur hq) hf
        rcases hr : d.rest with _ | ⟨y, q⟩
        · have := rest_nil hr
          simp only [takeC, Gives]
          rw [show d.cs.length - 0 = d.i by omega]
          exact hf'
        · obtain ⟨hlt, hq2, hlen⟩ := rest_cons hr
          rw [hr] at hpk
          simp only [bne_iff_ne, ne_eq, pk] at hbo hpk
          rw [takeC, if_neg (by omega)]
          simp only [Gives]
          rw [hlen, show d.cs.length - (d.cs.length - d.i) = d.i by omega]
          exact hf'
    · go_wp2
      refine bodyPost_end (results_none rfl _ _ _) rfl ?_
      rw [h1]
      exact ⟨rfl, d.i + 1, rfl, by omega, by omega, h2, h3⟩
set_option maxRecDepth 100000 in
theorem blanks_any {w : World} {p : Pl} {d : Sd} (h : At w p d) (hi : d.i ≤ d.cs.length) : Calls Tryz.prog 56 #[.pointer (some ⟨p.s, 0, none⟩)] w fun e w' => e = .returned (.bool (decide ((blanks d.rest).length < d.rest.length))) ∧ Went p d w (blanks d.rest) w' := by
  have hcl := h.clen
  have c1 := h.c1
  go_enter Tryz.func56, Tryz.ntmps56
  go_wp2
  go_loopw [8] (fun _ wr => ∃ j, d.i ≤ j ∧ j ≤ d.cs.length ∧ At wr p { d with i := j } ∧ Chg [p.s] w wr ∧ Hid (blanks d.rest = blanks (d.cs.drop j))) (fun _ wr => d.cs.length + 1 - natAt wr ⟨p.s, 1, none⟩)
  case atStart => exact ⟨d.i, by omega, by omega, h, Chg.refl _ _, Lib.hid rfl⟩
  case round =>
    obtain ⟨j, h1, h2, h3, h4, H⟩ := hrel
    have PK := peek_any h3
    have BL := fun w => blank_any (pk (d.cs.drop j)) w (by cases d.cs.drop j <;> simp [pk] <;> omega)
    rw [on_pk] at BL
    unfold Sd.rest at PK
    simp only at PK
    rcases hb : hd blank (d.cs.drop j) with _ | _
    · rw [hb] at BL
      go_wp2_with fail
      refine PK.mono ?_
      rintro e w1 ⟨rfl, hp1⟩
      go_wp2_with fail
      refine (BL _).mono ?_
      rintro e w2 ⟨rfl, rfl⟩
      have k3 := h3.pur hp1
      have c1 := k3.c1
      have hbl : blanks (d.cs.drop j) = d.cs.drop j := by
        unfold blanks
        cases hx : d.cs.drop j with
        | nil => rfl
        | cons x q => rw [hx] at hb; simp only [hd] at hb; simp [List.dropWhile, hb]
      have d1 : decide (d.i < j) = decide ((blanks d.rest).length < d.rest.length) := by
        rw [H.out, hbl, rest_len, List.length_drop, Bool.eq_iff_iff]
        simp only [decide_eq_true_eq]
        omega
      go_wp2
      go_ret
      refine ⟨by rw [← d1]; rfl, j, by rw [H.out, hbl], h1, h2, k3, h4.pur hp1⟩
    · rw [hb] at BL
      have hj : j < d.cs.length := by
        rcases Nat.lt_or_ge j d.cs.length with g | g
        · exact g
        · rw [List.drop_of_length_le g] at hb; cases hb
      have w1 : IntKind.i64.wrap ((j : Int) + 1) = (j : Int) + 1 := IntWalk.i64_in _ (by omega)
      go_wp2_with fail
      refine PK.mono ?_
      rintro e w1 ⟨rfl, hp1⟩
      go_wp2_with fail
      refine (BL _).mono ?_
      rintro e w2 ⟨rfl, rfl⟩
      have k3 := h3.pur hp1
      have c1 := k3.c1
      have f1 := k3.f 1
      have k4 := k3.seti (j + 1) ((j : Int) + 1) (by omega)
      have e4 := k4.nat
      have e3 := h3.nat
      go_wp2
      go_roundw
      case rel =>
        refine ⟨j + 1, by omega, by omega, k4, (h4.pur hp1).setCell (.inl (by simp)) _, Lib.hid ?_⟩
        rw [H.out, drop_cons d.cs j hj]
        rw [drop_cons d.cs j hj] at hb
        simp only [hd] at hb
        rw [blanks, List.dropWhile_cons, if_pos hb]
        rfl
      case measure => rw [e3, e4]; omega
end Tk
end Go.Proofs.YtaknfofppknloaaGreatDoor
