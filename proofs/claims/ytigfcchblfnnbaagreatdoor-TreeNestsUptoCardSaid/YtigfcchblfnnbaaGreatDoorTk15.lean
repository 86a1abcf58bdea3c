/- Layer 2: a tag. -/
import Derived.Test.YtigfcchblfnnbaaGreatDoorTkE
namespace Go.Proofs.YtigfcchblfnnbaaGreatDoor
open Go Go.RowKit
set_option linter.all false
namespace Tk
/-- the tokens so far, the text under way with them -/
def Sd.flushed (d : Sd) : List TokV := if d.text = [] then d.toks else d.toks ++ [⟨3, [], [], narrow d.text, place d.cs d.began, false⟩]
theorem Sd.flushed_len (d : Sd) : d.flushed.length ≤ d.toks.length + 1 := by unfold Sd.flushed; split <;> simp
/-- how 'tag' ends -/
def Tags (p : Pl) (d : Sd) (w : World) (r : R Tok) (e : Ending) (w' : World) : Prop := match r with
  | .ok (t, q) => e = .returned (.tuple #[]) ∧ ∃ p' j, d.cs.drop j = q ∧ d.i < j ∧ j ≤ d.cs.length ∧ At w' p' { d with i := j, toks := d.flushed ++ [t.fin d.cs], text := [] } ∧ Step p w p' w'
  | .error (k, n) => Flt p.all w d.cs (d.cs.length - k) n e w'
theorem row_mono {w : World} {base base' : Nat} {e : TypeId} {size : Nat} {v : Value} {n : Nat} {xs : List Value} (h : w.ownsRow base e size v n xs) (hb : base' ≤ base) : w.ownsRow base' e size v n xs :=
  ⟨h.1, h.2.imp id fun ⟨g, cap, cur, h1, h2, h3⟩ => ⟨g, cap, cur, h1, Nat.le_trans hb h2, h3⟩⟩
theorem flush_any' {w : World} {p : Pl} {d : Sd} (h : At w p d) (hb : d.began ≤ 1000000) (hl : d.text.length ≤ 1000000) (hl2 : d.toks.length ≤ 1000000) : Calls Tryz.prog 55 #[.pointer (some ⟨p.s, 0, none⟩)] w fun e w' => e = .returned (.tuple #[]) ∧ ∃ p', At w' p' { d with toks := d.flushed, text := [] } ∧ Step p w p' w' := flush_any h hb hl hl2
set_option maxRecDepth 100000 in
set_option maxHeartbeats 32000000 in
theorem tag_end {w : World} {p : Pl} {d : Sd} (h : At w p d) (hi : d.i < d.cs.length) (hb : d.began ≤ 1000000) (hl : d.text.length ≤ 1000000) (hl2 : d.toks.length ≤ 900000) (hway : hd (fun c => c == 47) (d.cs.drop (d.i + 1)) = true) : Calls Tryz.prog 53 #[.pointer (some ⟨p.s, 0, none⟩)] w fun e w' => Tags p d w (tag d.rest) e w' := by
  have hcl := h.clen
  have c1 := h.c1
  obtain ⟨i0, hi0, hz⟩ := Option.map_eq_some_iff.1 tok_info
  simp only [Prod.mk.injEq] at hz
  obtain ⟨hz0, hz1, hz2⟩ := hz
  obtain ⟨z0, hz0, hzs⟩ := Option.map_eq_some_iff.1 hz0
  have hpk : (pk (d.cs.drop (d.i + 1)) == 47) = true := by
    rw [← hway]
    cases d.cs.drop (d.i + 1) with
    | nil => rfl
    | cons c q => simp only [pk, hd]; rw [Bool.eq_iff_iff]; simp only [beq_iff_eq]; omega
  have w1' : IntKind.i64.wrap ((d.i : Int) + 1) = (d.i : Int) + 1 := IntWalk.i64_in _ (by omega)
  go_enter Tryz.func53, Tryz.ntmps53
  go_wp2_with fail
  refine (place_any h d.i (by omega)).mono ?_
  rintro e w1 ⟨rfl, p1⟩
  have h1 := h.pur p1
  have p2 : Pur w1 (w1.alloc (.cells #[.int .i64 1, .string ⟨#[]⟩, .slice none 0 0, .string ⟨#[]⟩, .int .i64 ((place d.cs d.i).1 : Int), .int .i64 ((place d.cs d.i).2 : Int), .bool false] 60)) := (Pur.refl w1).alloc _
  have h2 := h1.pur p2
  have c2 := h2.c1
  have f2 := h2.f 1
  have G2 : Chg [p.s] w (w1.alloc (.cells #[.int .i64 1, .string ⟨#[]⟩, .slice none 0 0, .string ⟨#[]⟩, .int .i64 ((place d.cs d.i).1 : Int), .int .i64 ((place d.cs d.i).2 : Int), .bool false] 60)) := Chg.of_pur (p1.trans p2)
  have K2 := bk_new w1 (.cells #[.int .i64 1, .string ⟨#[]⟩, .slice none 0 0, .string ⟨#[]⟩, .int .i64 ((place d.cs d.i).1 : Int), .int .i64 ((place d.cs d.i).2 : Int), .bool false] 60)
  have hLa : w1.heap.size ∉ p.all := fun hm => by have := h1.lt _ hm; omega
  have hLw : w.heap.size ≤ w1.heap.size := p1.size
  have hps : p.s ≠ w1.heap.size := fun e => hLa (by rw [← e]; simp [Pl.all])
  generalize hBB : w1.heap.size = LB at *
  have h3 := h2.seti (d.i + 1) ((d.i : Int) + 1) (by omega)
  have G3 := G2.setCell (a := ⟨p.s, 1, none⟩) (.inl (by simp)) (.int .i64 ((d.i : Int) + 1))
  have K3 := bk_other K2 (a := ⟨p.s, 1, none⟩) (Ne.symm hps) (.int .i64 ((d.i : Int) + 1))
  have PK := peek_any h3
  simp only [Sd.rest] at PK
  clear c1 h1
  go_wp2_with fail
  refine PK.mono ?_
  rintro e w4 ⟨rfl, p4⟩
  have h4 := h3.pur p4
  have G4 := G3.pur p4
  have K4 := bk_pur K3 p4
  clear PK h2 h3 G2 G3 K2 K3 c2 f2 p2
  have hi2 : d.i + 1 < d.cs.length := by
    rcases Nat.lt_or_ge (d.i + 1) d.cs.length with g | g
    · exact g
    · rw [List.drop_of_length_le g] at hway; cases hway
  have c4 := h4.c1
  have f4 := h4.f 1
  simp only at c4
  rw [show ((d.i + 1 : Nat) : Int) = (d.i : Int) + 1 by omega] at c4
  have w2' : IntKind.i64.wrap ((d.i : Int) + 2) = (d.i : Int) + 2 := IntWalk.i64_in _ (by omega)
  have h5 := h4.seti (d.i + 2) ((d.i : Int) + 2) (by omega)
  have G5 := G4.setCell (a := ⟨p.s, 1, none⟩) (.inl (by simp)) (.int .i64 ((d.i : Int) + 2))
  have K5 := bk_other K4 (a := ⟨p.s, 1, none⟩) (Ne.symm hps) (.int .i64 ((d.i : Int) + 2))
  have x5 := bk_cell K5 0 (.int .i64 1) rfl
  have f5 := bk_free K5 0
  have f5' := bk_free K4 0
  have x5' := bk_cell K4 0 (.int .i64 1) rfl
  have h6 := h5.set_other (a := ⟨LB, 0, none⟩) hLa (.int .i64 2)
  have G6 := G5.setCell (a := ⟨LB, 0, none⟩) (.inr hLw) (.int .i64 2)
  have K6 := bk_set K5 0 (.int .i64 2)
  have NM6 := name_any h6 (by simp only; omega)
  simp only [Sd.rest] at NM6
  have HC := Lib.hid (show tag d.rest = (name (d.cs.drop (d.i + 2))).and fun nm r1 => (takeC 62 (blanks r1)).and fun _ z => .ok (⟨2, nm, [], [], d.rest.length, false⟩, z) by
    unfold tag Sd.rest
    rw [List.drop_drop, List.drop_drop, hway]; rfl)
  rcases hn : name (d.cs.drop (d.i + 2)) with ⟨k, n⟩ | ⟨nm, r1⟩
  · rw [hn] at NM6 HC
    simp only [and_error] at HC
    clear hn
    go_wp2_with fail
    refine NM6.mono ?_
    intro e w7 hf
    obtain ⟨b, rfl, hf2⟩ := id hf
    go_wp2
    refine ⟨rfl, ?_⟩
    rw [HC.out]
    exact (Step.chg1 G6).flt1 hf
  rw [hn] at NM6 HC
  simp only [and_ok] at HC
  clear hn
  go_wp2_with fail
  refine NM6.mono ?_
  rintro e w7 ⟨rfl, i7, a7, b7, d7, h7, g7⟩
  simp only at a7 b7 d7 h7
  have K7 := bk_chg K6 g7 (by simp; omega)
  have G7 := G6.trans g7
  have x7 := bk_cell K7 1 _ rfl
  have f7 := bk_free K7 1
  have h7b := h7.set_other (a := ⟨LB, 1, none⟩) hLa (.string ⟨(narrow nm).toArray⟩)
  have G7b := G7.setCell (a := ⟨LB, 1, none⟩) (.inr hLw) (.string ⟨(narrow nm).toArray⟩)
  have K7b := bk_set K7 1 (.string ⟨(narrow nm).toArray⟩)
  have BL := blanks_b h7b d7
  simp only [Sd.rest] at BL
  rw [a7] at BL
  clear NM6 a7
  go_wp2_with fail
  refine BL.mono ?_
  rintro e wT ⟨rfl, jT, aT, bT, dT, hT, gT⟩
  simp only at aT bT dT hT
  rw [← aT] at HC
  replace aT := Lib.hid aT
  have KT := bk_chg K7b gT (by simp; omega)
  have GT := G7b.trans gT
  have hav : wT.ownsRow 0 156 4 (.slice none 0 0) ([] : List AttrV).length (([] : List AttrV).flatMap AttrV.cells) := World.ownsRow_nil _ _ _ _
  have hav2 : ∀ g, (Value.slice none 0 0).ownBlock = some g → g ∉ p.all ∧ g ≠ LB ∧ w.heap.size ≤ g := fun g hg => by simp [Value.ownBlock] at hg
  clear BL h4 h5 h6 h7 h7b G4 G5 G6 G7 G7b K4 K5 K6 K7 K7b x5 f5 x5' f5' x7 f7 c4 f4
  have T8 := take_any hT dT 62
  simp only [Sd.rest] at T8
  rw [show (62 : UInt8).toNat = 62 from rfl] at T8
  rcases ht : takeC 62 (d.cs.drop jT) with ⟨k8, n8⟩ | ⟨u8, r8⟩
  · rw [ht] at T8 HC
    simp only [and_error] at HC
    clear ht
    go_wp2_with fail
    refine T8.mono ?_
    intro e w8 hf
    obtain ⟨b, rfl, hf2⟩ := id hf
    go_wp2
    refine ⟨rfl, ?_⟩
    rw [HC.out]
    exact (Step.chg1 GT).flt1 hf
  rw [ht] at T8 HC
  simp only [and_ok] at HC
  clear ht
  go_wp2_with fail
  refine T8.mono ?_
  rintro e w8 ⟨rfl, i8, a8, b8, d8, h8, g8⟩
  simp only at a8 b8 d8 h8
  replace a8 := Lib.hid a8
  have K8 := bk_chg KT g8 (by simp; omega)
  have G8 := GT.trans g8
  have hav8 := row_chg hav g8 (fun g hg hm => by have := (hav2 g hg).1; simp only [List.mem_singleton] at hm; exact this (by rw [hm]; simp [Pl.all]))
  have FL := flush_any' h8 hb hl (Nat.le_trans hl2 (by decide))
  simp only [Sd.flushed] at FL
  rw [show (if d.text = [] then d.toks else d.toks ++ [(⟨3, [], [], narrow d.text, place d.cs d.began, false⟩ : TokV)]) = d.flushed from rfl] at FL
  clear T8
  go_wp2_with fail
  refine FL.mono ?_
  rintro e w9 ⟨rfl, p9, h9, s9⟩
  have ps9 : p9.s = p.s := s9.s
  have L8 : LB < w8.heap.size := bk_lt K8
  have K9 : w9.heap[LB]? = _ := (s9.chg.block LB L8 hLa).trans K8
  have hav9 := row_chg hav8 s9.chg (fun g hg hm => (hav2 g hg).1 hm)
  have hLa9 : LB ∉ p9.all := fun hm => (s9.new _ hm).elim hLa (fun hm => by omega)
  have hava9 : ∀ g, (Value.slice none 0 0).ownBlock = some g → g ∉ p9.all := fun g hg hm => (s9.new _ hm).elim (hav2 g hg).1 (fun hm => by have := (hav8.lt g hg).2; omega)
  have S9 := (Step.chg1 G8).trans s9
  have y0 := bk_cell K9 0 (.int .i64 2) rfl
  have y1 := bk_cell K9 1 (.string ⟨(narrow nm).toArray⟩) rfl
  have y2 := bk_cell K9 2 (Value.slice none 0 0) rfl
  have y3 := bk_cell K9 3 (.string ⟨#[]⟩) rfl
  have y4 := bk_cell K9 4 (.int .i64 ((place d.cs d.i).1 : Int)) rfl
  have y5 := bk_cell K9 5 (.int .i64 ((place d.cs d.i).2 : Int)) rfl
  have y6 := bk_cell K9 6 (.bool false) rfl
  have P10 : Pur w9 (w9.alloc (.cells #[.int .i64 2, .string ⟨(narrow nm).toArray⟩, Value.slice none 0 0, .string ⟨#[]⟩, .int .i64 ((place d.cs d.i).1 : Int), .int .i64 ((place d.cs d.i).2 : Int), .bool false] 60)) := (Pur.refl w9).alloc _
  have P9d : Pur w9 (w9.drew.alloc (.cells #[.int .i64 2, .string ⟨(narrow nm).toArray⟩, Value.slice none 0 0, .string ⟨#[]⟩, .int .i64 ((place d.cs d.i).1 : Int), .int .i64 ((place d.cs d.i).2 : Int), .bool false] 60)) := ((Pur.refl w9).drew).alloc _
  have q2 := h9.c2
  have q2' := (h9.pur P10).c2
  have q2'' := (h9.pur P9d).c2
  rw [ps9] at q2 q2' q2''
  have htvs : some p.s ≠ p9.tv.ownBlock := fun e => h9.ne (by rw [ps9]; simp [Pl.rows, ← e])
  have hps9 : p.s < w9.heap.size := ps9 ▸ bk_lt h9.own
  have htl : d.flushed.length ≤ 900001 := Nat.le_trans d.flushed_len (by omega)
  clear FL hav8 K8 h8 g8 hT 
  go_wp2
  go_region_law
    (refine step_append_lies _ (by rfl) _ _ _ (by rfl) 0 60 i0 z0 7 88 Tryz.underlying51 hi0 hz0 hz1 hz2 hzs (by omega) p9.tv d.flushed.length (tokCells p9.avs d.flushed) (by rfl) (h9.toks.drew.alloc _) ⟨w9.heap.size, 0, none⟩ 1 1 [.int .i64 2, .string ⟨(narrow nm).toArray⟩, Value.slice none 0 0, .string ⟨#[]⟩, .int .i64 ((place d.cs d.i).1 : Int), .int .i64 ((place d.cs d.i).2 : Int), .bool false] (by rfl) (by rfl) (World.news_of_block (cs := #[.int .i64 2, .string ⟨(narrow nm).toArray⟩, Value.slice none 0 0, .string ⟨#[]⟩, .int .i64 ((place d.cs d.i).1 : Int), .int .i64 ((place d.cs d.i).2 : Int), .bool false]) (t := 60) (fr := (0, 0)) (heap_alloc_new w9.drew _)) (by simp [Value.oneCell']) (by omega) (by unfold maxLen; omega) (by omega) (Nat.zero_le _) (w9.heap.size + 1) (by simp) ?_; intro gg cap w11 hown11 hgrow hat hlt11; have K11 := (hgrow.block p.s (Nat.lt_of_lt_of_le hps9 P10.size) htvs).trans (ps9 ▸ (h9.pur P9d).own); have q7 := bk_cell K11 2 _ rfl; have q8 := bk_free K11 2)
  all_goals
    have h10 := h9.pur P9d
    have B12 := bk_set K11 2 (.slice (some ⟨gg, 0, none⟩) (d.flushed.length + 1) cap)
    have hs1 : (w9.drew.alloc (.cells #[.int .i64 2, .string ⟨(narrow nm).toArray⟩, Value.slice none 0 0, .string ⟨#[]⟩, .int .i64 ((place d.cs d.i).1 : Int), .int .i64 ((place d.cs d.i).2 : Int), .bool false] 60)).heap.size = w9.heap.size + 1 := Array.size_push _
    have hC : Chg (p9.s :: p9.tv.ownBlock.toList) (w9.drew.alloc (.cells #[.int .i64 2, .string ⟨(narrow nm).toArray⟩, Value.slice none 0 0, .string ⟨#[]⟩, .int .i64 ((place d.cs d.i).1 : Int), .int .i64 ((place d.cs d.i).2 : Int), .bool false] 60)) (w11.setCell ⟨p.s, 2, none⟩ (.slice (some ⟨gg, 0, none⟩) (d.flushed.length + 1) cap)) := ((Chg.refl _ _).grown hgrow (fun b hb => .inl (by simp [hb]))).setCell (.inl (by simp [ps9])) _
    have hgs : gg ≠ p.s := fun e => by
      rcases hat with hat | hat
      · exact htvs (by rw [← e]; exact hat.symm)
      · have h2 := bk_lt h9.own; rw [ps9] at h2; omega
    have hrow := row_set hown11 (a := ⟨p.s, 2, none⟩) (fun e => hgs (by simpa [Value.ownBlock] using e)) (.slice (some ⟨gg, 0, none⟩) (d.flushed.length + 1) cap)
    have hav12 : (w11.setCell ⟨p.s, 2, none⟩ (.slice (some ⟨gg, 0, none⟩) (d.flushed.length + 1) cap)).ownsRow 0 156 4 (Value.slice none 0 0) (([] : List AttrV)).length ((([] : List AttrV)).flatMap AttrV.cells) := row_chg (row_pur hav9 P9d) hC (fun g hg hm => by
      have h1 := hava9 g hg
      refine h1 ?_
      unfold Pl.all Pl.rows
      rcases List.mem_cons.1 hm with rfl | hm
      · simp
      · simp only [List.mem_cons, List.mem_append]
        exact .inr (.inl hm))
    obtain ⟨g1, g2⟩ := h10.sett (.slice (some ⟨gg, 0, none⟩) (d.flushed.length + 1) cap) (Value.slice none 0 0) ⟨2, narrow nm, ([] : List AttrV), [], place d.cs d.i, false⟩ hC (by rw [ps9]; simpa using B12) hrow (by
      rcases hat with hat | hat
      · exact .inl hat.symm
      · refine .inr ⟨gg, rfl, by omega, fun e => ?_⟩
        have := (hav9.lt gg e).2
        omega) hav12 hava9 w p (S9.pur P9d) (fun g hg => (hav2 g hg).2.2)
    clear hC hrow hav12 h10
    go_wp2
    refine bodyPost_end (results_none rfl _ _ _) rfl ?_
    rw [HC.out]
    refine ⟨rfl, _, i8, a8.out, by omega, d8, ?_, g2⟩
    have hfin : (⟨2, nm, [], [], d.rest.length, false⟩ : Tok).fin d.cs = ⟨2, narrow nm, ([] : List AttrV), [], place d.cs d.i, false⟩ := by
      simp only [Tok.fin]
      rw [rest_len, show d.cs.length - (d.cs.length - d.i) = d.i by omega]
      rfl
    rw [hfin]
    exact g1
set_option maxRecDepth 100000 in
set_option maxHeartbeats 32000000 in
theorem tag_start {w : World} {p : Pl} {d : Sd} (h : At w p d) (hi : d.i < d.cs.length) (hb : d.began ≤ 1000000) (hl : d.text.length ≤ 1000000) (hl2 : d.toks.length ≤ 900000) (hway : hd (fun c => c == 47) (d.cs.drop (d.i + 1)) = false) : Calls Tryz.prog 53 #[.pointer (some ⟨p.s, 0, none⟩)] w fun e w' => Tags p d w (tag d.rest) e w' := by
  have hcl := h.clen
  have c1 := h.c1
  obtain ⟨i0, hi0, hz⟩ := Option.map_eq_some_iff.1 tok_info
  simp only [Prod.mk.injEq] at hz
  obtain ⟨hz0, hz1, hz2⟩ := hz
  obtain ⟨z0, hz0, hzs⟩ := Option.map_eq_some_iff.1 hz0
  have hpk : (pk (d.cs.drop (d.i + 1)) == 47) = false := by
    rw [← hway]
    cases d.cs.drop (d.i + 1) with
    | nil => rfl
    | cons c q => simp only [pk, hd]; rw [Bool.eq_iff_iff]; simp only [beq_iff_eq]; omega
  have w1' : IntKind.i64.wrap ((d.i : Int) + 1) = (d.i : Int) + 1 := IntWalk.i64_in _ (by omega)
  go_enter Tryz.func53, Tryz.ntmps53
  go_wp2_with fail
  refine (place_any h d.i (by omega)).mono ?_
  rintro e w1 ⟨rfl, p1⟩
  have h1 := h.pur p1
  have p2 : Pur w1 (w1.alloc (.cells #[.int .i64 1, .string ⟨#[]⟩, .slice none 0 0, .string ⟨#[]⟩, .int .i64 ((place d.cs d.i).1 : Int), .int .i64 ((place d.cs d.i).2 : Int), .bool false] 60)) := (Pur.refl w1).alloc _
  have h2 := h1.pur p2
  have c2 := h2.c1
  have f2 := h2.f 1
  have G2 : Chg [p.s] w (w1.alloc (.cells #[.int .i64 1, .string ⟨#[]⟩, .slice none 0 0, .string ⟨#[]⟩, .int .i64 ((place d.cs d.i).1 : Int), .int .i64 ((place d.cs d.i).2 : Int), .bool false] 60)) := Chg.of_pur (p1.trans p2)
  have K2 := bk_new w1 (.cells #[.int .i64 1, .string ⟨#[]⟩, .slice none 0 0, .string ⟨#[]⟩, .int .i64 ((place d.cs d.i).1 : Int), .int .i64 ((place d.cs d.i).2 : Int), .bool false] 60)
  have hLa : w1.heap.size ∉ p.all := fun hm => by have := h1.lt _ hm; omega
  have hLw : w.heap.size ≤ w1.heap.size := p1.size
  have hps : p.s ≠ w1.heap.size := fun e => hLa (by rw [← e]; simp [Pl.all])
  generalize hBB : w1.heap.size = LB at *
  have h3 := h2.seti (d.i + 1) ((d.i : Int) + 1) (by omega)
  have G3 := G2.setCell (a := ⟨p.s, 1, none⟩) (.inl (by simp)) (.int .i64 ((d.i : Int) + 1))
  have K3 := bk_other K2 (a := ⟨p.s, 1, none⟩) (Ne.symm hps) (.int .i64 ((d.i : Int) + 1))
  have PK := peek_any h3
  simp only [Sd.rest] at PK
  clear c1 h1
  go_wp2_with fail
  refine PK.mono ?_
  rintro e w4 ⟨rfl, p4⟩
  have h4 := h3.pur p4
  have G4 := G3.pur p4
  have K4 := bk_pur K3 p4
  clear PK h2 h3 G2 G3 K2 K3 c2 f2 p2
  have NM6 := name_any h4 (by simp only; omega)
  simp only [Sd.rest] at NM6
  have HC := Lib.hid (show tag d.rest = (name (d.cs.drop (d.i + 1))).and fun nm r1 => (attrs r1).and fun l r2 =>
      if hd (fun c => c == 47) r2 then (takeC 62 (r2.drop 1)).and fun _ z => .ok (⟨1, nm, l, [], d.rest.length, true⟩, z)
      else (takeC 62 r2).and fun _ z => .ok (⟨1, nm, l, [], d.rest.length, false⟩, z) by
    unfold tag Sd.rest
    rw [List.drop_drop, List.drop_drop, hway]; rfl)
  rcases hn : name (d.cs.drop (d.i + 1)) with ⟨k, n⟩ | ⟨nm, r1⟩
  · rw [hn] at NM6 HC
    simp only [and_error] at HC
    clear hn
    go_wp2_with fail
    refine NM6.mono ?_
    intro e w7 hf
    obtain ⟨b, rfl, hf2⟩ := id hf
    go_wp2
    refine ⟨rfl, ?_⟩
    rw [HC.out]
    exact (Step.chg1 G4).flt1 hf
  rw [hn] at NM6 HC
  simp only [and_ok] at HC
  clear hn
  go_wp2_with fail
  refine NM6.mono ?_
  rintro e w7 ⟨rfl, i7, a7, b7, d7, h7, g7⟩
  simp only at a7 b7 d7 h7
  have K7 := bk_chg K4 g7 (by simp; omega)
  have G7 := G4.trans g7
  have x7 := bk_cell K7 1 _ rfl
  have f7 := bk_free K7 1
  have h7b := h7.set_other (a := ⟨LB, 1, none⟩) hLa (.string ⟨(narrow nm).toArray⟩)
  have G7b := G7.setCell (a := ⟨LB, 1, none⟩) (.inr hLw) (.string ⟨(narrow nm).toArray⟩)
  have K7b := bk_set K7 1 (.string ⟨(narrow nm).toArray⟩)
  have AA := attrs_any h7b d7
  simp only [Sd.rest] at AA
  rw [a7] at AA
  have hL7 : LB < (w7.setCell ⟨LB, 1, none⟩ (.string ⟨(narrow nm).toArray⟩)).heap.size := bk_lt K7b
  clear NM6 a7
  rcases ha : attrs r1 with ⟨k, n⟩ | ⟨l, r2⟩
  · rw [ha] at AA HC
    simp only [and_error] at HC
    clear ha
    go_wp2_with fail
    refine AA.mono ?_
    intro e w8 hf
    obtain ⟨b, rfl, hf2⟩ := id hf
    go_wp2
    refine ⟨rfl, ?_⟩
    rw [HC.out]
    exact (Step.chg1 G7b).flt1 hf
  rw [ha] at AA HC
  simp only [and_ok] at HC
  clear ha
  go_wp2_with fail
  refine AA.mono ?_
  rintro e wA ⟨av, rfl, ⟨iA, aA, bA, dA, hA, gA⟩, hvA⟩
  simp only at aA bA dA hA
  rw [← aA] at HC
  clear aA
  have KA := bk_chg K7b gA (by simp; omega)
  have GA := G7b.trans gA
  have avlow : ∀ g, av.ownBlock = some g → LB < g ∧ g < wA.heap.size := fun g hg => ⟨Nat.lt_of_lt_of_le hL7 (hvA.lt g hg).1, (hvA.lt g hg).2⟩
  have hv0 : wA.ownsRow 0 156 4 av l.length ((l.map (Attr.fin d.cs)).flatMap AttrV.cells) := row_mono hvA (Nat.zero_le _)
  have avall : ∀ g, av.ownBlock = some g → g ∉ p.all := fun g hg hm => by have h1 := (hvA.lt g hg).1; have h2 := h7b.lt g hm; omega
  have xA := bk_cell KA 2 _ rfl
  have fA := bk_free KA 2
  obtain ⟨ava, avc, hvs⟩ := row_shape hv0
  subst hvs
  have hB := hA.set_other (a := ⟨LB, 2, none⟩) hLa (.slice ava l.length avc)
  have GB := GA.setCell (a := ⟨LB, 2, none⟩) (.inr hLw) (.slice ava l.length avc)
  have KB := bk_set KA 2 (.slice ava l.length avc)
  have hvB := row_set hv0 (a := ⟨LB, 2, none⟩) (fun e => Nat.lt_irrefl _ (avlow _ e).1) (.slice ava l.length avc)
  have PK := peek_any hB
  simp only [Sd.rest] at PK
  have hav2 : ∀ g, (Value.slice ava l.length avc).ownBlock = some g → g ∉ p.all ∧ g ≠ LB ∧ w.heap.size ≤ g := fun g hg => ⟨avall g hg, by have := (avlow g hg).1; omega, by have := (avlow g hg).1; omega⟩
  have hpk2 : (pk (d.cs.drop iA) == 47) = hd (fun c => c == 47) (d.cs.drop iA) := by
    cases d.cs.drop iA with
    | nil => rfl
    | cons c q => simp only [pk, hd]; rw [Bool.eq_iff_iff]; simp only [beq_iff_eq]; omega
  have hlm : (l.map (Attr.fin d.cs)).length = l.length := by simp
  rcases h47 : hd (fun c => c == 47) (d.cs.drop iA) with _ | _
  · rw [h47] at HC hpk2
    simp only [Bool.false_eq_true, if_false] at HC
    clear AA h7 h7b G7 G7b K7 K7b x7 f7 hA GA KA hvA h4 G4 K4 h47
    go_wp2_with fail
    refine PK.mono ?_
    rintro e wT ⟨rfl, pT⟩
    have hT := hB.pur pT
    have GT := GB.pur pT
    have KT := bk_pur KB pT
    have hav : wT.ownsRow 0 156 4 (.slice ava l.length avc) (l.map (Attr.fin d.cs)).length ((l.map (Attr.fin d.cs)).flatMap AttrV.cells) := by rw [hlm]; exact row_pur hvB pT
    have dT := dA
    have bT := bA
    clear PK xA fA hB GB KB hvB hv0
    have T8 := take_any hT dT 62
    simp only [Sd.rest] at T8
    rw [show (62 : UInt8).toNat = 62 from rfl] at T8
    rcases ht : takeC 62 (d.cs.drop iA) with ⟨k8, n8⟩ | ⟨u8, r8⟩
    · rw [ht] at T8 HC
      simp only [and_error] at HC
      clear ht
      go_wp2_with fail
      refine T8.mono ?_
      intro e w8 hf
      obtain ⟨b, rfl, hf2⟩ := id hf
      go_wp2
      refine ⟨rfl, ?_⟩
      rw [HC.out]
      exact (Step.chg1 GT).flt1 hf
    rw [ht] at T8 HC
    simp only [and_ok] at HC
    clear ht
    go_wp2_with fail
    refine T8.mono ?_
    rintro e w8 ⟨rfl, i8, a8, b8, d8, h8, g8⟩
    simp only at a8 b8 d8 h8
    replace a8 := Lib.hid a8
    have K8 := bk_chg KT g8 (by simp; omega)
    have G8 := GT.trans g8
    have hav8 := row_chg hav g8 (fun g hg hm => by have := (hav2 g hg).1; simp only [List.mem_singleton] at hm; exact this (by rw [hm]; simp [Pl.all]))
    have FL := flush_any' h8 hb hl (Nat.le_trans hl2 (by decide))
    simp only [Sd.flushed] at FL
    rw [show (if d.text = [] then d.toks else d.toks ++ [(⟨3, [], [], narrow d.text, place d.cs d.began, false⟩ : TokV)]) = d.flushed from rfl] at FL
    clear T8
    go_wp2_with fail
    refine FL.mono ?_
    rintro e w9 ⟨rfl, p9, h9, s9⟩
    have ps9 : p9.s = p.s := s9.s
    have L8 : LB < w8.heap.size := bk_lt K8
    have K9 : w9.heap[LB]? = _ := (s9.chg.block LB L8 hLa).trans K8
    have hav9 := row_chg hav8 s9.chg (fun g hg hm => (hav2 g hg).1 hm)
    have hLa9 : LB ∉ p9.all := fun hm => (s9.new _ hm).elim hLa (fun hm => by omega)
    have hava9 : ∀ g, (Value.slice ava l.length avc).ownBlock = some g → g ∉ p9.all := fun g hg hm => (s9.new _ hm).elim (hav2 g hg).1 (fun hm => by have := (hav8.lt g hg).2; omega)
    have S9 := (Step.chg1 G8).trans s9
    have y0 := bk_cell K9 0 (.int .i64 1) rfl
    have y1 := bk_cell K9 1 (.string ⟨(narrow nm).toArray⟩) rfl
    have y2 := bk_cell K9 2 (Value.slice ava l.length avc) rfl
    have y3 := bk_cell K9 3 (.string ⟨#[]⟩) rfl
    have y4 := bk_cell K9 4 (.int .i64 ((place d.cs d.i).1 : Int)) rfl
    have y5 := bk_cell K9 5 (.int .i64 ((place d.cs d.i).2 : Int)) rfl
    have y6 := bk_cell K9 6 (.bool false) rfl
    have P10 : Pur w9 (w9.alloc (.cells #[.int .i64 1, .string ⟨(narrow nm).toArray⟩, Value.slice ava l.length avc, .string ⟨#[]⟩, .int .i64 ((place d.cs d.i).1 : Int), .int .i64 ((place d.cs d.i).2 : Int), .bool false] 60)) := (Pur.refl w9).alloc _
    have P9d : Pur w9 (w9.drew.alloc (.cells #[.int .i64 1, .string ⟨(narrow nm).toArray⟩, Value.slice ava l.length avc, .string ⟨#[]⟩, .int .i64 ((place d.cs d.i).1 : Int), .int .i64 ((place d.cs d.i).2 : Int), .bool false] 60)) := ((Pur.refl w9).drew).alloc _
    have q2 := h9.c2
    have q2' := (h9.pur P10).c2
    have q2'' := (h9.pur P9d).c2
    rw [ps9] at q2 q2' q2''
    have htvs : some p.s ≠ p9.tv.ownBlock := fun e => h9.ne (by rw [ps9]; simp [Pl.rows, ← e])
    have hps9 : p.s < w9.heap.size := ps9 ▸ bk_lt h9.own
    have htl : d.flushed.length ≤ 900001 := Nat.le_trans d.flushed_len (by omega)
    clear FL hav8 K8 h8 g8 hT 
    go_wp2
    go_region_law
      (refine step_append_lies _ (by rfl) _ _ _ (by rfl) 0 60 i0 z0 7 88 Tryz.underlying51 hi0 hz0 hz1 hz2 hzs (by omega) p9.tv d.flushed.length (tokCells p9.avs d.flushed) (by rfl) (h9.toks.drew.alloc _) ⟨w9.heap.size, 0, none⟩ 1 1 [.int .i64 1, .string ⟨(narrow nm).toArray⟩, Value.slice ava l.length avc, .string ⟨#[]⟩, .int .i64 ((place d.cs d.i).1 : Int), .int .i64 ((place d.cs d.i).2 : Int), .bool false] (by rfl) (by rfl) (World.news_of_block (cs := #[.int .i64 1, .string ⟨(narrow nm).toArray⟩, Value.slice ava l.length avc, .string ⟨#[]⟩, .int .i64 ((place d.cs d.i).1 : Int), .int .i64 ((place d.cs d.i).2 : Int), .bool false]) (t := 60) (fr := (0, 0)) (heap_alloc_new w9.drew _)) (by simp [Value.oneCell']) (by omega) (by unfold maxLen; omega) (by omega) (Nat.zero_le _) (w9.heap.size + 1) (by simp) ?_; intro gg cap w11 hown11 hgrow hat hlt11; have K11 := (hgrow.block p.s (Nat.lt_of_lt_of_le hps9 P10.size) htvs).trans (ps9 ▸ (h9.pur P9d).own); have q7 := bk_cell K11 2 _ rfl; have q8 := bk_free K11 2)
    all_goals
      have h10 := h9.pur P9d
      have B12 := bk_set K11 2 (.slice (some ⟨gg, 0, none⟩) (d.flushed.length + 1) cap)
      have hs1 : (w9.drew.alloc (.cells #[.int .i64 1, .string ⟨(narrow nm).toArray⟩, Value.slice ava l.length avc, .string ⟨#[]⟩, .int .i64 ((place d.cs d.i).1 : Int), .int .i64 ((place d.cs d.i).2 : Int), .bool false] 60)).heap.size = w9.heap.size + 1 := Array.size_push _
      have hC : Chg (p9.s :: p9.tv.ownBlock.toList) (w9.drew.alloc (.cells #[.int .i64 1, .string ⟨(narrow nm).toArray⟩, Value.slice ava l.length avc, .string ⟨#[]⟩, .int .i64 ((place d.cs d.i).1 : Int), .int .i64 ((place d.cs d.i).2 : Int), .bool false] 60)) (w11.setCell ⟨p.s, 2, none⟩ (.slice (some ⟨gg, 0, none⟩) (d.flushed.length + 1) cap)) := ((Chg.refl _ _).grown hgrow (fun b hb => .inl (by simp [hb]))).setCell (.inl (by simp [ps9])) _
      have hgs : gg ≠ p.s := fun e => by
        rcases hat with hat | hat
        · exact htvs (by rw [← e]; exact hat.symm)
        · have h2 := bk_lt h9.own; rw [ps9] at h2; omega
      have hrow := row_set hown11 (a := ⟨p.s, 2, none⟩) (fun e => hgs (by simpa [Value.ownBlock] using e)) (.slice (some ⟨gg, 0, none⟩) (d.flushed.length + 1) cap)
      have hav12 : (w11.setCell ⟨p.s, 2, none⟩ (.slice (some ⟨gg, 0, none⟩) (d.flushed.length + 1) cap)).ownsRow 0 156 4 (Value.slice ava l.length avc) ((l.map (Attr.fin d.cs))).length (((l.map (Attr.fin d.cs))).flatMap AttrV.cells) := row_chg (row_pur hav9 P9d) hC (fun g hg hm => by
        have h1 := hava9 g hg
        refine h1 ?_
        unfold Pl.all Pl.rows
        rcases List.mem_cons.1 hm with rfl | hm
        · simp
        · simp only [List.mem_cons, List.mem_append]
          exact .inr (.inl hm))
      obtain ⟨g1, g2⟩ := h10.sett (.slice (some ⟨gg, 0, none⟩) (d.flushed.length + 1) cap) (Value.slice ava l.length avc) ⟨1, narrow nm, (l.map (Attr.fin d.cs)), [], place d.cs d.i, false⟩ hC (by rw [ps9]; simpa using B12) hrow (by
        rcases hat with hat | hat
        · exact .inl hat.symm
        · refine .inr ⟨gg, rfl, by omega, fun e => ?_⟩
          have := (hav9.lt gg e).2
          omega) hav12 hava9 w p (S9.pur P9d) (fun g hg => (hav2 g hg).2.2)
      clear hC hrow hav12 h10
      go_wp2
      refine bodyPost_end (results_none rfl _ _ _) rfl ?_
      rw [HC.out]
      refine ⟨rfl, _, i8, a8.out, by omega, d8, ?_, g2⟩
      have hfin : (⟨1, nm, l, [], d.rest.length, false⟩ : Tok).fin d.cs = ⟨1, narrow nm, (l.map (Attr.fin d.cs)), [], place d.cs d.i, false⟩ := by
        simp only [Tok.fin]
        rw [rest_len, show d.cs.length - (d.cs.length - d.i) = d.i by omega]
        rfl
      rw [hfin]
      exact g1
  · rw [h47] at HC hpk2
    simp only [if_true] at HC
    have hj : iA < d.cs.length := by
      rcases Nat.lt_or_ge iA d.cs.length with g | g
      · exact g
      · rw [List.drop_of_length_le g] at h47; cases h47
    have wA' : IntKind.i64.wrap ((iA : Int) + 1) = (iA : Int) + 1 := IntWalk.i64_in _ (by omega)
    rw [List.drop_drop] at HC
    clear AA h7 h7b G7 G7b K7 K7b x7 f7 hA GA KA hvA h4 G4 K4 h47
    go_wp2_with fail
    refine PK.mono ?_
    rintro e wU ⟨rfl, pU⟩
    have hU := hB.pur pU
    have GU := GB.pur pU
    have KU := bk_pur KB pU
    have cU := hU.c1
    have fU := hU.f 1
    simp only at cU
    have hV := hU.seti (iA + 1) ((iA : Int) + 1) (by omega)
    have GV := GU.setCell (a := ⟨p.s, 1, none⟩) (.inl (by simp)) (.int .i64 ((iA : Int) + 1))
    have KV := bk_other KU (a := ⟨p.s, 1, none⟩) (Ne.symm hps) (.int .i64 ((iA : Int) + 1))
    have hvV := row_set (row_pur hvB pU) (a := ⟨p.s, 1, none⟩) (fun e => avall _ e (by simp [Pl.all])) (.int .i64 ((iA : Int) + 1))
    have xV := bk_cell KV 6 _ rfl
    have fV := bk_free KV 6
    have hT := hV.set_other (a := ⟨LB, 6, none⟩) hLa (.bool true)
    have GT := GV.setCell (a := ⟨LB, 6, none⟩) (.inr hLw) (.bool true)
    have KT := bk_set KV 6 (.bool true)
    have hav0 := row_set hvV (a := ⟨LB, 6, none⟩) (fun e => Nat.lt_irrefl _ (avlow _ e).1) (.bool true)
    have hav : ((wU.setCell ⟨p.s, 1, none⟩ (.int .i64 ((iA : Int) + 1))).setCell ⟨LB, 6, none⟩ (.bool true)).ownsRow 0 156 4 (.slice ava l.length avc) (l.map (Attr.fin d.cs)).length ((l.map (Attr.fin d.cs)).flatMap AttrV.cells) := by rw [hlm]; exact hav0
    clear hav0
    have dT : iA + 1 ≤ d.cs.length := hj
    clear PK xA fA hB GB KB hvB hv0 hU GU KU hV GV KV hvV
    have T8 := take_any hT dT 62
    simp only [Sd.rest] at T8
    rw [show (62 : UInt8).toNat = 62 from rfl] at T8
    rcases ht : takeC 62 (d.cs.drop (iA + 1)) with ⟨k8, n8⟩ | ⟨u8, r8⟩
    · rw [ht] at T8 HC
      simp only [and_error] at HC
      clear ht
      go_wp2_with fail
      refine T8.mono ?_
      intro e w8 hf
      obtain ⟨b, rfl, hf2⟩ := id hf
      go_wp2
      refine ⟨rfl, ?_⟩
      rw [HC.out]
      exact (Step.chg1 GT).flt1 hf
    rw [ht] at T8 HC
    simp only [and_ok] at HC
    clear ht
    go_wp2_with fail
    refine T8.mono ?_
    rintro e w8 ⟨rfl, i8, a8, b8, d8, h8, g8⟩
    simp only at a8 b8 d8 h8
    replace a8 := Lib.hid a8
    have K8 := bk_chg KT g8 (by simp; omega)
    have G8 := GT.trans g8
    have hav8 := row_chg hav g8 (fun g hg hm => by have := (hav2 g hg).1; simp only [List.mem_singleton] at hm; exact this (by rw [hm]; simp [Pl.all]))
    have FL := flush_any' h8 hb hl (Nat.le_trans hl2 (by decide))
    simp only [Sd.flushed] at FL
    rw [show (if d.text = [] then d.toks else d.toks ++ [(⟨3, [], [], narrow d.text, place d.cs d.began, false⟩ : TokV)]) = d.flushed from rfl] at FL
    clear T8
    go_wp2_with fail
    refine FL.mono ?_
    rintro e w9 ⟨rfl, p9, h9, s9⟩
    have ps9 : p9.s = p.s := s9.s
    have L8 : LB < w8.heap.size := bk_lt K8
    have K9 : w9.heap[LB]? = _ := (s9.chg.block LB L8 hLa).trans K8
    have hav9 := row_chg hav8 s9.chg (fun g hg hm => (hav2 g hg).1 hm)
    have hLa9 : LB ∉ p9.all := fun hm => (s9.new _ hm).elim hLa (fun hm => by omega)
    have hava9 : ∀ g, (Value.slice ava l.length avc).ownBlock = some g → g ∉ p9.all := fun g hg hm => (s9.new _ hm).elim (hav2 g hg).1 (fun hm => by have := (hav8.lt g hg).2; omega)
    have S9 := (Step.chg1 G8).trans s9
    have y0 := bk_cell K9 0 (.int .i64 1) rfl
    have y1 := bk_cell K9 1 (.string ⟨(narrow nm).toArray⟩) rfl
    have y2 := bk_cell K9 2 (Value.slice ava l.length avc) rfl
    have y3 := bk_cell K9 3 (.string ⟨#[]⟩) rfl
    have y4 := bk_cell K9 4 (.int .i64 ((place d.cs d.i).1 : Int)) rfl
    have y5 := bk_cell K9 5 (.int .i64 ((place d.cs d.i).2 : Int)) rfl
    have y6 := bk_cell K9 6 (.bool true) rfl
    have P10 : Pur w9 (w9.alloc (.cells #[.int .i64 1, .string ⟨(narrow nm).toArray⟩, Value.slice ava l.length avc, .string ⟨#[]⟩, .int .i64 ((place d.cs d.i).1 : Int), .int .i64 ((place d.cs d.i).2 : Int), .bool true] 60)) := (Pur.refl w9).alloc _
    have P9d : Pur w9 (w9.drew.alloc (.cells #[.int .i64 1, .string ⟨(narrow nm).toArray⟩, Value.slice ava l.length avc, .string ⟨#[]⟩, .int .i64 ((place d.cs d.i).1 : Int), .int .i64 ((place d.cs d.i).2 : Int), .bool true] 60)) := ((Pur.refl w9).drew).alloc _
    have q2 := h9.c2
    have q2' := (h9.pur P10).c2
    have q2'' := (h9.pur P9d).c2
    rw [ps9] at q2 q2' q2''
    have htvs : some p.s ≠ p9.tv.ownBlock := fun e => h9.ne (by rw [ps9]; simp [Pl.rows, ← e])
    have hps9 : p.s < w9.heap.size := ps9 ▸ bk_lt h9.own
    have htl : d.flushed.length ≤ 900001 := Nat.le_trans d.flushed_len (by omega)
    clear FL hav8 K8 h8 g8 hT 
    go_wp2
    go_region_law
      (refine step_append_lies _ (by rfl) _ _ _ (by rfl) 0 60 i0 z0 7 88 Tryz.underlying51 hi0 hz0 hz1 hz2 hzs (by omega) p9.tv d.flushed.length (tokCells p9.avs d.flushed) (by rfl) (h9.toks.drew.alloc _) ⟨w9.heap.size, 0, none⟩ 1 1 [.int .i64 1, .string ⟨(narrow nm).toArray⟩, Value.slice ava l.length avc, .string ⟨#[]⟩, .int .i64 ((place d.cs d.i).1 : Int), .int .i64 ((place d.cs d.i).2 : Int), .bool true] (by rfl) (by rfl) (World.news_of_block (cs := #[.int .i64 1, .string ⟨(narrow nm).toArray⟩, Value.slice ava l.length avc, .string ⟨#[]⟩, .int .i64 ((place d.cs d.i).1 : Int), .int .i64 ((place d.cs d.i).2 : Int), .bool true]) (t := 60) (fr := (0, 0)) (heap_alloc_new w9.drew _)) (by simp [Value.oneCell']) (by omega) (by unfold maxLen; omega) (by omega) (Nat.zero_le _) (w9.heap.size + 1) (by simp) ?_; intro gg cap w11 hown11 hgrow hat hlt11; have K11 := (hgrow.block p.s (Nat.lt_of_lt_of_le hps9 P10.size) htvs).trans (ps9 ▸ (h9.pur P9d).own); have q7 := bk_cell K11 2 _ rfl; have q8 := bk_free K11 2)
    all_goals
      have h10 := h9.pur P9d
      have B12 := bk_set K11 2 (.slice (some ⟨gg, 0, none⟩) (d.flushed.length + 1) cap)
      have hs1 : (w9.drew.alloc (.cells #[.int .i64 1, .string ⟨(narrow nm).toArray⟩, Value.slice ava l.length avc, .string ⟨#[]⟩, .int .i64 ((place d.cs d.i).1 : Int), .int .i64 ((place d.cs d.i).2 : Int), .bool true] 60)).heap.size = w9.heap.size + 1 := Array.size_push _
      have hC : Chg (p9.s :: p9.tv.ownBlock.toList) (w9.drew.alloc (.cells #[.int .i64 1, .string ⟨(narrow nm).toArray⟩, Value.slice ava l.length avc, .string ⟨#[]⟩, .int .i64 ((place d.cs d.i).1 : Int), .int .i64 ((place d.cs d.i).2 : Int), .bool true] 60)) (w11.setCell ⟨p.s, 2, none⟩ (.slice (some ⟨gg, 0, none⟩) (d.flushed.length + 1) cap)) := ((Chg.refl _ _).grown hgrow (fun b hb => .inl (by simp [hb]))).setCell (.inl (by simp [ps9])) _
      have hgs : gg ≠ p.s := fun e => by
        rcases hat with hat | hat
        · exact htvs (by rw [← e]; exact hat.symm)
        · have h2 := bk_lt h9.own; rw [ps9] at h2; omega
      have hrow := row_set hown11 (a := ⟨p.s, 2, none⟩) (fun e => hgs (by simpa [Value.ownBlock] using e)) (.slice (some ⟨gg, 0, none⟩) (d.flushed.length + 1) cap)
      have hav12 : (w11.setCell ⟨p.s, 2, none⟩ (.slice (some ⟨gg, 0, none⟩) (d.flushed.length + 1) cap)).ownsRow 0 156 4 (Value.slice ava l.length avc) ((l.map (Attr.fin d.cs))).length (((l.map (Attr.fin d.cs))).flatMap AttrV.cells) := row_chg (row_pur hav9 P9d) hC (fun g hg hm => by
        have h1 := hava9 g hg
        refine h1 ?_
        unfold Pl.all Pl.rows
        rcases List.mem_cons.1 hm with rfl | hm
        · simp
        · simp only [List.mem_cons, List.mem_append]
          exact .inr (.inl hm))
      obtain ⟨g1, g2⟩ := h10.sett (.slice (some ⟨gg, 0, none⟩) (d.flushed.length + 1) cap) (Value.slice ava l.length avc) ⟨1, narrow nm, (l.map (Attr.fin d.cs)), [], place d.cs d.i, true⟩ hC (by rw [ps9]; simpa using B12) hrow (by
        rcases hat with hat | hat
        · exact .inl hat.symm
        · refine .inr ⟨gg, rfl, by omega, fun e => ?_⟩
          have := (hav9.lt gg e).2
          omega) hav12 hava9 w p (S9.pur P9d) (fun g hg => (hav2 g hg).2.2)
      clear hC hrow hav12 h10
      go_wp2
      refine bodyPost_end (results_none rfl _ _ _) rfl ?_
      rw [HC.out]
      refine ⟨rfl, _, i8, a8.out, by omega, d8, ?_, g2⟩
      have hfin : (⟨1, nm, l, [], d.rest.length, true⟩ : Tok).fin d.cs = ⟨1, narrow nm, (l.map (Attr.fin d.cs)), [], place d.cs d.i, true⟩ := by
        simp only [Tok.fin]
        rw [rest_len, show d.cs.length - (d.cs.length - d.i) = d.i by omega]
        rfl
      rw [hfin]
      exact g1
end Tk
end Go.Proofs.YtigfcchblfnnbaaGreatDoor
