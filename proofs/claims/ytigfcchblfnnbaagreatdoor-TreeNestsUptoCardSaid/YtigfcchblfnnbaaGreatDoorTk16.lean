/- Layer 2: a document's characters (read). -/
import Derived.Test.YtigfcchblfnnbaaGreatDoorTk15
namespace Go.Proofs.YtigfcchblfnnbaaGreatDoor
open Go Go.RowKit
set_option linter.all false
namespace Tk
/-- the variables of Go's library that the layer reads, and what holds since a world: nothing of what lay there has turned, and the scanner lies behind it -/
structure Base (w0 : World) (p : Pl) (w : World) : Prop where
  tabs : Lib.Utf8Tabs 6 7 w0
  fold : FoldW w0
  pur : Pur w0 w
  low : ∀ b ∈ p.all, w0.heap.size ≤ b
theorem pur_chg {S : List Nat} {w0 w w' : World} (h : Pur w0 w) (hc : Chg S w w') (hs : ∀ b ∈ S, w0.heap.size ≤ b) : Pur w0 w' :=
  ⟨hc.os.trans h.os, hc.tape.trans h.tape, hc.output.trans h.output, Nat.le_trans h.size hc.size, fun k hk => (hc.block k (Nat.lt_of_lt_of_le hk h.size) (fun hm => by have := hs k hm; omega)).trans (h.block k hk)⟩
theorem Base.step {w0 : World} {p p' : Pl} {w w' : World} (h : Base w0 p w) (k : Step p w p' w') : Base w0 p' w' :=
  ⟨h.tabs, h.fold, pur_chg h.pur k.chg h.low, fun b hb => (k.new b hb).elim (h.low b) fun hm => Nat.le_trans h.pur.size hm⟩
theorem Base.foldw {w0 : World} {p : Pl} {w : World} (h : Base w0 p w) : FoldW w := h.fold.pur h.pur
theorem Base.foldg {w0 : World} {p : Pl} {w : World} (h : Base w0 p w) : 3 ∉ p.all := fun hm => by
  have h1 := h.low _ hm
  have h2 : 3 < w0.heap.size := by
    have := h.fold.cell (g := 3) (by kernel_rfl) 0 (by rw [foldTab_len]; decide)
    exact World.block_lt_of_cell? w0 _ this
  omega
theorem Base.utf {w0 : World} {p : Pl} {w : World} (h : Base w0 p w) : Lib.Utf8Tabs 6 7 w := Utf8Tabs_below h.tabs h.pur
/-- other characters, in another row perhaps -/
theorem At.setc {w w' : World} {p : Pl} {d : Sd} (h : At w p d) (v' : Value) (t : Cs) (hc : Chg (p.s :: p.cv.ownBlock.toList) w w')
    (hown : w'.heap[p.s]? = some (.cells #[v', .int .i64 (d.i : Int), p.tv, p.xv, .int .i64 (d.began : Int)] 87 (0, 0)))
    (hrow : w'.ownsRow 0 3 1 v' t.length (ints t)) (hl : t.length ≤ 65536) (hok : ∀ c ∈ t, allowed c = true) (hloc : v'.ownBlock = p.cv.ownBlock ∨ ∃ g, v'.ownBlock = some g ∧ w.heap.size ≤ g) :
    At w' { p with cv := v' } { d with cs := t } ∧ Step p w { p with cv := v' } w' := by
  have hap := h.apart
  have e : ∀ q : Pl, q.all = (q.s :: (q.tv.ownBlock.toList ++ q.xv.ownBlock.toList)) ++ (q.cv.ownBlock.toList ++ q.kept) := fun q => by simp [Pl.all, Pl.rows]
  have hn := nodup_swap (A := p.s :: (p.tv.ownBlock.toList ++ p.xv.ownBlock.toList)) (L := p.cv.ownBlock.toList) (L' := v'.ownBlock.toList) (M := p.kept) (by rw [← e p]; exact hap) (by
    rcases hloc with e1 | ⟨g, e1, hg⟩
    · exact .inr (.inl (by rw [e1]))
    · refine .inr (.inr ⟨g, by rw [e1]; rfl, fun hm => ?_⟩)
      have := h.lt g (by rw [e p]; exact hm)
      omega)
  have hap2 := hap
  rw [e p, List.nodup_append, List.nodup_append, List.nodup_cons, List.nodup_append] at hap2
  obtain ⟨⟨q1, q2, q3, q4⟩, ⟨q5, q6, q7⟩, q8⟩ := hap2
  simp only [List.mem_append, not_or] at q1
  have nin : ∀ g, (g ∈ p.tv.ownBlock.toList ∨ g ∈ p.xv.ownBlock.toList ∨ g ∈ p.kept) → g ∉ p.s :: p.cv.ownBlock.toList := by
    intro g hg hm
    rcases List.mem_cons.1 hm with rfl | hm
    · rcases hg with hg | hg | hg
      · exact q1.1 hg
      · exact q1.2 hg
      · exact q8 _ (List.mem_cons_self) _ (List.mem_append_right _ hg) rfl
    · rcases hg with hg | hg | hg
      · exact q8 g (by simp only [List.mem_cons, List.mem_append]; exact .inr (.inl hg)) g (List.mem_append_left _ hm) rfl
      · exact q8 g (by simp only [List.mem_cons, List.mem_append]; exact .inr (.inr hg)) g (List.mem_append_left _ hm) rfl
      · exact q7 g hm g hg rfl
  refine ⟨⟨hown, hrow, row_chg h.text hc fun g hg => nin g (.inr (.inl (by simp [hg]))), row_chg h.toks hc fun g hg => nin g (.inl (by simp [hg])), h.len, fun j v t hv ht => row_chg (h.attrs j v t hv ht) hc fun g hg => nin g (.inr (.inr (List.mem_flatMap.2 ⟨v, List.mem_of_getElem? hv, by simp [hg]⟩))), by rw [e]; exact hn, hl, hok, h.okt⟩, rfl, ?_, ?_⟩
  · refine hc.mono fun b hb => .inl ?_
    rw [e]
    rcases List.mem_cons.1 hb with rfl | hb
    · simp
    · simp only [List.mem_cons, List.mem_append]
      exact .inr (.inl hb)
  · intro g hg
    rw [e] at hg ⊢
    simp only [List.mem_cons, List.mem_append] at hg ⊢
    rcases hg with hg | hg | hg
    · exact .inl (.inl hg)
    · rcases hloc with e1 | ⟨g', e1, hg'⟩
      · rw [e1] at hg; exact .inl (.inr (.inl hg))
      · rw [e1] at hg; simp at hg; subst hg; exact .inr hg'
    · exact .inl (.inr (.inr hg))
theorem chr13 (l : List UInt8) (i : Nat) : (chr l i).1 = 13 → (chr l i).2 ≠ 0 → (chr l i).2 = 1 := by
  intro h hn
  have hN : ∀ n c low, 128 ≤ low → (chrN l i n c low).2 ≠ 0 → 128 ≤ (chrN l i n c low).1 := fun n c low hl hn => by
    unfold chrN at hn ⊢
    split
    · rename_i hh; have := hh.2.2.1; simp only; omega
    · rename_i hh; rw [if_neg hh] at hn; exact absurd rfl hn
  unfold chr at h hn ⊢
  by_cases c0 : l.length ≤ i
  · rw [if_pos c0] at hn; exact absurd rfl hn
  rw [if_neg c0] at h hn ⊢
  by_cases c1 : by8 l i < 128
  · rw [if_pos c1]
  rw [if_neg c1] at h hn ⊢
  by_cases c2 : 192 ≤ by8 l i ∧ by8 l i < 224
  · rw [if_pos c2] at h hn; have := hN _ _ _ (by omega) hn; omega
  rw [if_neg c2] at h hn ⊢
  by_cases c3 : 224 ≤ by8 l i ∧ by8 l i < 240
  · rw [if_pos c3] at h hn; have := hN _ _ _ (by omega) hn; omega
  rw [if_neg c3] at h hn ⊢
  by_cases c4 : 240 ≤ by8 l i ∧ by8 l i < 248
  · rw [if_pos c4] at h hn; have := hN _ _ _ (by omega) hn; omega
  rw [if_neg c4] at hn
  exact absurd rfl hn
theorem int_info1 : (Tryz.prog.info? 3).map (fun i => (i.zero.map (·.cells.size), i.size, i.bytes)) = some (some 1, 1, 8) := by kernel_rfl
/-- how 'read' ends -/
def Reads (p : Pl) (w : World) (l : List UInt8) (e : Ending) (w' : World) : Prop :=
  if 65536 < l.length then Flt p.all w [] 0 2 e w'
  else if (read l).2 = 0 then e = .returned (.tuple #[]) ∧ ∃ p', At w' p' ⟨(read l).1, 0, [], [], 0⟩ ∧ Step p w p' w'
  else Flt p.all w (read l).1 (read l).1.length (read l).2 e w'
set_option maxRecDepth 100000 in
set_option maxHeartbeats 16000000 in
theorem read_any (l : List UInt8) {w0 w : World} {p : Pl} (h : At w p ⟨[], 0, [], [], 0⟩) (hB : Base w0 p w) : Calls Tryz.prog 43 #[.pointer (some ⟨p.s, 0, none⟩), .string ⟨l.toArray⟩] w fun e w' => Reads p w l e w' := by
  by_cases hlong : 65536 < l.length
  · have d1 : decide ((65536 : Int) < (l.length : Int)) = true := by simp; omega
    have FL := fail_any h p.all 0 2 (by omega)
    have HR := Lib.hid (show ∀ e w', Reads p w l e w' = Flt p.all w [] 0 2 e w' from fun e w' => by unfold Reads; rw [if_pos hlong])
    clear hlong
    go_enter Tryz.func43, Tryz.ntmps43
    go_wp2_with fail
    refine FL.mono ?_
    intro e w6 hf
    obtain ⟨b, rfl, hf2⟩ := id hf
    go_wp2
    refine ⟨rfl, ?_⟩
    show Reads p w l _ _
    rw [HR.out]
    exact hf
  have d1 : decide ((65536 : Int) < (l.length : Int)) = false := by simp; omega
  have HR := Lib.hid (show ∀ e w', Reads p w l e w' = if (read l).2 = 0 then e = .returned (.tuple #[]) ∧ ∃ p', At w' p' ⟨(read l).1, 0, [], [], 0⟩ ∧ Step p w p' w' else Flt p.all w (read l).1 (read l).1.length (read l).2 e w' from fun e w' => by unfold Reads; rw [if_neg hlong])
  have hll : l.length ≤ 65536 := by omega
  clear hlong
  go_enter Tryz.func43, Tryz.ntmps43
  go_wp2
  go_loopw [4] (fun v wr => ∃ (p' : Pl) (i f : Nat) (acc : Cs), v = .int .i64 i ∧ p'.s = p.s ∧ i ≤ l.length ∧ l.length < i + f ∧ At wr p' ⟨acc, 0, [], [], 0⟩ ∧ Step p w p' wr ∧ acc.length ≤ i ∧ Hid (read l = (acc ++ (readGo l f i).1, (readGo l f i).2))) (fun v _ => l.length + 1 - (intOf v).toNat)
  case atStart => exact ⟨p, 0, l.length + 1, [], rfl, rfl, by omega, by omega, h, Step.refl _ _, by simp, Lib.hid rfl⟩
  case round =>
    obtain ⟨p', i, f, acc, rfl, ps, i1, i2, k3, k4, hal, H⟩ := hrel
    obtain ⟨f, rfl⟩ : ∃ g, f = g + 1 := ⟨f - 1, by omega⟩
    have hBw := hB.step k4
    by_cases hlt : i < l.length
    · have hlt' : (i : Int) < (l.length : Int) := by omega
      have NX := next_in l i wr hBw.utf hlt
      have hcb := chr_bd l i
      have hce := chr_end l i
      have hgo := readGo.eq_2 l i f
      rw [if_pos hlt] at hgo
      have ha13 := chr13 l i
      generalize hch : (chr l i).1 = c at *
      generalize hcn : (chr l i).2 = m at *
      by_cases hm : m = 0
      · subst hm
        rw [if_pos rfl] at hgo
        have HS := Lib.hid (show read l = (acc, 10) by rw [H.out, hgo]; simp)
        have dm : decide (0 < 0) = false := rfl
        clear H hgo hch hcn ha13
        go_wp2_with fail
        refine NX.mono ?_
        rintro e w4 ⟨rfl, hp4⟩
        have k5 := k3.pur hp4
        have c0 := k5.c0
        obtain ⟨ca, cc, hcv⟩ := row_shape k5.chars
        rw [hcv, ps] at c0
        have FL := fail_any k5 p'.all acc.length 10 (by omega)
        rw [ps] at FL
        simp only at c0 FL
        go_wp2_with fail
        refine FL.mono ?_
        intro e w6 hf
        obtain ⟨b, rfl, hf2⟩ := id hf
        go_wp2
        refine ⟨rfl, ?_⟩
        show Reads p w l _ _
        rw [HR.out, HS.out, if_neg (by simp)]
        exact (k4.pur hp4).flt hf
      rw [if_neg hm] at hgo
      have dm : decide (0 < m) = true := by simp; omega
      have him : i + m ≤ l.length := hce hm
      have w1' : IntKind.i64.wrap ((i : Int) + (m : Int)) = (i : Int) + (m : Int) := IntWalk.i64_in _ (by omega)
      by_cases h13 : c = 13
      · have hm1 := ha13 h13 hm
        subst h13 hm1
        rw [if_pos rfl] at hgo
        have d13 : (((13 : Nat) : Int) == 13) = true := rfl
        have w2' : IntKind.i64.wrap ((i : Int) + 1) = (i : Int) + 1 := IntWalk.i64_in _ (by omega)
        have w3' : IntKind.i64.wrap ((i : Int) + 2) = (i : Int) + 2 := IntWalk.i64_in _ (by omega)
        have AL := fun w => allowed_any 10 w (by omega)
        have on10 : on allowed 10 = true := by decide
        rw [on10] at AL
        have b8l := by8_lt l (i + 1)
        by_cases h10 : i + 1 < l.length ∧ by8 l (i + 1) = 10
        · obtain ⟨hl1, hb10⟩ := h10
          have HS := Lib.hid (show read l = ((acc ++ [10]) ++ (readGo l f (i + 2)).1, (readGo l f (i + 2)).2) by rw [H.out, hgo, if_pos hb10]; simp)
          have e1 : decide ((i : Int) + 1 < (l.length : Int)) = true := by simp; omega
          have e1' : (i : Int) + 1 < (l.length : Int) := by omega
          have e2 : (0 : Int) ≤ (i : Int) + 1 := by omega
          have e3 : ((i : Int) + 1).toNat = i + 1 := by omega
          have e4 : i + 1 < l.length := hl1
          have e5 : ((by8 l (i + 1) : Int) == 10) = true := by rw [hb10]; rfl
          clear H hgo hch hcn ha13 hce hcb
          go_wp2_with fail
          refine NX.mono ?_
          rintro e w4 ⟨rfl, hpQ⟩
          go_wp2_with fail
          refine (AL _).mono ?_
          rintro e w5 ⟨rfl, rfl⟩
          have k5 := k3.pur hpQ
          have c0 := k5.c0
          have f0 := k5.f 0
          obtain ⟨ca, cc, hcv⟩ := row_shape k5.chars
          have hcR := k5.chars
          have hsx : p'.cv.ownBlock ≠ some p.s := fun e => k5.ne (by rw [ps]; simp [Pl.rows, e])
          rw [hcv, ps] at c0
          rw [ps] at f0
          rw [hcv] at hcR hsx
          go_wp2_with (at_builtin; refine append_new w4 rfl _ _ 85 3 1 8 int_info1 Tryz.underlying85 (by decide) (by decide) (by rfl) 0 _ acc.length _ _ _ [.int .i64 10] rfl ?c1 (by rfl) w4.heap.size rfl (by rfl) hcR (by omega) (Nat.zero_le _) ?_)
          case c1 => intro u hu; simp at hu; subst hu; rfl
          intro v7 w7 hown7 hg7 hloc7
          have K7 := (hg7.block p'.s (Nat.lt_of_lt_of_le (bk_lt k5.own) ((Pur.refl w4).alloc _).size) (fun e => hsx (by rw [← ps]; exact e.symm))).trans (k5.pur ((Pur.refl w4).alloc (.cells #[.int .i64 10] 3))).own
          rw [ps] at K7
          have q7 := bk_cell K7 0 _ rfl
          have q8 := bk_free K7 0
          obtain ⟨va, vc, hv7⟩ := row_shape hown7
          subst hv7
          have B8 := bk_set K7 0 (.slice va (acc.length + 1) vc)
          have k6 := k5.pur ((Pur.refl w4).alloc (.cells #[.int .i64 10] 3))
          have hs1 : (w4.alloc (.cells #[.int .i64 10] 3)).heap.size = w4.heap.size + 1 := Array.size_push _
          have hC : Chg (p'.s :: p'.cv.ownBlock.toList) (w4.alloc (.cells #[.int .i64 10] 3)) (w7.setCell ⟨p.s, 0, none⟩ (.slice va (acc.length + 1) vc)) := ((Chg.refl _ _).grown hg7 (fun b hb => .inl (by rw [← hcv] at hb; simp [hb]))).setCell (.inl (by simp [ps])) _
          have hrow := row_set hown7 (a := ⟨p.s, 0, none⟩) (fun e => by
            rcases hloc7 with h | h
            · exact hsx (h.symm.trans e)
            · rw [h] at e; have := bk_lt k5.own; rw [ps] at this; simp only [Option.some.injEq] at e; omega) (.slice va (acc.length + 1) vc)
          obtain ⟨g1, g2⟩ := k6.setc (.slice va (acc.length + 1) vc) (acc ++ [10]) hC (by rw [ps]; simpa using B8) (by rw [List.length_append, ints_append, show ints [10] = [.int .i64 10] from rfl]; exact hrow) (by simp; omega) (fun x hx => (List.mem_append.1 hx).elim (k3.okcs x) (fun hx => by simp at hx; subst hx; exact (by decide))) (by
            rcases hloc7 with h | h
            · exact .inl (by rw [hcv]; exact h)
            · exact .inr ⟨_, h, by omega⟩)
          have G := ((k4.pur hpQ).pur ((Pur.refl w4).alloc (.cells #[.int .i64 10] 3))).trans g2
          clear hC hrow k6 NX
          go_wp2
          go_roundw
          case rel => exact ⟨{ p' with cv := .slice va (acc.length + 1) vc }, i + 2, f, acc ++ [10], by go_num, ps, by omega, by omega, g1, G, by simp; omega, HS⟩
          case measure => simp [intOf]; omega
        · have HS := Lib.hid (show read l = ((acc ++ [10]) ++ (readGo l f (i + 1)).1, (readGo l f (i + 1)).2) by
            rw [H.out, hgo, if_neg (fun hb => ?_)]
            · simp
            · rcases Nat.lt_or_ge (i + 1) l.length with g | g
              · exact h10 ⟨g, hb⟩
              · rw [by8_ge l (i + 1) g] at hb; cases hb)
          obtain ⟨be, he⟩ : ∃ b, decide ((i : Int) + 1 < (l.length : Int)) = b := ⟨_, rfl⟩
          rcases be with _ | _
          · have e1' : ¬ (i : Int) + 1 < (l.length : Int) := by simpa using he
            have e4 : ¬ i + 1 < l.length := by omega
            clear H hgo hch hcn ha13 hce hcb h10
            go_wp2_with fail
            refine NX.mono ?_
            rintro e w4 ⟨rfl, hpQ⟩
            go_wp2_with fail
            refine (AL _).mono ?_
            rintro e w5 ⟨rfl, rfl⟩
            have k5 := k3.pur hpQ
            have c0 := k5.c0
            have f0 := k5.f 0
            obtain ⟨ca, cc, hcv⟩ := row_shape k5.chars
            have hcR := k5.chars
            have hsx : p'.cv.ownBlock ≠ some p.s := fun e => k5.ne (by rw [ps]; simp [Pl.rows, e])
            rw [hcv, ps] at c0
            rw [ps] at f0
            rw [hcv] at hcR hsx
            go_wp2_with (at_builtin; refine append_new w4 rfl _ _ 85 3 1 8 int_info1 Tryz.underlying85 (by decide) (by decide) (by rfl) 0 _ acc.length _ _ _ [.int .i64 10] rfl ?c1 (by rfl) w4.heap.size rfl (by rfl) hcR (by omega) (Nat.zero_le _) ?_)
            case c1 => intro u hu; simp at hu; subst hu; rfl
            intro v7 w7 hown7 hg7 hloc7
            have K7 := (hg7.block p'.s (Nat.lt_of_lt_of_le (bk_lt k5.own) ((Pur.refl w4).alloc _).size) (fun e => hsx (by rw [← ps]; exact e.symm))).trans (k5.pur ((Pur.refl w4).alloc (.cells #[.int .i64 10] 3))).own
            rw [ps] at K7
            have q7 := bk_cell K7 0 _ rfl
            have q8 := bk_free K7 0
            obtain ⟨va, vc, hv7⟩ := row_shape hown7
            subst hv7
            have B8 := bk_set K7 0 (.slice va (acc.length + 1) vc)
            have k6 := k5.pur ((Pur.refl w4).alloc (.cells #[.int .i64 10] 3))
            have hs1 : (w4.alloc (.cells #[.int .i64 10] 3)).heap.size = w4.heap.size + 1 := Array.size_push _
            have hC : Chg (p'.s :: p'.cv.ownBlock.toList) (w4.alloc (.cells #[.int .i64 10] 3)) (w7.setCell ⟨p.s, 0, none⟩ (.slice va (acc.length + 1) vc)) := ((Chg.refl _ _).grown hg7 (fun b hb => .inl (by rw [← hcv] at hb; simp [hb]))).setCell (.inl (by simp [ps])) _
            have hrow := row_set hown7 (a := ⟨p.s, 0, none⟩) (fun e => by
              rcases hloc7 with h | h
              · exact hsx (h.symm.trans e)
              · rw [h] at e; have := bk_lt k5.own; rw [ps] at this; simp only [Option.some.injEq] at e; omega) (.slice va (acc.length + 1) vc)
            obtain ⟨g1, g2⟩ := k6.setc (.slice va (acc.length + 1) vc) (acc ++ [10]) hC (by rw [ps]; simpa using B8) (by rw [List.length_append, ints_append, show ints [10] = [.int .i64 10] from rfl]; exact hrow) (by simp; omega) (fun x hx => (List.mem_append.1 hx).elim (k3.okcs x) (fun hx => by simp at hx; subst hx; exact (by decide))) (by
              rcases hloc7 with h | h
              · exact .inl (by rw [hcv]; exact h)
              · exact .inr ⟨_, h, by omega⟩)
            have G := ((k4.pur hpQ).pur ((Pur.refl w4).alloc (.cells #[.int .i64 10] 3))).trans g2
            clear hC hrow k6 NX
            go_wp2
            go_roundw
            case rel => exact ⟨{ p' with cv := .slice va (acc.length + 1) vc }, i + 1, f, acc ++ [10], by go_num, ps, by omega, by omega, g1, G, by simp; omega, HS⟩
            case measure => simp [intOf]; omega
          · have e1' : (i : Int) + 1 < (l.length : Int) := by simpa using he
            have e4 : i + 1 < l.length := by omega
            have e2 : (0 : Int) ≤ (i : Int) + 1 := by omega
            have e3 : ((i : Int) + 1).toNat = i + 1 := by omega
            have e5 : ((by8 l (i + 1) : Int) == 10) = false := by rw [beq_eq_false_iff_ne]; intro hb; exact h10 ⟨e4, by omega⟩
            clear H hgo hch hcn ha13 hce hcb h10
            go_wp2_with fail
            refine NX.mono ?_
            rintro e w4 ⟨rfl, hpQ⟩
            go_wp2_with fail
            refine (AL _).mono ?_
            rintro e w5 ⟨rfl, rfl⟩
            have k5 := k3.pur hpQ
            have c0 := k5.c0
            have f0 := k5.f 0
            obtain ⟨ca, cc, hcv⟩ := row_shape k5.chars
            have hcR := k5.chars
            have hsx : p'.cv.ownBlock ≠ some p.s := fun e => k5.ne (by rw [ps]; simp [Pl.rows, e])
            rw [hcv, ps] at c0
            rw [ps] at f0
            rw [hcv] at hcR hsx
            go_wp2_with (at_builtin; refine append_new w4 rfl _ _ 85 3 1 8 int_info1 Tryz.underlying85 (by decide) (by decide) (by rfl) 0 _ acc.length _ _ _ [.int .i64 10] rfl ?c1 (by rfl) w4.heap.size rfl (by rfl) hcR (by omega) (Nat.zero_le _) ?_)
            case c1 => intro u hu; simp at hu; subst hu; rfl
            intro v7 w7 hown7 hg7 hloc7
            have K7 := (hg7.block p'.s (Nat.lt_of_lt_of_le (bk_lt k5.own) ((Pur.refl w4).alloc _).size) (fun e => hsx (by rw [← ps]; exact e.symm))).trans (k5.pur ((Pur.refl w4).alloc (.cells #[.int .i64 10] 3))).own
            rw [ps] at K7
            have q7 := bk_cell K7 0 _ rfl
            have q8 := bk_free K7 0
            obtain ⟨va, vc, hv7⟩ := row_shape hown7
            subst hv7
            have B8 := bk_set K7 0 (.slice va (acc.length + 1) vc)
            have k6 := k5.pur ((Pur.refl w4).alloc (.cells #[.int .i64 10] 3))
            have hs1 : (w4.alloc (.cells #[.int .i64 10] 3)).heap.size = w4.heap.size + 1 := Array.size_push _
            have hC : Chg (p'.s :: p'.cv.ownBlock.toList) (w4.alloc (.cells #[.int .i64 10] 3)) (w7.setCell ⟨p.s, 0, none⟩ (.slice va (acc.length + 1) vc)) := ((Chg.refl _ _).grown hg7 (fun b hb => .inl (by rw [← hcv] at hb; simp [hb]))).setCell (.inl (by simp [ps])) _
            have hrow := row_set hown7 (a := ⟨p.s, 0, none⟩) (fun e => by
              rcases hloc7 with h | h
              · exact hsx (h.symm.trans e)
              · rw [h] at e; have := bk_lt k5.own; rw [ps] at this; simp only [Option.some.injEq] at e; omega) (.slice va (acc.length + 1) vc)
            obtain ⟨g1, g2⟩ := k6.setc (.slice va (acc.length + 1) vc) (acc ++ [10]) hC (by rw [ps]; simpa using B8) (by rw [List.length_append, ints_append, show ints [10] = [.int .i64 10] from rfl]; exact hrow) (by simp; omega) (fun x hx => (List.mem_append.1 hx).elim (k3.okcs x) (fun hx => by simp at hx; subst hx; exact (by decide))) (by
              rcases hloc7 with h | h
              · exact .inl (by rw [hcv]; exact h)
              · exact .inr ⟨_, h, by omega⟩)
            have G := ((k4.pur hpQ).pur ((Pur.refl w4).alloc (.cells #[.int .i64 10] 3))).trans g2
            clear hC hrow k6 NX
            go_wp2
            go_roundw
            case rel => exact ⟨{ p' with cv := .slice va (acc.length + 1) vc }, i + 1, f, acc ++ [10], by go_num, ps, by omega, by omega, g1, G, by simp; omega, HS⟩
            case measure => simp [intOf]; omega
      · rw [if_neg h13] at hgo
        have d13 : ((c : Int) == 13) = false := by rw [beq_eq_false_iff_ne]; omega
        have AL := fun w => allowed_any (c : Int) w (by omega)
        have hon : on allowed (c : Int) = allowed c := by simp [on]
        rw [hon] at AL
        rcases hal2 : allowed c with _ | _
        · rw [hal2] at AL hgo
          simp only [Bool.false_eq_true, if_false] at hgo
          have HS := Lib.hid (show read l = (acc, 20) by rw [H.out, hgo]; simp)
          clear H hgo hch hcn ha13 hce hcb hal2
          go_wp2_with fail
          refine NX.mono ?_
          rintro e w4 ⟨rfl, hp4⟩
          go_wp2_with fail
          refine (AL _).mono ?_
          rintro e w5 ⟨rfl, rfl⟩
          have k5 := k3.pur hp4
          have c0 := k5.c0
          obtain ⟨ca, cc, hcv⟩ := row_shape k5.chars
          rw [hcv, ps] at c0
          have FL := fail_any k5 p'.all acc.length 20 (by omega)
          rw [ps] at FL
          simp only at c0 FL
          go_wp2_with fail
          refine FL.mono ?_
          intro e w6 hf
          obtain ⟨b, rfl, hf2⟩ := id hf
          go_wp2
          refine ⟨rfl, ?_⟩
          show Reads p w l _ _
          rw [HR.out, HS.out, if_neg (by simp)]
          exact (k4.pur hp4).flt hf
        · rw [hal2] at AL hgo
          simp only [if_true] at hgo
          have HS := Lib.hid (show read l = ((acc ++ [c]) ++ (readGo l f (i + m)).1, (readGo l f (i + m)).2) by rw [H.out, hgo]; simp)
          clear H hgo hch hcn ha13 hce hcb
          go_wp2_with fail
          refine NX.mono ?_
          rintro e w4 ⟨rfl, hpQ⟩
          go_wp2_with fail
          refine (AL _).mono ?_
          rintro e w5 ⟨rfl, rfl⟩
          have k5 := k3.pur hpQ
          have c0 := k5.c0
          have f0 := k5.f 0
          obtain ⟨ca, cc, hcv⟩ := row_shape k5.chars
          have hcR := k5.chars
          have hsx : p'.cv.ownBlock ≠ some p.s := fun e => k5.ne (by rw [ps]; simp [Pl.rows, e])
          rw [hcv, ps] at c0
          rw [ps] at f0
          rw [hcv] at hcR hsx
          go_wp2_with (at_builtin; refine append_new w4 rfl _ _ 85 3 1 8 int_info1 Tryz.underlying85 (by decide) (by decide) (by rfl) 0 _ acc.length _ _ _ [.int .i64 (c : Int)] rfl ?c1 (by rfl) w4.heap.size rfl (by rfl) hcR (by omega) (Nat.zero_le _) ?_)
          case c1 => intro u hu; simp at hu; subst hu; rfl
          intro v7 w7 hown7 hg7 hloc7
          have K7 := (hg7.block p'.s (Nat.lt_of_lt_of_le (bk_lt k5.own) ((Pur.refl w4).alloc _).size) (fun e => hsx (by rw [← ps]; exact e.symm))).trans (k5.pur ((Pur.refl w4).alloc (.cells #[.int .i64 (c : Int)] 3))).own
          rw [ps] at K7
          have q7 := bk_cell K7 0 _ rfl
          have q8 := bk_free K7 0
          obtain ⟨va, vc, hv7⟩ := row_shape hown7
          subst hv7
          have B8 := bk_set K7 0 (.slice va (acc.length + 1) vc)
          have k6 := k5.pur ((Pur.refl w4).alloc (.cells #[.int .i64 (c : Int)] 3))
          have hs1 : (w4.alloc (.cells #[.int .i64 (c : Int)] 3)).heap.size = w4.heap.size + 1 := Array.size_push _
          have hC : Chg (p'.s :: p'.cv.ownBlock.toList) (w4.alloc (.cells #[.int .i64 (c : Int)] 3)) (w7.setCell ⟨p.s, 0, none⟩ (.slice va (acc.length + 1) vc)) := ((Chg.refl _ _).grown hg7 (fun b hb => .inl (by rw [← hcv] at hb; simp [hb]))).setCell (.inl (by simp [ps])) _
          have hrow := row_set hown7 (a := ⟨p.s, 0, none⟩) (fun e => by
            rcases hloc7 with h | h
            · exact hsx (h.symm.trans e)
            · rw [h] at e; have := bk_lt k5.own; rw [ps] at this; simp only [Option.some.injEq] at e; omega) (.slice va (acc.length + 1) vc)
          obtain ⟨g1, g2⟩ := k6.setc (.slice va (acc.length + 1) vc) (acc ++ [c]) hC (by rw [ps]; simpa using B8) (by rw [List.length_append, ints_append, show ints [c] = [.int .i64 (c : Int)] from rfl]; exact hrow) (by simp; omega) (fun x hx => (List.mem_append.1 hx).elim (k3.okcs x) (fun hx => by simp at hx; subst hx; exact hal2)) (by
            rcases hloc7 with h | h
            · exact .inl (by rw [hcv]; exact h)
            · exact .inr ⟨_, h, by omega⟩)
          have G := ((k4.pur hpQ).pur ((Pur.refl w4).alloc (.cells #[.int .i64 (c : Int)] 3))).trans g2
          clear hC hrow k6 NX
          go_wp2
          go_roundw
          case rel => exact ⟨{ p' with cv := .slice va (acc.length + 1) vc }, i + m, f, acc ++ [c], by go_num, ps, by omega, by omega, g1, G, by simp; omega, HS⟩
          case measure => simp [intOf]; omega
    · have hgo := readGo.eq_2 l i f
      rw [if_neg hlt] at hgo
      have HS := Lib.hid (show read l = (acc, 0) by rw [H.out, hgo]; simp)
      have hlt' : ¬ (i : Int) < (l.length : Int) := by omega
      clear H hgo
      go_wp2
      refine bodyPost_end (results_none rfl _ _ _) rfl ?_
      show Reads p w l _ _
      rw [HR.out, HS.out, if_pos rfl]
      exact ⟨rfl, p', k3, k4⟩
end Tk
end Go.Proofs.YtigfcchblfnnbaaGreatDoor
