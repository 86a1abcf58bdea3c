/- Layer 2: where a scanner lies, and its smallest functions. -/
import Derived.Test.YtaknfofppknloaaGreatDoorChecked
import Derived.Test.YtaknfofppknloaaGreatDoorBlk
import Derived.Test.YtaknfofppknloaaGreatDoorTkPure
namespace Go.Proofs.YtaknfofppknloaaGreatDoor
open Go Go.RowKit
set_option linter.all false
namespace Tk
def ints (cs : Cs) : List Value := cs.map fun (c : Nat) => Value.int .i64 (c : Int)
theorem ints_length (cs : Cs) : (ints cs).length = cs.length := by simp [ints]
theorem ints_append (a b : Cs) : ints (a ++ b) = ints a ++ ints b := by simp [ints]
def AttrV.cells (a : AttrV) : List Value := [.string ⟨a.nm.toArray⟩, .string ⟨a.val.toArray⟩, .int .i64 (a.at_.1 : Int), .int .i64 (a.at_.2 : Int)]
def TokV.cells (av : Value) (t : TokV) : List Value := [.int .i64 (t.kind : Int), .string ⟨t.nm.toArray⟩, av, .string ⟨t.text.toArray⟩, .int .i64 (t.at_.1 : Int), .int .i64 (t.at_.2 : Int), .bool t.empty]
def tokCells (avs : List Value) (ts : List TokV) : List Value := (avs.zip ts).flatMap fun x => x.2.cells x.1
/-- where a scanner lies: its block, its three slices, and each token's attributes -/
structure Pl where
  s : Nat
  cv : Value
  tv : Value
  xv : Value
  avs : List Value
def Pl.kept (p : Pl) : List Nat := p.avs.flatMap fun v => v.ownBlock.toList
def Pl.rows (p : Pl) : List Nat := p.tv.ownBlock.toList ++ (p.xv.ownBlock.toList ++ (p.cv.ownBlock.toList ++ p.kept))
def Pl.all (p : Pl) : List Nat := p.s :: p.rows
/-- what a scanner holds -/
structure Sd where
  cs : Cs
  i : Nat
  toks : List TokV
  text : Cs
  began : Nat
structure At (w : World) (p : Pl) (d : Sd) : Prop where
  own : w.heap[p.s]? = some (.cells #[p.cv, .int .i64 (d.i : Int), p.tv, p.xv, .int .i64 (d.began : Int)] 45 (0, 0))
  chars : w.ownsRow 0 3 1 p.cv d.cs.length (ints d.cs)
  text : w.ownsRow 0 3 1 p.xv d.text.length (ints d.text)
  toks : w.ownsRow 0 38 7 p.tv d.toks.length (tokCells p.avs d.toks)
  len : p.avs.length = d.toks.length
  attrs : ∀ (j : Nat) v t, p.avs[j]? = some v → d.toks[j]? = some t → w.ownsRow 0 40 4 v t.attrs.length (t.attrs.flatMap AttrV.cells)
  apart : p.all.Nodup
  clen : d.cs.length ≤ 65536
  okcs : ∀ c ∈ d.cs, allowed c = true
  okt : ∀ c ∈ d.text, okc c
theorem allowed_okc {c : Nat} (h : allowed c = true) : okc c := by
  simp only [allowed, decide_eq_true_eq] at h
  unfold okc
  omega
theorem At.c0 {w : World} {p : Pl} {d : Sd} (h : At w p d) : w.cell? ⟨p.s, 0, none⟩ = some p.cv := bk_cell h.own 0 _ rfl
theorem At.c1 {w : World} {p : Pl} {d : Sd} (h : At w p d) : w.cell? ⟨p.s, 1, none⟩ = some (.int .i64 (d.i : Int)) := bk_cell h.own 1 _ rfl
theorem At.c2 {w : World} {p : Pl} {d : Sd} (h : At w p d) : w.cell? ⟨p.s, 2, none⟩ = some p.tv := bk_cell h.own 2 _ rfl
theorem At.c3 {w : World} {p : Pl} {d : Sd} (h : At w p d) : w.cell? ⟨p.s, 3, none⟩ = some p.xv := bk_cell h.own 3 _ rfl
theorem At.c4 {w : World} {p : Pl} {d : Sd} (h : At w p d) : w.cell? ⟨p.s, 4, none⟩ = some (.int .i64 (d.began : Int)) := bk_cell h.own 4 _ rfl
theorem At.f {w : World} {p : Pl} {d : Sd} (h : At w p d) (i : Nat) : w.frozen? ⟨p.s, i, none⟩ = false := bk_free h.own i
theorem mem_own {v : Value} {g : Nat} : g ∈ v.ownBlock.toList ↔ v.ownBlock = some g := by simp
/-- rows and attributes are not the scanner's block -/
theorem At.ne {w : World} {p : Pl} {d : Sd} (h : At w p d) : p.s ∉ p.rows := (List.nodup_cons.1 h.apart).1
theorem At.lt {w : World} {p : Pl} {d : Sd} (h : At w p d) : ∀ b ∈ p.all, b < w.heap.size := by
  intro b hb
  unfold Pl.all Pl.rows at hb
  simp only [List.mem_cons, List.mem_append, mem_own] at hb
  rcases hb with rfl | hb | hb | hb | hb
  · exact bk_lt h.own
  · exact (h.toks.lt b hb).2
  · exact (h.text.lt b hb).2
  · exact (h.chars.lt b hb).2
  · obtain ⟨v, hv, hb⟩ := List.mem_flatMap.1 hb
    obtain ⟨j, hj⟩ := List.getElem?_of_mem hv
    have hj' := (List.getElem?_eq_some_iff.1 hj).1
    exact ((h.attrs j v _ hj (List.getElem?_eq_getElem (by rw [← h.len]; exact hj'))).lt b (mem_own.1 hb)).2
/-- nothing of it has turned -/
theorem At.same {w w' : World} {p : Pl} {d : Sd} (h : At w p d) (e : ∀ b ∈ p.all, w'.heap[b]? = w.heap[b]?) : At w' p d := by
  have m : ∀ b, b ∈ p.rows → w'.heap[b]? = w.heap[b]? := fun b hb => e b (List.mem_cons_of_mem _ hb)
  refine ⟨(e p.s (by simp [Pl.all])).trans h.own, row_same h.chars fun g hg => m g ?_, row_same h.text fun g hg => m g ?_, row_same h.toks fun g hg => m g ?_, h.len, fun j v t hv ht => row_same (h.attrs j v t hv ht) fun g hg => m g ?_, h.apart, h.clen, h.okcs, h.okt⟩
  · simp [Pl.rows, hg]
  · simp [Pl.rows, hg]
  · simp [Pl.rows, hg]
  · have : g ∈ p.kept := List.mem_flatMap.2 ⟨v, List.mem_of_getElem? hv, by simp [hg]⟩
    simp [Pl.rows, this]
theorem At.pur {w w' : World} {p : Pl} {d : Sd} (h : At w p d) (hp : Pur w w') : At w' p d := h.same fun b hb => hp.block b (h.lt b hb)
/-- the place has been set -/
theorem At.seti {w : World} {p : Pl} {d : Sd} (h : At w p d) (j : Nat) (x : Int) (hx : x = (j : Int)) : At (w.setCell ⟨p.s, 1, none⟩ (.int .i64 x)) p { d with i := j } := by
  subst hx
  have m : ∀ b, b ∈ p.rows → (w.setCell ⟨p.s, 1, none⟩ (.int .i64 (j : Int))).heap[b]? = w.heap[b]? := fun b hb => by
    rw [RowKit.Below.heap_setCell _ _ _ _ (fun e => h.ne (by rw [show p.s = b from e.symm]; exact hb))]
  refine ⟨bk_set h.own 1 _, row_same h.chars fun g hg => m g ?_, row_same h.text fun g hg => m g ?_, row_same h.toks fun g hg => m g ?_, h.len, fun j v t hv ht => row_same (h.attrs j v t hv ht) fun g hg => m g ?_, h.apart, h.clen, h.okcs, h.okt⟩
  · simp [Pl.rows, hg]
  · simp [Pl.rows, hg]
  · simp [Pl.rows, hg]
  · have : g ∈ p.kept := List.mem_flatMap.2 ⟨v, List.mem_of_getElem? hv, by simp [hg]⟩
    simp [Pl.rows, this]
/-- the characters' slice -/
theorem At.cshape {w : World} {p : Pl} {d : Sd} (h : At w p d) : ∃ a c, p.cv = .slice a d.cs.length c ∧ d.cs.length ≤ 9223372036854775807 ∧ (d.cs.length : Int) ≤ c ∧ ∀ k, k < d.cs.length → ∃ g, a = some ⟨g, 0, none⟩ ∧ w.cell? ⟨g, k, none⟩ = some (.int .i64 ((d.cs.getD k 0 : Nat) : Int)) := by
  rcases h.chars.2 with ⟨e, h0⟩ | ⟨g, cap, cur, e, hb, hg, hnc, hcm, hcs, hx⟩
  · exact ⟨none, 0, by rw [e, h0], by omega, by omega, fun k hk => by omega⟩
  · refine ⟨some ⟨g, 0, none⟩, cap, e, by unfold maxLen at hcm; omega, by omega, fun k hk => ⟨g, rfl, ?_⟩⟩
    obtain ⟨g', c', e', _, _, _, hc⟩ := row_at h.chars (by omega)
    rw [e] at e'
    cases e'
    exact (hc k _ (by simp [ints, List.getElem?_eq_getElem hk])).1
def Sd.rest (d : Sd) : Cs := d.cs.drop d.i
/-- the character that stands first, -1 if none -/
def pk (xs : Cs) : Int := match xs with | c :: _ => (c : Int) | [] => -1
theorem drop_cons (cs : Cs) (i : Nat) (h : i < cs.length) : cs.drop i = cs.getD i 0 :: cs.drop (i + 1) := by
  rw [List.drop_eq_getElem_cons h]; simp [List.getD_eq_getElem?_getD, List.getElem?_eq_getElem h]
set_option maxRecDepth 100000 in
theorem peek_any {w : World} {p : Pl} {d : Sd} (h : At w p d) : Calls Tryz.prog 23 #[.pointer (some ⟨p.s, 0, none⟩)] w fun e w' => e = .returned (.int .i64 (pk d.rest)) ∧ Pur w w' := by
  have c0 := h.c0
  have c1 := h.c1
  obtain ⟨a, c, hcv, hl, hc, hcell⟩ := h.cshape
  rw [hcv] at c0
  clear hcv
  by_cases hi : d.i < d.cs.length
  · obtain ⟨g, rfl, hk⟩ := hcell d.i hi
    have e1 : pk d.rest = ((d.cs.getD d.i 0 : Nat) : Int) := by unfold Sd.rest; rw [drop_cons _ _ hi]; rfl
    rw [e1]
    generalize ((d.cs.getD d.i 0 : Nat) : Int) = x at *
    have hi' : (d.i : Int) < d.cs.length := by omega
    clear hcell h e1
    go_enter Tryz.func23, Tryz.ntmps23
    go_wp2
    go_region
    go_wp2
    go_region
    go_wp2
    go_ret
    exact ⟨rfl, (Pur.refl w).drew.drew⟩
  · have e1 : pk d.rest = -1 := by unfold Sd.rest; rw [List.drop_of_length_le (by omega)]; rfl
    rw [e1]
    have hi' : (d.cs.length : Int) ≤ d.i := by omega
    clear hcell h e1
    go_enter Tryz.func23, Tryz.ntmps23
    go_wp2
    go_region
    go_wp2
    go_ret
    exact ⟨rfl, (Pur.refl w).drew⟩
/-- a text's bytes as numbers -/
def nats (t : List UInt8) : List Nat := t.map UInt8.toNat
theorem pre_nil (xs : Cs) : pre [] xs = true := by simp [pre]
theorem pre_short (t : Nat) (ts : List Nat) : pre (t :: ts) [] = false := by simp [pre]
theorem pre_cons (t x : Nat) (ts : List Nat) (xs : Cs) : pre (t :: ts) (x :: xs) = (decide (x = t) && pre ts xs) := by
  simp only [pre, List.length_cons, List.take_succ_cons, List.cons.injEq, Bool.decide_and]
theorem nats_drop (t : List UInt8) (k : Nat) (h : k < t.length) : (nats t).drop k = by8 t k :: (nats t).drop (k + 1) := by
  have h' : k < (nats t).length := by simpa [nats] using h
  rw [List.drop_eq_getElem_cons h']
  simp [nats, by8, List.getD_eq_getElem?_getD, List.getElem?_eq_getElem h]
set_option maxRecDepth 100000 in
set_option maxHeartbeats 2000000 in
theorem at_any {w : World} {p : Pl} {d : Sd} (h : At w p d) (t : List UInt8) (hi : d.i ≤ d.cs.length) (ht : t.length ≤ 1000) : Calls Tryz.prog 24 #[.pointer (some ⟨p.s, 0, none⟩), .string ⟨t.toArray⟩] w fun e w' => e = .returned (.bool (pre (nats t) d.rest)) ∧ Pur w w' := by
  have C0 : ∀ x : PW w, x.to.cell? ⟨p.s, 0, none⟩ = some p.cv := fun x => (h.pur x.pur).c0
  have C1 : ∀ x : PW w, x.to.cell? ⟨p.s, 1, none⟩ = some (.int .i64 (d.i : Int)) := fun x => (h.pur x.pur).c1
  obtain ⟨a, c, hcv, hl, hc, hcell⟩ := h.cshape
  rw [hcv] at C0
  have hCell : ∀ k, k < d.cs.length → ∃ g, a = some ⟨g, 0, none⟩ ∧ ∀ wr, Pur w wr → ∀ x : PW wr, x.to.cell? ⟨g, k, none⟩ = some (.int .i64 ((d.cs.getD k 0 : Nat) : Int)) := fun k hk => by
    obtain ⟨g, rfl, -⟩ := hcell k hk
    refine ⟨g, rfl, fun wr hr x => ?_⟩
    obtain ⟨a', c', hcv', _, _, hcell'⟩ := (h.pur (hr.trans x.pur)).cshape
    rw [hcv] at hcv'
    cases hcv'
    obtain ⟨g', hg', hk'⟩ := hcell' k hk
    cases hg'
    exact hk'
  have hN : (nats t).length = t.length := by simp [nats]
  have hcl := h.clen
  unfold Sd.rest
  clear hcv hcell
  go_enter Tryz.func24, Tryz.ntmps24
  go_wp2
  go_loopw [8] (fun k wr => ∃ n : Nat, n ≤ t.length ∧ k = .int .i64 n ∧ Pur w wr ∧ Hid (pre (nats t) (d.cs.drop d.i) = pre ((nats t).drop n) (d.cs.drop (d.i + n)))) (fun k _ => t.length + 1 - (intOf k).toNat)
  case atStart => exact ⟨0, by omega, rfl, Pur.refl w, Lib.hid (by simp)⟩
  case round =>
    obtain ⟨n, hn, rfl, hpr, H⟩ := hrel
    have D0 : ∀ x : PW wr, x.to.cell? ⟨p.s, 0, none⟩ = some (.slice a d.cs.length c) := fun x => C0 ⟨x.to, hpr.trans x.pur⟩
    have D1 : ∀ x : PW wr, x.to.cell? ⟨p.s, 1, none⟩ = some (.int .i64 (d.i : Int)) := fun x => C1 ⟨x.to, hpr.trans x.pur⟩
    by_cases hlt : n < t.length
    · have hlt' : (n : Int) < t.length := by omega
      have e1 := nats_drop t n hlt
      have w1 : IntKind.i64.wrap ((d.i : Int) + (n : Int)) = (d.i : Int) + (n : Int) := IntWalk.i64_in _ (by omega)
      have cb := by8_lt t n
      by_cases h1 : d.i + n < d.cs.length
      · obtain ⟨g, rfl, hk⟩ := hCell (d.i + n) h1
        have K := hk wr hpr
        have e2 := drop_cons d.cs (d.i + n) h1
        rw [e1, e2, pre_cons] at H
        have d1 : decide ((d.cs.length : Int) ≤ (d.i : Int) + (n : Int)) = false := by simp; omega
        have b1 : (0 : Int) ≤ (d.i : Int) + (n : Int) := by omega
        have b2 : (d.i : Int) + (n : Int) < d.cs.length := by omega
        have b3 : ((d.i : Int) + (n : Int)).toNat = d.i + n := by omega
        generalize d.cs.getD (d.i + n) 0 = x at *
        generalize hby : by8 t n = y at *
        obtain ⟨bo, hbo⟩ : ∃ bo : Bool, decide (x = y) = bo := ⟨_, rfl⟩
        have d2 : ((x : Int) == (y : Int)) = bo := by rw [← hbo, Bool.eq_iff_iff]; simp only [beq_iff_eq, decide_eq_true_eq]; omega
        have d3 : ((x : Int) != (y : Int)) = !bo := by rw [bne, d2]
        rw [hbo] at H
        clear hCell h1 e1 e2 hbo C0 C1
        rcases bo with _ | _
        all_goals
          simp only [Bool.not_false, Bool.not_true] at d3
          go_wp2
          refine wp_region_pur (by kernel_rfl) (by kernel_rfl) ?_
          repeat (go_big_quiet_step (fail))
          refine wpQuiet_nil ?_
          intro wq hq
          go_wp2
        · go_ret
          refine ⟨?_, hpr.trans hq⟩
          rw [H.out]
          rfl
        · go_roundw
          case rel => exact ⟨n + 1, by omega, by go_num, hpr.trans hq, Lib.hid (by rw [H.out]; simp [Nat.add_assoc])⟩
          case measure => simp [intOf]; omega
      · have d1 : decide ((d.cs.length : Int) ≤ (d.i : Int) + (n : Int)) = true := by simp; omega
        rw [e1, List.drop_of_length_le (show d.cs.length ≤ d.i + n by omega), pre_short] at H
        clear hCell h1 e1 C0 C1
        go_wp2
        refine wp_region_pur (by kernel_rfl) (by kernel_rfl) ?_
        repeat (go_big_quiet_step (fail))
        refine wpQuiet_nil ?_
        intro wq hq
        go_wp2
        go_ret
        refine ⟨?_, hpr.trans hq⟩
        rw [H.out]
        rfl
    · obtain rfl : n = t.length := by omega
      rw [List.drop_of_length_le (show (nats t).length ≤ t.length by omega), pre_nil] at H
      clear hCell C0 C1 D0 D1
      go_wp2
      go_ret
      refine ⟨?_, hpr⟩
      rw [H.out]
      rfl
end Tk
end Go.Proofs.YtaknfofppknloaaGreatDoor
