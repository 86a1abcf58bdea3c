/- Layer 2: where a scanner lies, and its smallest functions. Layer 2: which characters are what; a place; a fault; over one character, and over blanks. Layer 2: a place; a fault; over one character, and over blanks. Those of the layer utf's contracts that this seat's dump has. -/
import Derived.Test.YtigfcchblfnnbaaGreatDoorChecked
import Derived.Test.YtigfcchblfnnbaaGreatDoorTbE
import Derived.Test.YtigfcchblfnnbaaGreatDoorTpA
import Derived.Test.YtigfcchblfnnbaaGreatDoorShelf
import Derived.Test.YtigfcchblfnnbaaGreatDoorBase
import Derived.Test.YtigfcchblfnnbaaGreatDoorTu
import Derived.Lib.Builder
import Derived.Lib.AppendStr
import Derived.Lib.UnsafeStr
import Derived.Laws.Externs
namespace Go.Proofs.YtigfcchblfnnbaaGreatDoor
open Go Go.RowKit
set_option linter.all false
namespace Tk
def ints (cs : Cs) : List Value := cs.map fun (c : Nat) => Value.int .i64 (c : Int)
theorem ints_length (cs : Cs) : (ints cs).length = cs.length := by simp [ints]
theorem ints_append (a b : Cs) : ints (a ++ b) = ints a ++ ints b := by simp [ints]
def AttrV.cells (a : AttrV) : List Value := [.string ⟨a.nm.toArray⟩, .string ⟨a.val.toArray⟩, .int .i64 (a.at_.1 : Int), .int .i64 (a.at_.2 : Int)]
def TokV.cells (av : Value) (t : TokV) : List Value := [.int .i64 (t.kind : Int), .string ⟨t.nm.toArray⟩, av, .string ⟨t.text.toArray⟩, .int .i64 (t.at_.1 : Int), .int .i64 (t.at_.2 : Int), .bool t.empty]
def tokCells (avs : List Value) (ts : List TokV) : List Value := (avs.zip ts).flatMap fun x => x.2.cells x.1
/-- where a scanner lies: its block, its three slices, and each token's attributes -/
structure Pl where
  s : Nat
  cv : Value
  tv : Value
  xv : Value
  avs : List Value
def Pl.kept (p : Pl) : List Nat := p.avs.flatMap fun v => v.ownBlock.toList
def Pl.rows (p : Pl) : List Nat := p.tv.ownBlock.toList ++ (p.xv.ownBlock.toList ++ (p.cv.ownBlock.toList ++ p.kept))
def Pl.all (p : Pl) : List Nat := p.s :: p.rows
/-- what a scanner holds -/
structure Sd where
  cs : Cs
  i : Nat
  toks : List TokV
  text : Cs
  began : Nat
structure At (w : World) (p : Pl) (d : Sd) : Prop where
  own : w.heap[p.s]? = some (.cells #[p.cv, .int .i64 (d.i : Int), p.tv, p.xv, .int .i64 (d.began : Int)] 87 (0, 0))
  chars : w.ownsRow 0 3 1 p.cv d.cs.length (ints d.cs)
  text : w.ownsRow 0 3 1 p.xv d.text.length (ints d.text)
  toks : w.ownsRow 0 60 7 p.tv d.toks.length (tokCells p.avs d.toks)
  len : p.avs.length = d.toks.length
  attrs : ∀ (j : Nat) v t, p.avs[j]? = some v → d.toks[j]? = some t → w.ownsRow 0 156 4 v t.attrs.length (t.attrs.flatMap AttrV.cells)
  apart : p.all.Nodup
  clen : d.cs.length ≤ 65536
  okcs : ∀ c ∈ d.cs, allowed c = true
  okt : ∀ c ∈ d.text, okc c
theorem allowed_okc {c : Nat} (h : allowed c = true) : okc c := by
  simp only [allowed, decide_eq_true_eq] at h
  unfold okc
  omega
theorem At.c0 {w : World} {p : Pl} {d : Sd} (h : At w p d) : w.cell? ⟨p.s, 0, none⟩ = some p.cv := bk_cell h.own 0 _ rfl
theorem At.c1 {w : World} {p : Pl} {d : Sd} (h : At w p d) : w.cell? ⟨p.s, 1, none⟩ = some (.int .i64 (d.i : Int)) := bk_cell h.own 1 _ rfl
theorem At.c2 {w : World} {p : Pl} {d : Sd} (h : At w p d) : w.cell? ⟨p.s, 2, none⟩ = some p.tv := bk_cell h.own 2 _ rfl
theorem At.c3 {w : World} {p : Pl} {d : Sd} (h : At w p d) : w.cell? ⟨p.s, 3, none⟩ = some p.xv := bk_cell h.own 3 _ rfl
theorem At.c4 {w : World} {p : Pl} {d : Sd} (h : At w p d) : w.cell? ⟨p.s, 4, none⟩ = some (.int .i64 (d.began : Int)) := bk_cell h.own 4 _ rfl
theorem At.f {w : World} {p : Pl} {d : Sd} (h : At w p d) (i : Nat) : w.frozen? ⟨p.s, i, none⟩ = false := bk_free h.own i
theorem mem_own {v : Value} {g : Nat} : g ∈ v.ownBlock.toList ↔ v.ownBlock = some g := by simp
/-- rows and attributes are not the scanner's block -/
theorem At.ne {w : World} {p : Pl} {d : Sd} (h : At w p d) : p.s ∉ p.rows := (List.nodup_cons.1 h.apart).1
theorem At.lt {w : World} {p : Pl} {d : Sd} (h : At w p d) : ∀ b ∈ p.all, b < w.heap.size := by
  intro b hb
  unfold Pl.all Pl.rows at hb
  simp only [List.mem_cons, List.mem_append, mem_own] at hb
  rcases hb with rfl | hb | hb | hb | hb
  · exact bk_lt h.own
  · exact (h.toks.lt b hb).2
  · exact (h.text.lt b hb).2
  · exact (h.chars.lt b hb).2
  · obtain ⟨v, hv, hb⟩ := List.mem_flatMap.1 hb
    obtain ⟨j, hj⟩ := List.getElem?_of_mem hv
    have hj' := (List.getElem?_eq_some_iff.1 hj).1
    exact ((h.attrs j v _ hj (List.getElem?_eq_getElem (by rw [← h.len]; exact hj'))).lt b (mem_own.1 hb)).2
/-- nothing of it has turned -/
theorem At.same {w w' : World} {p : Pl} {d : Sd} (h : At w p d) (e : ∀ b ∈ p.all, w'.heap[b]? = w.heap[b]?) : At w' p d := by
  have m : ∀ b, b ∈ p.rows → w'.heap[b]? = w.heap[b]? := fun b hb => e b (List.mem_cons_of_mem _ hb)
  refine ⟨(e p.s (by simp [Pl.all])).trans h.own, row_same h.chars fun g hg => m g ?_, row_same h.text fun g hg => m g ?_, row_same h.toks fun g hg => m g ?_, h.len, fun j v t hv ht => row_same (h.attrs j v t hv ht) fun g hg => m g ?_, h.apart, h.clen, h.okcs, h.okt⟩
  · simp [Pl.rows, hg]
  · simp [Pl.rows, hg]
  · simp [Pl.rows, hg]
  · have : g ∈ p.kept := List.mem_flatMap.2 ⟨v, List.mem_of_getElem? hv, by simp [hg]⟩
    simp [Pl.rows, this]
theorem At.pur {w w' : World} {p : Pl} {d : Sd} (h : At w p d) (hp : Pur w w') : At w' p d := h.same fun b hb => hp.block b (h.lt b hb)
/-- the place has been set -/
theorem At.seti {w : World} {p : Pl} {d : Sd} (h : At w p d) (j : Nat) (x : Int) (hx : x = (j : Int)) : At (w.setCell ⟨p.s, 1, none⟩ (.int .i64 x)) p { d with i := j } := by
  subst hx
  have m : ∀ b, b ∈ p.rows → (w.setCell ⟨p.s, 1, none⟩ (.int .i64 (j : Int))).heap[b]? = w.heap[b]? := fun b hb => by
    rw [RowKit.Below.heap_setCell _ _ _ _ (fun e => h.ne (by rw [show p.s = b from e.symm]; exact hb))]
  refine ⟨bk_set h.own 1 _, row_same h.chars fun g hg => m g ?_, row_same h.text fun g hg => m g ?_, row_same h.toks fun g hg => m g ?_, h.len, fun j v t hv ht => row_same (h.attrs j v t hv ht) fun g hg => m g ?_, h.apart, h.clen, h.okcs, h.okt⟩
  · simp [Pl.rows, hg]
  · simp [Pl.rows, hg]
  · simp [Pl.rows, hg]
  · have : g ∈ p.kept := List.mem_flatMap.2 ⟨v, List.mem_of_getElem? hv, by simp [hg]⟩
    simp [Pl.rows, this]
/-- the characters' slice -/
theorem At.cshape {w : World} {p : Pl} {d : Sd} (h : At w p d) : ∃ a c, p.cv = .slice a d.cs.length c ∧ d.cs.length ≤ 9223372036854775807 ∧ (d.cs.length : Int) ≤ c ∧ ∀ k, k < d.cs.length → ∃ g, a = some ⟨g, 0, none⟩ ∧ w.cell? ⟨g, k, none⟩ = some (.int .i64 ((d.cs.getD k 0 : Nat) : Int)) := by
  rcases h.chars.2 with ⟨e, h0⟩ | ⟨g, cap, cur, e, hb, hg, hnc, hcm, hcs, hx⟩
  · exact ⟨none, 0, by rw [e, h0], by omega, by omega, fun k hk => by omega⟩
  · refine ⟨some ⟨g, 0, none⟩, cap, e, by unfold maxLen at hcm; omega, by omega, fun k hk => ⟨g, rfl, ?_⟩⟩
    obtain ⟨g', c', e', _, _, _, hc⟩ := row_at h.chars (by omega)
    rw [e] at e'
    cases e'
    exact (hc k _ (by simp [ints, List.getElem?_eq_getElem hk])).1
def Sd.rest (d : Sd) : Cs := d.cs.drop d.i
/-- the character that stands first, -1 if none -/
def pk (xs : Cs) : Int := match xs with | c :: _ => (c : Int) | [] => -1
theorem drop_cons (cs : Cs) (i : Nat) (h : i < cs.length) : cs.drop i = cs.getD i 0 :: cs.drop (i + 1) := by
  rw [List.drop_eq_getElem_cons h]; simp [List.getD_eq_getElem?_getD, List.getElem?_eq_getElem h]
set_option maxRecDepth 100000 in
theorem peek_any {w : World} {p : Pl} {d : Sd} (h : At w p d) : Calls Tryz.prog 45 #[.pointer (some ⟨p.s, 0, none⟩)] w fun e w' => e = .returned (.int .i64 (pk d.rest)) ∧ Pur w w' := by
  have c0 := h.c0
  have c1 := h.c1
  obtain ⟨a, c, hcv, hl, hc, hcell⟩ := h.cshape
  rw [hcv] at c0
  clear hcv
  by_cases hi : d.i < d.cs.length
  · obtain ⟨g, rfl, hk⟩ := hcell d.i hi
    have e1 : pk d.rest = ((d.cs.getD d.i 0 : Nat) : Int) := by unfold Sd.rest; rw [drop_cons _ _ hi]; rfl
    rw [e1]
    generalize ((d.cs.getD d.i 0 : Nat) : Int) = x at *
    have hi' : (d.i : Int) < d.cs.length := by omega
    clear hcell h e1
    go_enter Tryz.func45, Tryz.ntmps45
    go_wp2
    go_region
    go_wp2
    go_region
    go_wp2
    go_ret
    exact ⟨rfl, (Pur.refl w).drew.drew⟩
  · have e1 : pk d.rest = -1 := by unfold Sd.rest; rw [List.drop_of_length_le (by omega)]; rfl
    rw [e1]
    have hi' : (d.cs.length : Int) ≤ d.i := by omega
    clear hcell h e1
    go_enter Tryz.func45, Tryz.ntmps45
    go_wp2
    go_region
    go_wp2
    go_ret
    exact ⟨rfl, (Pur.refl w).drew⟩
/-- a text's bytes as numbers -/
def nats (t : List UInt8) : List Nat := t.map UInt8.toNat
theorem pre_nil (xs : Cs) : pre [] xs = true := by simp [pre]
theorem pre_short (t : Nat) (ts : List Nat) : pre (t :: ts) [] = false := by simp [pre]
theorem pre_cons (t x : Nat) (ts : List Nat) (xs : Cs) : pre (t :: ts) (x :: xs) = (decide (x = t) && pre ts xs) := by
  simp only [pre, List.length_cons, List.take_succ_cons, List.cons.injEq, Bool.decide_and]
theorem nats_drop (t : List UInt8) (k : Nat) (h : k < t.length) : (nats t).drop k = by8 t k :: (nats t).drop (k + 1) := by
  have h' : k < (nats t).length := by simpa [nats] using h
  rw [List.drop_eq_getElem_cons h']
  simp [nats, by8, List.getD_eq_getElem?_getD, List.getElem?_eq_getElem h]
set_option maxRecDepth 100000 in
set_option maxHeartbeats 2000000 in
theorem at_any {w : World} {p : Pl} {d : Sd} (h : At w p d) (t : List UInt8) (hi : d.i ≤ d.cs.length) (ht : t.length ≤ 1000) : Calls Tryz.prog 46 #[.pointer (some ⟨p.s, 0, none⟩), .string ⟨t.toArray⟩] w fun e w' => e = .returned (.bool (pre (nats t) d.rest)) ∧ Pur w w' := by
  have C0 : ∀ x : PW w, x.to.cell? ⟨p.s, 0, none⟩ = some p.cv := fun x => (h.pur x.pur).c0
  have C1 : ∀ x : PW w, x.to.cell? ⟨p.s, 1, none⟩ = some (.int .i64 (d.i : Int)) := fun x => (h.pur x.pur).c1
  obtain ⟨a, c, hcv, hl, hc, hcell⟩ := h.cshape
  rw [hcv] at C0
  have hCell : ∀ k, k < d.cs.length → ∃ g, a = some ⟨g, 0, none⟩ ∧ ∀ wr, Pur w wr → ∀ x : PW wr, x.to.cell? ⟨g, k, none⟩ = some (.int .i64 ((d.cs.getD k 0 : Nat) : Int)) := fun k hk => by
    obtain ⟨g, rfl, -⟩ := hcell k hk
    refine ⟨g, rfl, fun wr hr x => ?_⟩
    obtain ⟨a', c', hcv', _, _, hcell'⟩ := (h.pur (hr.trans x.pur)).cshape
    rw [hcv] at hcv'
    cases hcv'
    obtain ⟨g', hg', hk'⟩ := hcell' k hk
    cases hg'
    exact hk'
  have hN : (nats t).length = t.length := by simp [nats]
  have hcl := h.clen
  unfold Sd.rest
  clear hcv hcell
  go_enter Tryz.func46, Tryz.ntmps46
  go_wp2
  go_loopw [8] (fun k wr => ∃ n : Nat, n ≤ t.length ∧ k = .int .i64 n ∧ Pur w wr ∧ Hid (pre (nats t) (d.cs.drop d.i) = pre ((nats t).drop n) (d.cs.drop (d.i + n)))) (fun k _ => t.length + 1 - (intOf k).toNat)
  case atStart => exact ⟨0, by omega, rfl, Pur.refl w, Lib.hid (by simp)⟩
  case round =>
    obtain ⟨n, hn, rfl, hpr, H⟩ := hrel
    have D0 : ∀ x : PW wr, x.to.cell? ⟨p.s, 0, none⟩ = some (.slice a d.cs.length c) := fun x => C0 ⟨x.to, hpr.trans x.pur⟩
    have D1 : ∀ x : PW wr, x.to.cell? ⟨p.s, 1, none⟩ = some (.int .i64 (d.i : Int)) := fun x => C1 ⟨x.to, hpr.trans x.pur⟩
    by_cases hlt : n < t.length
    · have hlt' : (n : Int) < t.length := by omega
      have e1 := nats_drop t n hlt
      have w1 : IntKind.i64.wrap ((d.i : Int) + (n : Int)) = (d.i : Int) + (n : Int) := IntWalk.i64_in _ (by omega)
      have cb := by8_lt t n
      by_cases h1 : d.i + n < d.cs.length
      · obtain ⟨g, rfl, hk⟩ := hCell (d.i + n) h1
        have K := hk wr hpr
        have e2 := drop_cons d.cs (d.i + n) h1
        rw [e1, e2, pre_cons] at H
        have d1 : decide ((d.cs.length : Int) ≤ (d.i : Int) + (n : Int)) = false := by simp; omega
        have b1 : (0 : Int) ≤ (d.i : Int) + (n : Int) := by omega
        have b2 : (d.i : Int) + (n : Int) < d.cs.length := by omega
        have b3 : ((d.i : Int) + (n : Int)).toNat = d.i + n := by omega
        generalize d.cs.getD (d.i + n) 0 = x at *
        generalize hby : by8 t n = y at *
        obtain ⟨bo, hbo⟩ : ∃ bo : Bool, decide (x = y) = bo := ⟨_, rfl⟩
        have d2 : ((x : Int) == (y : Int)) = bo := by rw [← hbo, Bool.eq_iff_iff]; simp only [beq_iff_eq, decide_eq_true_eq]; omega
        have d3 : ((x : Int) != (y : Int)) = !bo := by rw [bne, d2]
        rw [hbo] at H
        clear hCell h1 e1 e2 hbo C0 C1
        rcases bo with _ | _
        all_goals
          simp only [Bool.not_false, Bool.not_true] at d3
          go_wp2
          refine wp_region_pur (by kernel_rfl) (by kernel_rfl) ?_
          repeat (go_big_quiet_step (fail))
          refine wpQuiet_nil ?_
          intro wq hq
          go_wp2
        · go_ret
          refine ⟨?_, hpr.trans hq⟩
          rw [H.out]
          rfl
        · go_roundw
          case rel => exact ⟨n + 1, by omega, by go_num, hpr.trans hq, Lib.hid (by rw [H.out]; simp [Nat.add_assoc])⟩
          case measure => simp [intOf]; omega
      · have d1 : decide ((d.cs.length : Int) ≤ (d.i : Int) + (n : Int)) = true := by simp; omega
        rw [e1, List.drop_of_length_le (show d.cs.length ≤ d.i + n by omega), pre_short] at H
        clear hCell h1 e1 C0 C1
        go_wp2
        refine wp_region_pur (by kernel_rfl) (by kernel_rfl) ?_
        repeat (go_big_quiet_step (fail))
        refine wpQuiet_nil ?_
        intro wq hq
        go_wp2
        go_ret
        refine ⟨?_, hpr.trans hq⟩
        rw [H.out]
        rfl
    · obtain rfl : n = t.length := by omega
      rw [List.drop_of_length_le (show (nats t).length ≤ t.length by omega), pre_nil] at H
      clear hCell C0 C1 D0 D1
      go_wp2
      go_ret
      refine ⟨?_, hpr⟩
      rw [H.out]
      rfl
end Tk
end Go.Proofs.YtigfcchblfnnbaaGreatDoor
namespace Go.Proofs.YtigfcchblfnnbaaGreatDoor
open Go Go.RowKit
set_option linter.all false
namespace Tk
/-- what is told of a character, of the end too -/
def on (p : Nat → Bool) (x : Int) : Bool := decide (0 ≤ x) && p x.toNat
theorem on_pk (p : Nat → Bool) (xs : Cs) : on p (pk xs) = hd p xs := by
  cases xs <;> simp [on, pk, hd]
set_option maxRecDepth 100000 in
set_option maxHeartbeats 20000000 in
theorem allowed_any (c : Int) (w : World) (h : -1 ≤ c) : Calls Tryz.prog 77 #[.int .i64 c] w fun e w' => e = .returned (.bool (on allowed c)) ∧ w = w' := by
  rcases hb : (on allowed c) with _ | _
  all_goals
    simp only [on, allowed, Bool.and_eq_true, Bool.and_eq_false_iff, decide_eq_true_eq, decide_eq_false_iff_not] at hb
  · rcases (show c = -1 ∨ (c = 0) ∨ (1 ≤ c ∧ c < 9) ∨ (11 ≤ c ∧ c < 32) ∨ (55296 ≤ c ∧ c < 57344) ∨ (65534 ≤ c ∧ c < 65536) ∨ 1114112 ≤ c by omega) with h1 | h1 | h1 | h1 | h1 | h1 | h1
    all_goals
      have d1 : (c == 9) = false := by simp; omega
      have d2 : (c == 10) = false := by simp; omega
      obtain ⟨b3, d3⟩ : ∃ b, decide ((32 : Int) ≤ c) = b := ⟨_, rfl⟩
      obtain ⟨b4, d4⟩ : ∃ b, decide (c ≤ 55295) = b := ⟨_, rfl⟩
      obtain ⟨b5, d5⟩ : ∃ b, decide ((57344 : Int) ≤ c) = b := ⟨_, rfl⟩
      obtain ⟨b6, d6⟩ : ∃ b, decide (c ≤ 65533) = b := ⟨_, rfl⟩
      obtain ⟨b7, d7⟩ : ∃ b, decide ((65536 : Int) ≤ c) = b := ⟨_, rfl⟩
      obtain ⟨b8, d8⟩ : ∃ b, decide (c ≤ 1114111) = b := ⟨_, rfl⟩
      have e3 := d3; have e4 := d4; have e5 := d5; have e6 := d6; have e7 := d7; have e8 := d8
      rcases b3 with _ | _ <;> simp only [decide_eq_true_eq, decide_eq_false_iff_not] at e3 <;> try omega
      all_goals rcases b4 with _ | _ <;> simp only [decide_eq_true_eq, decide_eq_false_iff_not] at e4 <;> try omega
      all_goals rcases b5 with _ | _ <;> simp only [decide_eq_true_eq, decide_eq_false_iff_not] at e5 <;> try omega
      all_goals rcases b6 with _ | _ <;> simp only [decide_eq_true_eq, decide_eq_false_iff_not] at e6 <;> try omega
      all_goals rcases b7 with _ | _ <;> simp only [decide_eq_true_eq, decide_eq_false_iff_not] at e7 <;> try omega
      all_goals rcases b8 with _ | _ <;> simp only [decide_eq_true_eq, decide_eq_false_iff_not] at e8 <;> try omega
      all_goals
        clear e3 e4 e5 e6 e7 e8 h1 hb h
        go_enter Tryz.func77, Tryz.ntmps77
        go_wp2
        go_ret
        exact ⟨rfl, rfl⟩
  · rcases (show c = 9 ∨ c = 10 ∨ (32 ≤ c ∧ c ≤ 55295) ∨ (57344 ≤ c ∧ c ≤ 65533) ∨ (65536 ≤ c ∧ c ≤ 1114111) by omega) with rfl | rfl | h1 | h1 | h1
    · clear hb h
      go_enter Tryz.func77, Tryz.ntmps77
      go_wp2
      go_ret
      exact ⟨rfl, rfl⟩
    · clear hb h
      go_enter Tryz.func77, Tryz.ntmps77
      go_wp2
      go_ret
      exact ⟨rfl, rfl⟩
    all_goals
      have d1 : (c == 9) = false := by simp; omega
      have d2 : (c == 10) = false := by simp; omega
      obtain ⟨b3, d3⟩ : ∃ b, decide ((32 : Int) ≤ c) = b := ⟨_, rfl⟩
      obtain ⟨b4, d4⟩ : ∃ b, decide (c ≤ 55295) = b := ⟨_, rfl⟩
      obtain ⟨b5, d5⟩ : ∃ b, decide ((57344 : Int) ≤ c) = b := ⟨_, rfl⟩
      obtain ⟨b6, d6⟩ : ∃ b, decide (c ≤ 65533) = b := ⟨_, rfl⟩
      obtain ⟨b7, d7⟩ : ∃ b, decide ((65536 : Int) ≤ c) = b := ⟨_, rfl⟩
      obtain ⟨b8, d8⟩ : ∃ b, decide (c ≤ 1114111) = b := ⟨_, rfl⟩
      have e3 := d3; have e4 := d4; have e5 := d5; have e6 := d6; have e7 := d7; have e8 := d8
      rcases b3 with _ | _ <;> simp only [decide_eq_true_eq, decide_eq_false_iff_not] at e3 <;> try omega
      all_goals rcases b4 with _ | _ <;> simp only [decide_eq_true_eq, decide_eq_false_iff_not] at e4 <;> try omega
      all_goals rcases b5 with _ | _ <;> simp only [decide_eq_true_eq, decide_eq_false_iff_not] at e5 <;> try omega
      all_goals rcases b6 with _ | _ <;> simp only [decide_eq_true_eq, decide_eq_false_iff_not] at e6 <;> try omega
      all_goals rcases b7 with _ | _ <;> simp only [decide_eq_true_eq, decide_eq_false_iff_not] at e7 <;> try omega
      all_goals rcases b8 with _ | _ <;> simp only [decide_eq_true_eq, decide_eq_false_iff_not] at e8 <;> try omega
      all_goals
        clear e3 e4 e5 e6 e7 e8 h1 hb h
        go_enter Tryz.func77, Tryz.ntmps77
        go_wp2
        go_ret
        exact ⟨rfl, rfl⟩
set_option maxRecDepth 100000 in
theorem blank_any (c : Int) (w : World) (h : -1 ≤ c) : Calls Tryz.prog 78 #[.int .i64 c] w fun e w' => e = .returned (.bool (on blank c)) ∧ w = w' := by
  have hb : on blank c = (c == 9 || (c == 10 || c == 32)) := by
    rw [Bool.eq_iff_iff]
    simp only [on, blank, Bool.and_eq_true, Bool.or_eq_true, decide_eq_true_eq, beq_iff_eq]
    omega
  rw [hb]
  rcases d1 : (c == 9) with _ | _ <;> rcases d2 : (c == 10) with _ | _ <;> rcases d3 : (c == 32) with _ | _
  all_goals
    clear h hb
    go_enter Tryz.func78, Tryz.ntmps78
    go_wp2
    go_ret
    exact ⟨rfl, rfl⟩
set_option maxRecDepth 100000 in
set_option maxHeartbeats 20000000 in
theorem begins_any (c : Int) (w : World) (h : -1 ≤ c) : Calls Tryz.prog 106 #[.int .i64 c] w fun e w' => e = .returned (.bool (on begins c)) ∧ w = w' := by
  have hb : on begins c = ((decide (97 ≤ c) && decide (c ≤ 122)) || ((decide (65 ≤ c) && decide (c ≤ 90)) || (c == 95 || (c == 58 || decide (127 < c))))) := by
    rw [Bool.eq_iff_iff]
    simp only [on, begins, Bool.and_eq_true, Bool.or_eq_true, decide_eq_true_eq, beq_iff_eq]
    omega
  rw [hb]
  clear hb h
  rcases d1 : decide (97 ≤ c) with _ | _ <;> rcases d2 : decide (c ≤ 122) with _ | _ <;> rcases d3 : decide (65 ≤ c) with _ | _ <;> rcases d4 : decide (c ≤ 90) with _ | _ <;> rcases d5 : (c == 95) with _ | _ <;> rcases d6 : (c == 58) with _ | _ <;> rcases d7 : decide (127 < c) with _ | _
  all_goals
    go_enter Tryz.func106, Tryz.ntmps106
    go_wp2
    go_ret
    exact ⟨rfl, rfl⟩
set_option maxRecDepth 100000 in
set_option maxHeartbeats 20000000 in
theorem goesOn_any (c : Int) (w : World) (h : -1 ≤ c) : Calls Tryz.prog 109 #[.int .i64 c] w fun e w' => e = .returned (.bool (on goesOn c)) ∧ w = w' := by
  have B := fun w => begins_any c w h
  have hb : on goesOn c = (on begins c || ((decide (48 ≤ c) && decide (c ≤ 57)) || (c == 45 || c == 46))) := by
    rw [Bool.eq_iff_iff]
    simp only [on, goesOn, begins, Bool.and_eq_true, Bool.or_eq_true, decide_eq_true_eq, beq_iff_eq]
    omega
  rw [hb]
  clear hb h
  rcases d0 : on begins c with _ | _ <;> rcases d1 : decide (48 ≤ c) with _ | _ <;> rcases d2 : decide (c ≤ 57) with _ | _ <;> rcases d3 : (c == 45) with _ | _ <;> rcases d4 : (c == 46) with _ | _
  all_goals
    rw [d0] at B
    go_enter Tryz.func109, Tryz.ntmps109
    go_wp2_with fail
    refine (B _).mono ?_
    rintro e w1 ⟨rfl, rfl⟩
    go_wp2
    go_ret
    exact ⟨rfl, rfl⟩
end Tk
end Go.Proofs.YtigfcchblfnnbaaGreatDoor
namespace Go.Proofs.YtigfcchblfnnbaaGreatDoor
open Go Go.RowKit
set_option linter.all false
namespace Tk
theorem placeGo_step (cs : Cs) (n k : Nat) (q : Nat × Nat) (h : k < (cs.take n).length) : placeGo ((cs.take n).drop k) q = placeGo ((cs.take n).drop (k + 1)) (if cs.getD k 0 = 10 then (q.1 + 1, 1) else (q.1, q.2 + 1)) := by
  have h2 : k < n ∧ k < cs.length := by rw [List.length_take] at h; omega
  rw [List.drop_eq_getElem_cons h]
  simp [placeGo, List.getD_eq_getElem?_getD, List.getElem?_eq_getElem h2.2]
set_option maxRecDepth 100000 in
set_option maxHeartbeats 4000000 in
theorem place_any {w : World} {p : Pl} {d : Sd} (h : At w p d) (i : Nat) (hi : i ≤ 1000000) : Calls Tryz.prog 82 #[.pointer (some ⟨p.s, 0, none⟩), .int .i64 (i : Int)] w fun e w' => e = .returned (.agg #[.int .i64 ((place d.cs i).1 : Int), .int .i64 ((place d.cs i).2 : Int)]) ∧ Pur w w' := by
  have C0 : ∀ w', Pur w w' → w'.cell? ⟨p.s, 0, none⟩ = some p.cv := fun w' hp => (h.pur hp).c0
  obtain ⟨a, c, hcv, hl, hc, hcell⟩ := h.cshape
  rw [hcv] at C0
  have hCell : ∀ k, k < d.cs.length → ∃ g, a = some ⟨g, 0, none⟩ ∧ ∀ wr, Pur w wr → wr.cell? ⟨g, k, none⟩ = some (.int .i64 ((d.cs.getD k 0 : Nat) : Int)) := fun k hk => by
    obtain ⟨g, rfl, -⟩ := hcell k hk
    refine ⟨g, rfl, fun wr hr => ?_⟩
    obtain ⟨a', c', hcv', _, _, hcell'⟩ := (h.pur hr).cshape
    rw [hcv] at hcv'
    cases hcv'
    obtain ⟨g', hg', hk'⟩ := hcell' k hk
    cases hg'
    exact hk'
  have hcl := h.clen
  obtain ⟨m, hm⟩ : ∃ m, m = (d.cs.take i).length := ⟨_, rfl⟩
  have hm2 : (min (i : Int) (d.cs.length : Int)) = (m : Int) := by rw [hm, List.length_take]; omega
  have hm3 : m ≤ d.cs.length := by rw [hm, List.length_take]; omega
  have hm4 : (m : Int) ≤ c := by omega
  have hm5 : (0 : Int) ≤ m := by omega
  have c0 := C0 _ ((Pur.refl w).alloc (.cells #[.int .i64 0, .int .i64 0] 36))
  have c0' := C0 _ (((Pur.refl w).alloc (.cells #[.int .i64 0, .int .i64 0] 36)).alloc (.cells #[.int .i64 1, .int .i64 1] 36))
  clear hcv hcell h
  unfold place
  go_enter Tryz.func82, Tryz.ntmps82
  go_wp2
  go_region
  go_wp2
  go_loopw [22] (fun k wr => ∃ (n l q : Nat), n ≤ m ∧ k = .int .i64 n ∧ Pur w wr ∧ wr.heap[w.heap.size]? = some (.cells #[.int .i64 0, .int .i64 0] 36 (0, 0)) ∧ wr.heap[w.heap.size + 1]? = some (.cells #[.int .i64 (l : Int), .int .i64 (q : Int)] 36 (0, 0)) ∧ l ≤ n + 1 ∧ q ≤ n + 1 ∧ Hid (placeGo (d.cs.take i) (1, 1) = placeGo ((d.cs.take i).drop n) (l, q))) (fun k _ => m + 1 - (intOf k).toNat)
  case atStart =>
    refine ⟨0, 1, 1, by omega, rfl, ?_, ?_, ?_, by omega, by omega, Lib.hid (by simp)⟩
    · exact ((((Pur.refl w).alloc _).alloc _).drew)
    · exact bk_alloc (bk_new w _) _
    · have := bk_new (w.alloc (.cells #[.int .i64 0, .int .i64 0] 36)) (.cells #[.int .i64 1, .int .i64 1] 36)
      rw [show (w.alloc (.cells #[.int .i64 0, .int .i64 0] 36)).heap.size = w.heap.size + 1 by simp] at this
      exact this
  case round =>
    obtain ⟨n, l, q, hn, rfl, hpr, hb0, hb1, hl1, hq1, H⟩ := hrel
    have x0 := bk_cell hb0 0 _ rfl
    have x1 := bk_cell hb0 1 _ rfl
    have y0 := bk_cell hb1 0 _ rfl
    have y1 := bk_cell hb1 1 _ rfl
    have f0 := bk_free hb0 0
    have f1 := bk_free hb0 1
    have g0 := bk_free hb1 0
    have g1 := bk_free hb1 1
    by_cases hlt : n < m
    · have hlt' : (n : Int) < m := by omega
      obtain ⟨g, rfl, hk⟩ := hCell n (by omega)
      have hk' := hk wr hpr
      have HS := Lib.hid (H.out.trans (placeGo_step d.cs i n (l, q) (by omega)))
      have w1 : IntKind.i64.wrap ((q : Int) + 1) = (q : Int) + 1 := IntWalk.i64_in _ (by omega)
      have w2 : IntKind.i64.wrap ((l : Int) + 1) = (l : Int) + 1 := IntWalk.i64_in _ (by omega)
      generalize d.cs.getD n 0 = x at *
      clear hCell hk H C0
      have B2 := bk_set hb1 1 (.int .i64 ((q : Int) + 1))
      have B2' := bk_other hb0 (a := ⟨w.heap.size + 1, 1, none⟩) (by simp) (.int .i64 ((q : Int) + 1))
      by_cases hx : x = 10
      · have d1 : ((x : Int) == 10) = true := by simp; omega
        rw [if_pos hx] at HS
        clear hx
        go_wp2
        go_roundw
        case rel =>
          refine ⟨n + 1, l + 1, 1, by omega, by go_num, ?_, ?_, ?_, by omega, by omega, Lib.hid HS.out⟩
          · repeat (first | with_reducible exact hpr | with_reducible refine Pur.setCell ?_ (by simp) _)
          · exact bk_other (bk_other (bk_other hb0 (a := ⟨w.heap.size + 1, 1, none⟩) (by simp) _) (a := ⟨w.heap.size + 1, 0, none⟩) (by simp) _) (a := ⟨w.heap.size + 1, 1, none⟩) (by simp) _
          · have := bk_set (bk_set (bk_set hb1 1 (.int .i64 ((q : Int) + 1))) 0 (.int .i64 ((l : Int) + 1))) 1 (.int .i64 1)
            simpa using this
        case measure => simp [intOf]; omega
      · have d1 : ((x : Int) == 10) = false := by simp; omega
        rw [if_neg hx] at HS
        clear hx
        go_wp2
        go_roundw
        case rel =>
          refine ⟨n + 1, l, q + 1, by omega, by go_num, ?_, ?_, ?_, by omega, by omega, Lib.hid HS.out⟩
          · repeat (first | with_reducible exact hpr | with_reducible refine Pur.setCell ?_ (by simp) _)
          · exact B2'
          · simpa using B2
        case measure => simp [intOf]; omega
    · obtain rfl : n = m := by omega
      have HS := H.out
      rw [List.drop_of_length_le (by omega)] at HS
      clear hCell C0
      go_wp2
      refine bodyPost_ret (v := .agg #[.int .i64 (l : Int), .int .i64 (q : Int)]) (by simp [results, Tryz.results82, go_sem, y0, y1, x0, x1, f0, f1]) rfl ⟨?_, ?_⟩
      · rw [HS]; rfl
      · repeat (first | with_reducible exact hpr | with_reducible refine Pur.setCell ?_ (Nat.le_refl _) _)
/-- HOW A FAULT ENDS A CALL: nothing of it but blocks of S has turned of what lay before. -/
def Flt (S : List Nat) (w : World) (cs : Cs) (i n : Nat) (e : Ending) (w' : World) : Prop :=
  ∃ b, e = .panicked [{ v := .iface 67 (.pointer (some ⟨b, 0, none⟩)), recovered := false }] ∧ w.heap.size ≤ b ∧ Chg S w w' ∧
    w'.heap[b]? = some (.cells #[.int .i64 ((place cs i).1 : Int), .int .i64 ((place cs i).2 : Int), .iface 42 (.int .i64 (n : Int))] 71 (0, 0))
theorem Flt.next {S S' : List Nat} {w w1 w' : World} {cs : Cs} {i n : Nat} {e : Ending} (h : Chg S w w1) (k : Flt S' w1 cs i n e w') (hs : ∀ b ∈ S', b ∈ S ∨ w.heap.size ≤ b) : Flt S w cs i n e w' := by
  obtain ⟨b, h1, h2, h3, h4⟩ := k
  exact ⟨b, h1, Nat.le_trans h.size h2, h.next h3 hs, h4⟩
theorem Flt.after {S : List Nat} {w w1 w' : World} {cs : Cs} {i n : Nat} {e : Ending} (h : Chg S w w1) (k : Flt S w1 cs i n e w') : Flt S w cs i n e w' := k.next h fun _ hb => .inl hb
set_option maxRecDepth 100000 in
theorem fail_any {w : World} {p : Pl} {d : Sd} (h : At w p d) (S : List Nat) (i : Nat) (n : Nat) (hi : i ≤ 1000000) : Calls Tryz.prog 52 #[.pointer (some ⟨p.s, 0, none⟩), .int .i64 (i : Int), .int .i64 (n : Int)] w fun e w' => Flt S w d.cs i n e w' := by
  have PL := place_any h i hi
  go_enter Tryz.func52, Tryz.ntmps52
  go_wp2_with fail
  refine PL.mono ?_
  rintro e w1 ⟨rfl, h1⟩
  go_wp2
  refine ⟨rfl, w1.heap.size, rfl, h1.size, (Chg.of_pur h1).alloc _, ?_⟩
  exact bk_new w1 _
/-- over some characters: now q is left -/
def Went (p : Pl) (d : Sd) (w : World) (q : Cs) (w' : World) : Prop := ∃ j, d.cs.drop j = q ∧ d.i ≤ j ∧ j ≤ d.cs.length ∧ At w' p { d with i := j } ∧ Chg [p.s] w w'
/-- how a part of the scanner ends that goes over characters alone -/
def Gives {α : Type} (p : Pl) (d : Sd) (w : World) (r : R α) (v : α → Value) (e : Ending) (w' : World) : Prop := match r with
  | .ok (a, q) => e = .returned (v a) ∧ Went p d w q w'
  | .error (k, n) => Flt [p.s] w d.cs (d.cs.length - k) n e w'
/-- a whole number in a cell -/
def natAt (w : World) (a : Addr) : Nat := match w.cell? a with | some (.int _ n) => n.toNat | _ => 0
theorem At.nat {w : World} {p : Pl} {d : Sd} (h : At w p d) : natAt w ⟨p.s, 1, none⟩ = d.i := by simp [natAt, h.c1]
theorem rest_nil {d : Sd} (h : d.rest = []) : d.cs.length ≤ d.i := by unfold Sd.rest at h; simpa using h
theorem rest_cons {d : Sd} {c : Nat} {q : Cs} (h : d.rest = c :: q) : d.i < d.cs.length ∧ d.cs.drop (d.i + 1) = q ∧ (c :: q).length = d.cs.length - d.i := by
  unfold Sd.rest at h
  have hl : d.i < d.cs.length := by
    rcases Nat.lt_or_ge d.i d.cs.length with h1 | h1
    · exact h1
    · rw [List.drop_of_length_le h1] at h; cases h
  have e := drop_cons d.cs d.i hl
  rw [h] at e
  refine ⟨hl, (List.cons.inj e).2.symm, ?_⟩
  rw [← h, List.length_drop]
theorem rest_len {d : Sd} : d.rest.length = d.cs.length - d.i := by unfold Sd.rest; simp
set_option maxRecDepth 100000 in
theorem take_any {w : World} {p : Pl} {d : Sd} (h : At w p d) (hi : d.i ≤ d.cs.length) (c : UInt8) : Calls Tryz.prog 84 #[.pointer (some ⟨p.s, 0, none⟩), .string ⟨#[c]⟩] w fun e w' => Gives p d w (takeC c.toNat d.rest) (fun _ => .tuple #[]) e w' := by
  have PK : ∀ x : PW w, _ := fun x => peek_any (h.pur x.pur)
  have hcl := h.clen
  have b0 : by8 [c] 0 = c.toNat := rfl
  have hc := c.toNat_lt
  go_enter Tryz.func84, Tryz.ntmps84
  go_wp2
  go_loopw [7] (fun k wr => (k = .int .i64 0 ∧ wr = w) ∨ (k = .int .i64 1 ∧ takeC c.toNat d.rest = .ok ((), d.cs.drop (d.i + 1)) ∧ d.i < d.cs.length ∧ At wr p { d with i := d.i + 1 } ∧ Chg [p.s] w wr)) (fun k _ => 1 - (intOf k).toNat)
  case atStart => exact .inl ⟨rfl, rfl⟩
  case round =>
    rcases hrel with ⟨rfl, rfl⟩ | ⟨rfl, h1, hlt, h2, h3⟩
    · generalize hbc : c.toNat = m at *
      obtain ⟨bo, hbo⟩ : ∃ bo : Bool, (pk d.rest != (m : Int)) = bo := ⟨_, rfl⟩
      generalize hpk : pk d.rest = x at *
      rcases bo with _ | _
      · go_wp2
        refine wp_region_pur (by kernel_rfl) (by kernel_rfl) ?_
        repeat (go_big_quiet_step ((go_at_call 45; with_reducible exact quiet_pur (PK _))))
        refine wpQuiet_nil ?_
        intro wq hq
        have h1 := h.pur hq
        have c1 := h1.c1
        have f1 := h1.f 1
        rcases hr : d.rest with _ | ⟨y, q⟩
        · rw [hr] at hpk
          simp only [bne_eq_false_iff_eq, pk] at hbo hpk
          omega
        · obtain ⟨hlt, hq2, hlen⟩ := rest_cons hr
          have w1 : IntKind.i64.wrap ((d.i : Int) + 1) = (d.i : Int) + 1 := IntWalk.i64_in _ (by omega)
          go_wp2
          go_roundw
          case rel =>
            refine .inr ⟨by go_num, ?_, hlt, h1.seti (d.i + 1) _ (by omega), (Chg.of_pur hq).setCell (.inl (by simp)) _⟩
            rw [hr] at hpk
            simp only [bne_eq_false_iff_eq, pk] at hbo hpk
            rw [hr, hq2, takeC, if_pos (by omega)]
          case measure => simp [intOf]
      · go_wp2
        refine wp_region_pur (by kernel_rfl) (by kernel_rfl) ?_
        repeat (go_big_quiet_step ((go_at_call 45; with_reducible exact quiet_pur (PK _))))
        refine wpQuiet_nil ?_
        intro wq hq
        have h1 := h.pur hq
        have c1 := h1.c1
        have FL := fail_any h1 [p.s] d.i 21 (by omega)
        go_wp2_with fail
        refine FL.mono ?_
        rintro e w2 hf
        obtain ⟨b, rfl, hf2⟩ := id hf
        go_wp2
        refine ⟨rfl, ?_⟩
        have hf' := Flt.after (Chg.of_pur hq) hf
        rcases hr : d.rest with _ | ⟨y, q⟩
        · have := rest_nil hr
          simp only [takeC, Gives]
          rw [show d.cs.length - 0 = d.i by omega]
          exact hf'
        · obtain ⟨hlt, hq2, hlen⟩ := rest_cons hr
          rw [hr] at hpk
          simp only [bne_iff_ne, ne_eq, pk] at hbo hpk
          rw [takeC, if_neg (by omega)]
          simp only [Gives]
          rw [hlen, show d.cs.length - (d.cs.length - d.i) = d.i by omega]
          exact hf'
    · go_wp2
      refine bodyPost_end (results_none rfl _ _ _) rfl ?_
      rw [h1]
      exact ⟨rfl, d.i + 1, rfl, by omega, by omega, h2, h3⟩
set_option maxRecDepth 100000 in
theorem blanks_any {w : World} {p : Pl} {d : Sd} (h : At w p d) (hi : d.i ≤ d.cs.length) : Calls Tryz.prog 83 #[.pointer (some ⟨p.s, 0, none⟩)] w fun e w' => e = .returned (.bool (decide ((blanks d.rest).length < d.rest.length))) ∧ Went p d w (blanks d.rest) w' := by
  have hcl := h.clen
  have c1 := h.c1
  go_enter Tryz.func83, Tryz.ntmps83
  go_wp2
  go_loopw [8] (fun _ wr => ∃ j, d.i ≤ j ∧ j ≤ d.cs.length ∧ At wr p { d with i := j } ∧ Chg [p.s] w wr ∧ Hid (blanks d.rest = blanks (d.cs.drop j))) (fun _ wr => d.cs.length + 1 - natAt wr ⟨p.s, 1, none⟩)
  case atStart => exact ⟨d.i, by omega, by omega, h, Chg.refl _ _, Lib.hid rfl⟩
  case round =>
    obtain ⟨j, h1, h2, h3, h4, H⟩ := hrel
    have PK := peek_any h3
    have BL := fun w => blank_any (pk (d.cs.drop j)) w (by cases d.cs.drop j <;> simp [pk] <;> omega)
    rw [on_pk] at BL
    unfold Sd.rest at PK
    simp only at PK
    rcases hb : hd blank (d.cs.drop j) with _ | _
    · rw [hb] at BL
      go_wp2_with fail
      refine PK.mono ?_
      rintro e w1 ⟨rfl, hp1⟩
      go_wp2_with fail
      refine (BL _).mono ?_
      rintro e w2 ⟨rfl, rfl⟩
      have k3 := h3.pur hp1
      have c1 := k3.c1
      have hbl : blanks (d.cs.drop j) = d.cs.drop j := by
        unfold blanks
        cases hx : d.cs.drop j with
        | nil => rfl
        | cons x q => rw [hx] at hb; simp only [hd] at hb; simp [List.dropWhile, hb]
      have d1 : decide (d.i < j) = decide ((blanks d.rest).length < d.rest.length) := by
        rw [H.out, hbl, rest_len, List.length_drop, Bool.eq_iff_iff]
        simp only [decide_eq_true_eq]
        omega
      go_wp2
      go_ret
      refine ⟨by rw [← d1]; rfl, j, by rw [H.out, hbl], h1, h2, k3, h4.pur hp1⟩
    · rw [hb] at BL
      have hj : j < d.cs.length := by
        rcases Nat.lt_or_ge j d.cs.length with g | g
        · exact g
        · rw [List.drop_of_length_le g] at hb; cases hb
      have w1 : IntKind.i64.wrap ((j : Int) + 1) = (j : Int) + 1 := IntWalk.i64_in _ (by omega)
      go_wp2_with fail
      refine PK.mono ?_
      rintro e w1 ⟨rfl, hp1⟩
      go_wp2_with fail
      refine (BL _).mono ?_
      rintro e w2 ⟨rfl, rfl⟩
      have k3 := h3.pur hp1
      have c1 := k3.c1
      have f1 := k3.f 1
      have k4 := k3.seti (j + 1) ((j : Int) + 1) (by omega)
      have e4 := k4.nat
      have e3 := h3.nat
      go_wp2
      go_roundw
      case rel =>
        refine ⟨j + 1, by omega, by omega, k4, (h4.pur hp1).setCell (.inl (by simp)) _, Lib.hid ?_⟩
        rw [H.out, drop_cons d.cs j hj]
        rw [drop_cons d.cs j hj] at hb
        simp only [hd] at hb
        rw [blanks, List.dropWhile_cons, if_pos hb]
        rfl
      case measure => rw [e3, e4]; omega
end Tk
end Go.Proofs.YtigfcchblfnnbaaGreatDoor
namespace Go.Proofs.YtigfcchblfnnbaaGreatDoor
open Go Go.RowKit
set_option linter.all false
theorem enc_len (c : Nat) : (enc c).length ≤ 4 := by
  unfold enc
  repeat (first | split | simp)
theorem bld_size : ∃ j, Tryz.prog.info? 77 = some j ∧ j.size = 2 := by
  have h : (Tryz.prog.info? 77).map (·.size) = some 2 := by kernel_rfl
  exact Option.map_eq_some_iff.1 h
theorem bld_lies : liesAt Tryz.prog Tryz.prog.depth 77 (2 / Tryz.prog.cellsOf 77) 0 77 1 = true := by kernel_rfl
theorem byte_info : (Tryz.prog.info? 5).map (fun i => (i.zero, i.size, i.bytes)) = some (some (.int .u8 0), 1, 1) := by kernel_rfl
set_option maxRecDepth 100000 in
set_option maxHeartbeats 1000000 in
theorem copyCheck_used (b : Nat) (w : World) (h0 : w.cell? ⟨b, 0, none⟩ = some (.pointer (some ⟨b, 0, none⟩))) :
    Calls Tryz.prog 73 #[.pointer (some ⟨b, 0, none⟩)] w fun e w' => e = .returned (.tuple #[]) ∧ w' = w := by
  obtain ⟨j, hj, _⟩ := bld_size
  go_enter Tryz.func73, Tryz.ntmps73
  go_wp2
  rw [Lib.run_neq_ptr_same w _ Tryz.underlying74 hj]
  go_wp2
  go_end0
  exact ⟨rfl, rfl⟩
set_option maxRecDepth 100000 in
set_option maxHeartbeats 1000000 in
theorem copyCheck_fresh (b : Nat) (w : World) (h0 : w.cell? ⟨b, 0, none⟩ = some (.pointer none)) (hsh : w.shape? b = some (77, 2)) (hfz : w.frozen? ⟨b, 0, none⟩ = false) :
    Calls Tryz.prog 73 #[.pointer (some ⟨b, 0, none⟩)] w fun e w' => e = .returned (.tuple #[]) ∧ w' = w.setCell ⟨b, 0, none⟩ (.pointer (some ⟨b, 0, none⟩)) := by
  obtain ⟨j, hj, hjs⟩ := bld_size
  go_enter Tryz.func73, Tryz.ntmps73
  go_wp2
  rw [Lib.run_to_unsafe w ⟨b, 0, none⟩ Tryz.underlying74 Tryz.underlying91 hj (by rw [hjs]; decide) hsh (Nat.zero_lt_succ 1)]
  simp only [Result.andThen]
  rw [Oper.upon_value]
  go_wp2
  rw [run_callFunc_extern Tryz.func102 (by kernel_rfl) (by kernel_rfl) (by kernel_rfl) (e := Extern.AbiNoEscape.same) (by kernel_rfl)]
  rw [Lib.run_noEscape]
  simp only [Result.andThen]
  rw [Oper.upon_value]
  go_wp2
  rw [Lib.run_from_unsafe w ⟨b, 0, none⟩ Tryz.underlying91 Tryz.underlying74 hj hsh bld_lies]
  simp only [Result.andThen]
  rw [Oper.upon_value]
  go_wp2
  go_end0
  exact ⟨rfl, rfl⟩
theorem copyCheck_any (B b : Nat) (bs : List Value) (w : World) (h : Lib.IsBuilder 77 5 B b bs w) :
    Calls Tryz.prog 73 #[.pointer (some ⟨b, 0, none⟩)] w fun e w' => e = .returned (.tuple #[]) ∧ (Lib.BuilderAt 77 5 B b (.pointer (some ⟨b, 0, none⟩)) bs w' ∧ Below B w w') := by
  rcases h with h | h
  · refine (copyCheck_fresh b w h.cell0 h.shape h.frozen0).mono ?_
    rintro e w' ⟨rfl, rfl⟩
    exact ⟨rfl, h.used _, (Below.refl B w).setCell (p := ⟨b, 0, none⟩) h.1 _⟩
  · refine (copyCheck_used b w h.cell0).mono ?_
    rintro e w' ⟨rfl, rfl⟩
    exact ⟨rfl, h, Below.refl B _⟩
set_option maxRecDepth 100000 in
set_option maxHeartbeats 2000000 in
theorem bld_rune (B b : Nat) (acc : List UInt8) (c : Nat) (hc : okc c) (w : World) (h : Lib.IsBuilder 77 5 B b (Lib.byteCells acc) w) (hlen : acc.length + 4 ≤ 140737488355328) (hBw : B ≤ w.heap.size) :
    Calls Tryz.prog 111 #[.pointer (some ⟨b, 0, none⟩), .int .i32 (c : Int)] w fun e w' => (∃ m : Int, e = .returned (.tuple #[.int .i64 m, .nilIface])) ∧ (Lib.BuilderAt 77 5 B b (.pointer (some ⟨b, 0, none⟩)) (Lib.byteCells (acc ++ enc c)) w' ∧ Below B w w') := by
  have hcb : c ≤ 1114111 := by unfold okc at hc; omega
  have hel := enc_len c
  have hw1 : IntKind.i64.wrap (((acc ++ enc c).length : Int) - (acc.length : Int)) = ((acc ++ enc c).length : Int) - (acc.length : Int) := IntWalk.i64_in _ (by rw [List.length_append]; omega)
  go_enter Tryz.func111, Tryz.ntmps111
  go_wp2_with (go_at_call 73; refine (copyCheck_any B b _ _ h).mono ?_)
  rintro e w1 ⟨rfl, h1, hb1⟩
  obtain ⟨hB, v, hbk, hown, hne⟩ := h1
  have c0 : w1.cell? ⟨b, 0, none⟩ = some (.pointer (some ⟨b, 0, none⟩)) := by rw [Lib.cell_of_heap hbk]; rfl
  have c1 : w1.cell? ⟨b, 1, none⟩ = some v := by rw [Lib.cell_of_heap hbk]; rfl
  have hlt : b < w1.heap.size := by
    rcases Nat.lt_or_ge b w1.heap.size with h' | h'
    · exact h'
    · simp [Array.getElem?_eq_none h'] at hbk
  have hbl : (Lib.byteCells acc).length = acc.length := by simp [Lib.byteCells]
  rw [hbl] at hown
  obtain ⟨ao, cap, rfl⟩ : ∃ ao cap, v = .slice ao acc.length cap := by
    rcases hown.2 with ⟨hv, h0⟩ | ⟨g, cap, cur, hv, _⟩
    · exact ⟨none, 0, by rw [hv, h0]⟩
    · exact ⟨_, _, hv⟩
  have AR := Tryz.utf8_AppendRune_plain B _ acc.length _ (c : Int) (by omega) (by omega) w1 hown hlen (Nat.le_trans hBw hb1.size)
  go_wp2_with fail
  refine AR.mono ?_
  rintro e w2 ⟨v', rfl, hown', o, hgrow⟩
  have hb2 : w2.heap[b]? = some (.cells #[.pointer (some ⟨b, 0, none⟩), .slice ao acc.length cap] 77 (0, 0)) := by
    rw [hgrow.block b (by simp; omega) (fun e => hne e.symm), Lib.alloc_old w1 _ b hlt]
    exact hbk
  have hrc : (Lib.runeCells (c : Int)).length = (enc c).length := by rw [← bv_enc c hc]; simp [bv]
  have hown2 : w2.ownsRow B 5 1 v' (acc ++ enc c).length (Lib.byteCells (acc ++ enc c)) := by
    rw [List.length_append, ← hrc]
    have : Lib.byteCells (acc ++ enc c) = Lib.byteCells acc ++ Lib.runeCells (c : Int) := by rw [← bv_enc c hc]; simp [Lib.byteCells, bv]
    rw [this]
    exact hown'
  obtain ⟨ao', cap', rfl⟩ : ∃ ao cap, v' = .slice ao (acc ++ enc c).length cap := by
    rcases hown2.2 with ⟨hv, h0⟩ | ⟨g, cap, cur, hv, _⟩
    · exact ⟨none, 0, by rw [hv, h0]⟩
    · exact ⟨_, _, hv⟩
  have d0 : w2.cell? ⟨b, 0, none⟩ = some (.pointer (some ⟨b, 0, none⟩)) := by rw [Lib.cell_of_heap hb2]; rfl
  have d1 : w2.cell? ⟨b, 1, none⟩ = some (.slice ao acc.length cap) := by rw [Lib.cell_of_heap hb2]; rfl
  have f1 : w2.frozen? ⟨b, 1, none⟩ = false := Lib.frozen_of_heap hb2 1
  generalize (acc ++ enc c).length = N at *
  clear hown' AR
  go_wp2
  go_ret2
  refine ⟨⟨_, rfl⟩, ?_, ?_⟩
  · exact Lib.BuilderAt.put (T := 77) (e := 5) hB hb2 (bs' := Lib.byteCells (acc ++ enc c)) (by have := hown2.1; rw [Nat.mul_one] at this; rw [this]; exact hown2) (by decide)
  · exact ((hb1.alloc (by have := hb1.size; omega) _).grown hgrow (by have := hb1.size; simp; omega) (fun k hk => (hown.lt k hk).1)).setCell (p := ⟨b, 1, none⟩) hB _
end Go.Proofs.YtigfcchblfnnbaaGreatDoor
