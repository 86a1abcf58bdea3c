/- Layer 2: reading a document, one character at a time, as the document's answer does it. -/
import Derived.Test.YtaknfofppknloaaGreatDoorTr12
import Derived.Test.YtaknfofppknloaaGreatDoorTzP
namespace Go.Proofs.YtaknfofppknloaaGreatDoor
open Go Go.RowKit
set_option linter.all false
namespace Tk
/-- one character: its number and how many bytes it takes, or why it is refused -/
def rdOne (l : List UInt8) (i : Nat) : Except Nat (Nat × Nat) :=
  if (chr l i).2 = 0 then .error 10
  else if (chr l i).1 = 13 then .ok (10, if by8 l (i + 1) = 10 then 2 else 1)
  else if allowed (chr l i).1 then .ok ((chr l i).1, (chr l i).2)
  else .error 20
theorem readGo_bad {l : List UInt8} {f i e : Nat} (hi : i < l.length) (h : rdOne l i = .error e) : readGo l (f + 1) i = ([], e) ∧ e ≠ 0 := by
  rw [readGo, if_pos hi]
  unfold rdOne at h
  split at h
  · rename_i h0; rw [if_pos h0]; cases h; exact ⟨rfl, by omega⟩
  · rename_i h0
    rw [if_neg h0]
    split at h
    · cases h
    · rename_i h1
      rw [if_neg h1]
      split at h
      · cases h
      · rename_i h2
        rw [if_neg h2]; cases h; exact ⟨rfl, by omega⟩
theorem readGo_one {l : List UInt8} {f i c n : Nat} (hi : i < l.length) (h : rdOne l i = .ok (c, n)) : readGo l (f + 1) i = (c :: (readGo l f (i + n)).1, (readGo l f (i + n)).2) := by
  rw [readGo, if_pos hi]
  unfold rdOne at h
  split at h
  · cases h
  · rename_i h0
    rw [if_neg h0]
    split at h
    · rename_i h1
      rw [if_pos h1]
      cases h
      by_cases hb : by8 l (i + 1) = 10
      · simp only [if_pos hb]
      · simp only [if_neg hb]
    · rename_i h1
      rw [if_neg h1]
      split at h
      · rename_i h2
        rw [if_pos h2]; cases h; rfl
      · cases h
theorem rdOne_ok {l : List UInt8} {i c n : Nat} (hi : i < l.length) (h : rdOne l i = .ok (c, n)) : allowed c = true ∧ 0 < n ∧ i + n ≤ l.length ∧ c ≤ 1114111 := by
  have hb := chr_bd l i
  have he := chr_end l i
  unfold rdOne at h
  split at h
  · cases h
  · rename_i h0
    split at h
    · cases h
      refine ⟨by decide, by split <;> omega, ?_, by omega⟩
      split
      · rename_i hb
        rcases Nat.lt_or_ge (i + 1) l.length with g | g
        · omega
        · rw [by8_ge l (i + 1) g] at hb; cases hb
      · omega
    · split at h
      · rename_i h2
        cases h
        exact ⟨h2, by omega, he h0, hb.1⟩
      · cases h
/-- a character's bytes, where it is not refused -/
theorem chr_text {l : List UInt8} {i : Nat} (hi : i < l.length) (h : (chr l i).2 ≠ 0) : sub l i (i + (chr l i).2) = enc (chr l i).1 := (enc_chr l i h).2
def spotV (sp : List (Nat × Nat)) : List Value := sp.flatMap fun q => [.int .i64 (q.1 : Int), .int .i64 (q.2 : Int)]
/-- where the reading stands: the scan's block, the place's block, the three rows -/
structure Rd (w0 w : World) (r : Ro) (q : Nat) (tx ch : Cs) (sp : List (Nat × Nat)) (pl : Nat × Nat) : Prop where
  own : w.heap[r.p]? = some (.cells #[r.tv, r.cv, r.av, .int .i64 0, .int .i64 0, .int .i64 0, .int .i64 0] 53 (0, 0))
  pos : w.heap[q]? = some (.cells #[.int .i64 (pl.1 : Int), .int .i64 (pl.2 : Int)] 29 (0, 0))
  text : w.ownsRow w0.heap.size 9 1 r.tv tx.length (encs tx)
  chars : w.ownsRow w0.heap.size 3 1 r.cv ch.length (ints ch)
  spots : w.ownsRow w0.heap.size 29 2 r.av sp.length (spotV sp)
  pur : Pur w0 w
  lop : w0.heap.size ≤ r.p
  loq : w0.heap.size ≤ q
  pq : r.p ≠ q
  pt : r.tv.ownBlock ≠ some r.p
  pc : r.cv.ownBlock ≠ some r.p
  pa : r.av.ownBlock ≠ some r.p
  qt : r.tv.ownBlock ≠ some q
  qc : r.cv.ownBlock ≠ some q
  qa : r.av.ownBlock ≠ some q
  tc : ∀ g, r.tv.ownBlock = some g → r.cv.ownBlock ≠ some g
  ta : ∀ g, r.tv.ownBlock = some g → r.av.ownBlock ≠ some g
  ca : ∀ g, r.cv.ownBlock = some g → r.av.ownBlock ≠ some g
section
variable {w0 w : World} {r : Ro} {q : Nat} {tx ch : Cs} {sp : List (Nat × Nat)} {pl : Nat × Nat}
theorem Rd.purd {w' : World} (h : Rd w0 w r q tx ch sp pl) (hp : Pur w w') : Rd w0 w' r q tx ch sp pl :=
  ⟨bk_pur h.own hp, bk_pur h.pos hp, row_pur h.text hp, row_pur h.chars hp, row_pur h.spots hp, h.pur.trans hp, h.lop, h.loq, h.pq, h.pt, h.pc, h.pa, h.qt, h.qc, h.qa, h.tc, h.ta, h.ca⟩
theorem Rd.sett (h : Rd w0 w r q tx ch sp pl) {o : Obj} {w7 : World} {v : Value} {l1 : List (Nat)} (hown : w7.ownsRow w0.heap.size 9 1 v l1.length (encs l1)) (hg : (w.alloc o).grownBy w7 r.tv.ownBlock) (hloc : v.ownBlock = r.tv.ownBlock ∨ v.ownBlock = some (w.heap.size + 1)) :
    Rd w0 (w7.setCell ⟨r.p, 0, none⟩ v) { r with tv := v } q l1 ch sp pl := by
  have hs : (w.alloc o).heap.size = w.heap.size + 1 := Array.size_push _
  have hb0 : ∀ b, b < w.heap.size → r.tv.ownBlock ≠ some b → w7.heap[b]? = w.heap[b]? := fun b hb hne => (hg.block b (by omega) (fun e => hne e.symm)).trans (((Pur.refl w).alloc o).block b hb)
  have hW : ∀ b, b < w.heap.size → r.tv.ownBlock ≠ some b → b ≠ r.p → (w7.setCell ⟨r.p, 0, none⟩ v).heap[b]? = w.heap[b]? := fun b hb hne hp => (RowKit.Below.heap_setCell _ _ _ _ (fun e => hp (by first | exact e | exact e.symm))).trans (hb0 b hb hne)
  have hpl := bk_lt h.own
  have hql := bk_lt h.pos
  have K7 := (hb0 r.p hpl h.pt).trans h.own
  have hlo : ∀ b, r.tv.ownBlock = some b → w0.heap.size ≤ b := fun b hb => (h.text.lt b hb).1
  have hvp : v.ownBlock ≠ some r.p := fun e => by
    rcases hloc with g | g
    · exact h.pt (g.symm.trans e)
    · rw [g] at e; simp only [Option.some.injEq] at e; omega
  have hvq : v.ownBlock ≠ some q := fun e => by
    rcases hloc with g | g
    · exact h.qt (g.symm.trans e)
    · rw [g] at e; simp only [Option.some.injEq] at e; omega
  have hvc : ∀ g, r.cv.ownBlock = some g → v.ownBlock ≠ some g := fun g hb e => by
    rcases hloc with hh | hh
    · exact (fun e => h.tc g e hb) (hh.symm.trans e)
    · rw [hh] at e; simp only [Option.some.injEq] at e; have := (h.chars.lt g hb).2; omega
  have hva : ∀ g, r.av.ownBlock = some g → v.ownBlock ≠ some g := fun g hb e => by
    rcases hloc with hh | hh
    · exact (fun e => h.ta g e hb) (hh.symm.trans e)
    · rw [hh] at e; simp only [Option.some.injEq] at e; have := (h.spots.lt g hb).2; omega
  have hpur : Pur w0 (w7.setCell ⟨r.p, 0, none⟩ v) := ((((Chg.of_pur (S := []) h.pur).alloc o).grown hg (fun b hb => .inr (hlo b hb))).setCell (a := ⟨r.p, 0, none⟩) (.inr h.lop) v).to_pur (by simp)
  exact ⟨by have := bk_set K7 0 v; simpa using this, (hW q hql h.qt (fun e => h.pq e.symm)).trans h.pos, row_set hown (a := ⟨r.p, 0, none⟩) hvp v, row_same h.chars fun g hb => hW g (h.chars.lt g hb).2 (fun e => h.tc g e hb) (fun e => h.pc (by rw [hb, e])), row_same h.spots fun g hb => hW g (h.spots.lt g hb).2 (fun e => h.ta g e hb) (fun e => h.pa (by rw [hb, e])), hpur, h.lop, h.loq, h.pq, hvp, h.pc, h.pa, hvq, h.qc, h.qa, (fun g e hb => hvc g hb e), (fun g e hb => hva g hb e), h.ca⟩
theorem Rd.setc (h : Rd w0 w r q tx ch sp pl) {o : Obj} {w7 : World} {v : Value} {l1 : List (Nat)} (hown : w7.ownsRow w0.heap.size 3 1 v l1.length (ints l1)) (hg : (w.alloc o).grownBy w7 r.cv.ownBlock) (hloc : v.ownBlock = r.cv.ownBlock ∨ v.ownBlock = some (w.heap.size + 1)) :
    Rd w0 (w7.setCell ⟨r.p, 1, none⟩ v) { r with cv := v } q tx l1 sp pl := by
  have hs : (w.alloc o).heap.size = w.heap.size + 1 := Array.size_push _
  have hb0 : ∀ b, b < w.heap.size → r.cv.ownBlock ≠ some b → w7.heap[b]? = w.heap[b]? := fun b hb hne => (hg.block b (by omega) (fun e => hne e.symm)).trans (((Pur.refl w).alloc o).block b hb)
  have hW : ∀ b, b < w.heap.size → r.cv.ownBlock ≠ some b → b ≠ r.p → (w7.setCell ⟨r.p, 1, none⟩ v).heap[b]? = w.heap[b]? := fun b hb hne hp => (RowKit.Below.heap_setCell _ _ _ _ (fun e => hp (by first | exact e | exact e.symm))).trans (hb0 b hb hne)
  have hpl := bk_lt h.own
  have hql := bk_lt h.pos
  have K7 := (hb0 r.p hpl h.pc).trans h.own
  have hlo : ∀ b, r.cv.ownBlock = some b → w0.heap.size ≤ b := fun b hb => (h.chars.lt b hb).1
  have hvp : v.ownBlock ≠ some r.p := fun e => by
    rcases hloc with g | g
    · exact h.pc (g.symm.trans e)
    · rw [g] at e; simp only [Option.some.injEq] at e; omega
  have hvq : v.ownBlock ≠ some q := fun e => by
    rcases hloc with g | g
    · exact h.qc (g.symm.trans e)
    · rw [g] at e; simp only [Option.some.injEq] at e; omega
  have hvt : ∀ g, r.tv.ownBlock = some g → v.ownBlock ≠ some g := fun g hb e => by
    rcases hloc with hh | hh
    · exact (h.tc g hb) (hh.symm.trans e)
    · rw [hh] at e; simp only [Option.some.injEq] at e; have := (h.text.lt g hb).2; omega
  have hva : ∀ g, r.av.ownBlock = some g → v.ownBlock ≠ some g := fun g hb e => by
    rcases hloc with hh | hh
    · exact (fun e => h.ca g e hb) (hh.symm.trans e)
    · rw [hh] at e; simp only [Option.some.injEq] at e; have := (h.spots.lt g hb).2; omega
  have hpur : Pur w0 (w7.setCell ⟨r.p, 1, none⟩ v) := ((((Chg.of_pur (S := []) h.pur).alloc o).grown hg (fun b hb => .inr (hlo b hb))).setCell (a := ⟨r.p, 1, none⟩) (.inr h.lop) v).to_pur (by simp)
  exact ⟨by have := bk_set K7 1 v; simpa using this, (hW q hql h.qc (fun e => h.pq e.symm)).trans h.pos, row_same h.text fun g hb => hW g (h.text.lt g hb).2 (h.tc g hb) (fun e => h.pt (by rw [hb, e])), row_set hown (a := ⟨r.p, 1, none⟩) hvp v, row_same h.spots fun g hb => hW g (h.spots.lt g hb).2 (fun e => h.ca g e hb) (fun e => h.pa (by rw [hb, e])), hpur, h.lop, h.loq, h.pq, h.pt, hvp, h.pa, h.qt, hvq, h.qa, (fun g hb e => hvt g hb e), h.ta, (fun g e hb => hva g hb e)⟩
theorem Rd.seta (h : Rd w0 w r q tx ch sp pl) {o : Obj} {w7 : World} {v : Value} {l1 : List (Nat × Nat)} (hown : w7.ownsRow w0.heap.size 29 2 v l1.length (spotV l1)) (hg : (w.alloc o).grownBy w7 r.av.ownBlock) (hloc : v.ownBlock = r.av.ownBlock ∨ v.ownBlock = some (w.heap.size + 1)) :
    Rd w0 (w7.setCell ⟨r.p, 2, none⟩ v) { r with av := v } q tx ch l1 pl := by
  have hs : (w.alloc o).heap.size = w.heap.size + 1 := Array.size_push _
  have hb0 : ∀ b, b < w.heap.size → r.av.ownBlock ≠ some b → w7.heap[b]? = w.heap[b]? := fun b hb hne => (hg.block b (by omega) (fun e => hne e.symm)).trans (((Pur.refl w).alloc o).block b hb)
  have hW : ∀ b, b < w.heap.size → r.av.ownBlock ≠ some b → b ≠ r.p → (w7.setCell ⟨r.p, 2, none⟩ v).heap[b]? = w.heap[b]? := fun b hb hne hp => (RowKit.Below.heap_setCell _ _ _ _ (fun e => hp (by first | exact e | exact e.symm))).trans (hb0 b hb hne)
  have hpl := bk_lt h.own
  have hql := bk_lt h.pos
  have K7 := (hb0 r.p hpl h.pa).trans h.own
  have hlo : ∀ b, r.av.ownBlock = some b → w0.heap.size ≤ b := fun b hb => (h.spots.lt b hb).1
  have hvp : v.ownBlock ≠ some r.p := fun e => by
    rcases hloc with g | g
    · exact h.pa (g.symm.trans e)
    · rw [g] at e; simp only [Option.some.injEq] at e; omega
  have hvq : v.ownBlock ≠ some q := fun e => by
    rcases hloc with g | g
    · exact h.qa (g.symm.trans e)
    · rw [g] at e; simp only [Option.some.injEq] at e; omega
  have hvt : ∀ g, r.tv.ownBlock = some g → v.ownBlock ≠ some g := fun g hb e => by
    rcases hloc with hh | hh
    · exact (h.ta g hb) (hh.symm.trans e)
    · rw [hh] at e; simp only [Option.some.injEq] at e; have := (h.text.lt g hb).2; omega
  have hvc : ∀ g, r.cv.ownBlock = some g → v.ownBlock ≠ some g := fun g hb e => by
    rcases hloc with hh | hh
    · exact (h.ca g hb) (hh.symm.trans e)
    · rw [hh] at e; simp only [Option.some.injEq] at e; have := (h.chars.lt g hb).2; omega
  have hpur : Pur w0 (w7.setCell ⟨r.p, 2, none⟩ v) := ((((Chg.of_pur (S := []) h.pur).alloc o).grown hg (fun b hb => .inr (hlo b hb))).setCell (a := ⟨r.p, 2, none⟩) (.inr h.lop) v).to_pur (by simp)
  exact ⟨by have := bk_set K7 2 v; simpa using this, (hW q hql h.qa (fun e => h.pq e.symm)).trans h.pos, row_same h.text fun g hb => hW g (h.text.lt g hb).2 (h.ta g hb) (fun e => h.pt (by rw [hb, e])), row_same h.chars fun g hb => hW g (h.chars.lt g hb).2 (h.ca g hb) (fun e => h.pc (by rw [hb, e])), row_set hown (a := ⟨r.p, 2, none⟩) hvp v, hpur, h.lop, h.loq, h.pq, h.pt, h.pc, hvp, h.qt, h.qc, hvq, h.tc, (fun g hb e => hvt g hb e), (fun g hb e => hvc g hb e)⟩
theorem Rd.setp (h : Rd w0 w r q tx ch sp pl) (k : Nat) (v : Value) (pl' : Nat × Nat) (hk : (#[Value.int .i64 (pl.1 : Int), .int .i64 (pl.2 : Int)]).setIfInBounds k v = #[.int .i64 (pl'.1 : Int), .int .i64 (pl'.2 : Int)]) : Rd w0 (w.setCell ⟨q, k, none⟩ v) r q tx ch sp pl' := by
  have hW : ∀ b, b ≠ q → (w.setCell ⟨q, k, none⟩ v).heap[b]? = w.heap[b]? := fun b hp => RowKit.Below.heap_setCell _ _ _ _ (fun e => hp (by first | exact e | exact e.symm))
  have hpur : Pur w0 (w.setCell ⟨q, k, none⟩ v) := ((Chg.of_pur (S := []) h.pur).setCell (a := ⟨q, k, none⟩) (.inr h.loq) v).to_pur (by simp)
  exact ⟨(hW r.p h.pq).trans h.own, by have := bk_set h.pos k v; rw [hk] at this; exact this, row_same h.text fun g hb => hW g (fun e => h.qt (by rw [hb, e])), row_same h.chars fun g hb => hW g (fun e => h.qc (by rw [hb, e])), row_same h.spots fun g hb => hW g (fun e => h.qa (by rw [hb, e])), hpur, h.lop, h.loq, h.pq, h.pt, h.pc, h.pa, h.qt, h.qc, h.qa, h.tc, h.ta, h.ca⟩
end
end Tk
end Go.Proofs.YtaknfofppknloaaGreatDoor
