/- Layer 8: one call of a script, of the program. -/
import Derived.Test.YtfophnmnehpenaaDoorHA13
import Derived.Test.YtfophnmnehpenaaDoorHA16
import Derived.Test.YtfophnmnehpenaaDoorHA10
import Derived.Test.YtfophnmnehpenaaDoorHs1
namespace Go.Proofs.YtfophnmnehpenaaDoor
open Go Go.RowKit
set_option linter.all false
/-- a call -/
structure Cl where
  kind : Nat
  i : Int
  n : Int
  key : List UInt8
  v : Va
  items : List Va
  iv : Value
def Cl.cells (c : Cl) : List Value := [.int .u8 c.kind, .int .i64 c.i, .int .i64 c.n, .string ⟨c.key.toArray⟩, .int .i64 c.v.kind, .float .f64 c.v.num, .string ⟨c.v.text.toArray⟩, .int .i64 c.v.ref, c.iv]
def Cl.vv (c : Cl) : Value := .agg c.cells.toArray
/-- an answer -/
structure Rp where
  n : Int
  m : Int
  k : Int
  v : Va
  ok : Bool
  err : Int
  ka : Option Addr
  kn : Nat
  kc : Nat
  ia : Option Addr
  il : Nat
  ic : Nat
def Rp.cells (r : Rp) : List Value := [.int .i64 r.n, .int .i64 r.m, .int .i64 r.k, .int .i64 r.v.kind, .float .f64 r.v.num, .string ⟨r.v.text.toArray⟩, .int .i64 r.v.ref, .bool r.ok, .int .i64 r.err, .slice r.ka r.kn r.kc, .slice r.ia r.il r.ic]
def Rp.zero : Rp := ⟨0, 0, 0, Va.zero, false, 0, none, 0, 0, none, 0, 0⟩
def K3 (K : Nat → Prop) (b : Nat) : Nat → Prop := fun k => ((K k ∨ k = b) ∨ k = b + 1) ∨ k = b + 1 + 1
/-- where one stands in a call -/
structure PR (w0 : World) (hh G : Nat) (K : Nat → Prop) (o3 : Obj) (w wx : World) (d : Hd) (r : Rp) : Prop where
  hp : At w0 hh G (K3 K w.heap.size) wx d
  kept : Kept K w wx
  c5 : wx.heap[w.heap.size + 1 + 1]? = some (.cells r.cells.toArray 56 (0, 0))
  c4 : wx.heap[w.heap.size + 1]? = some (.cells Rp.zero.cells.toArray 56 (0, 0))
  c3 : wx.heap[w.heap.size]? = some o3
section
variable {w0 w wx wx' : World} {hh G : Nat} {K : Nat → Prop} {o3 : Obj} {d d' : Hd} {r r' : Rp}
theorem PR.call (h : PR w0 hh G K o3 w wx d r) (h1 : At w0 hh G (K3 K w.heap.size) wx' d') (h2 : Kept (K3 K w.heap.size) wx wx') : PR w0 hh G K o3 w wx' d' r :=
  ⟨h1, fun b hb => (h2 b (.inl (.inl (.inl hb)))).trans (h.kept b hb), (h2 _ (.inr rfl)).trans h.c5, (h2 _ (.inl (.inr rfl))).trans h.c4, (h2 _ (.inl (.inl (.inr rfl)))).trans h.c3⟩
theorem PR.pur (h : PR w0 hh G K o3 w wx d r) (hp : Pur wx wx') : PR w0 hh G K o3 w wx' d r := by
  obtain ⟨h1, h2⟩ := h.hp.pure hp
  exact h.call h1 h2
theorem At.setK {K : Nat → Prop} {w : World} (h : At w0 hh G K w d) {b : Nat} (hb : K b) (hw : w0.heap.size ≤ b) (j : Nat) (v : Value) : At w0 hh G K (w.setCell ⟨b, j, none⟩ v) d := by
  obtain ⟨s, h1, h2, h3, h4, h5⟩ := h.ex
  refine ⟨⟨s, h1.same fun c hc => RowKit.Below.heap_setCell _ _ _ _ (fun e => (h5 b hb).2 (by have e' : c = b := e; rw [← e']; exact hc)), h2, h3, h4, fun c hc => ⟨?_, (h5 c hc).2⟩⟩, h.ok, h.pur.setCell (p := ⟨b, j, none⟩) hw v⟩
  have := (h5 c hc).1
  simpa [World.setCell] using this
theorem PR.set (h : PR w0 hh G K o3 w wx d r) (hK : ∀ b, K b → b < w.heap.size) (hw : w0.heap.size ≤ w.heap.size) (j : Nat) (v : Value) (hr : r.cells.toArray.setIfInBounds j v = r'.cells.toArray) : PR w0 hh G K o3 w (wx.setCell ⟨w.heap.size + 1 + 1, j, none⟩ v) d r' := by
  refine ⟨h.hp.setK (.inr rfl) (by omega) j v, fun b hb => ?_, ?_, bk_other h.c4 (a := ⟨w.heap.size + 1 + 1, j, none⟩) (by simp) v, bk_other h.c3 (a := ⟨w.heap.size + 1 + 1, j, none⟩) (by simp only; omega) v⟩
  · have := hK b hb
    exact (RowKit.Below.heap_setCell _ _ _ _ (by simp only; omega)).trans (h.kept b hb)
  · have := bk_set h.c5 j v
    rw [hr] at this
    exact this
theorem PR.cell (h : PR w0 hh G K o3 w wx d r) (j : Nat) (v : Value) (hv : r.cells.toArray[j]? = some v) : wx.frozen? ⟨w.heap.size + 1 + 1, j, none⟩ = false ∧ wx.cell? ⟨w.heap.size + 1 + 1, j, none⟩ = some v := ⟨bk_free h.c5 j, bk_cell h.c5 j v hv⟩
end
theorem fin_set {w0 w wx : World} {hh G : Nat} {K : Nat → Prop} {d : Hd} (hK : ∀ b, K b → b < w.heap.size) (hw : w0.heap.size ≤ w.heap.size) (h : At w0 hh G (K3 K w.heap.size) wx d ∧ Kept K w wx) (j : Nat) (v : Value) :
    At w0 hh G (K3 K w.heap.size) (wx.setCell ⟨w.heap.size + 1, j, none⟩ v) d ∧ Kept K w (wx.setCell ⟨w.heap.size + 1, j, none⟩ v) :=
  ⟨h.1.setK (.inl (.inr rfl)) (by omega) j v, fun b hb => by
    have := hK b hb
    exact (RowKit.Below.heap_setCell _ _ _ _ (by simp only; omega)).trans (h.2 b hb)⟩
theorem func_st {w0 w : World} {hh G : Nat} {K : Nat → Prop} {d : Hd} (h : At w0 hh G K w d) (a b p : Int) :
    Calls Tryd.prog 48 #[.pointer (some ⟨hh, 0, none⟩), .int .i64 a, .int .i64 b, .int .i64 p] w fun e w' => e = .returned (.tuple #[.int .i64 (d.func a b p).1.1, .int .i64 (d.func a b p).1.2]) ∧ At w0 hh G K w' (d.func a b p).2 ∧ Kept K w w' := by
  obtain ⟨s, h1, h2, h3, h4, h5⟩ := h.ex
  subst h2 h3
  refine (func_any s a b p w h1 h.ok).mono ?_
  rintro e w' ⟨rfl, s', k1, k2, k3⟩
  exact ⟨rfl, h.next (h.ok.func a b p) h1 rfl h4 h5 k1 k2 k3⟩
theorem set_st {w0 w : World} {hh G : Nat} {K : Nat → Prop} {d : Hd} (h : At w0 hh G K w d) (i : Int) (key : List UInt8) (v : Va) (hvw : v.wf) (hkl : key.length ≤ 1000000) :
    Calls Tryd.prog 49 #[.pointer (some ⟨hh, 0, none⟩), .int .i64 i, .string ⟨key.toArray⟩, v.v] w fun e w' => e = .returned (.tuple #[.bool (d.set i key v).1.1, .int .i64 (d.set i key v).1.2]) ∧ At w0 hh G K w' (d.set i key v).2 ∧ Kept K w w' := by
  obtain ⟨s, h1, h2, h3, h4, h5⟩ := h.ex
  subst h2 h3
  refine (set_any s i key v w h1 h.ok hvw hkl).mono ?_
  rintro e w' ⟨rfl, s', k1, k2, k3, -⟩
  exact ⟨rfl, h.next (h.ok.set i key v) h1 rfl h4 h5 k1 k2 k3⟩
theorem kind_st {w0 w : World} {hh G : Nat} {K : Nat → Prop} {d : Hd} (h : At w0 hh G K w d) (i : Int) : Calls Tryd.prog 50 #[.pointer (some ⟨hh, 0, none⟩), .int .i64 i] w fun e w' => e = .returned (.int .i64 (d.kind i)) ∧ w = w' := by
  obtain ⟨s, h1, h2, h3, h4, h5⟩ := h.ex
  subst h2 h3
  exact kind_any s i w h1
theorem proto_st {w0 w : World} {hh G : Nat} {K : Nat → Prop} {d : Hd} (h : At w0 hh G K w d) (i : Int) : Calls Tryd.prog 51 #[.pointer (some ⟨hh, 0, none⟩), .int .i64 i] w fun e w' => e = .returned (.int .i64 (d.proto i)) ∧ w = w' := by
  obtain ⟨s, h1, h2, h3, h4, h5⟩ := h.ex
  subst h2 h3
  exact proto_any s i w h1
theorem code_st {w0 w : World} {hh G : Nat} {K : Nat → Prop} {d : Hd} (h : At w0 hh G K w d) (i : Int) : Calls Tryd.prog 52 #[.pointer (some ⟨hh, 0, none⟩), .int .i64 i] w fun e w' => e = .returned (.tuple #[.int .i64 (d.code i).1.1, .int .i64 (d.code i).1.2.1, .int .i64 (d.code i).1.2.2, .bool (d.code i).2]) ∧ Pur w w' := by
  obtain ⟨s, h1, h2, h3, h4, h5⟩ := h.ex
  subst h2 h3
  exact code_any s i w h1
theorem size_st {w0 w : World} {hh G : Nat} {K : Nat → Prop} {d : Hd} (h : At w0 hh G K w d) : Calls Tryd.prog 27 #[.pointer (some ⟨hh, 0, none⟩)] w fun e w' => e = .returned (.tuple #[.int .i64 d.xs.length, .int .i64 d.left]) ∧ Pur w w' := by
  obtain ⟨s, h1, h2, h3, h4, h5⟩ := h.ex
  subst h2 h3
  exact size_any s w h1
end Go.Proofs.YtfophnmnehpenaaDoor
