/- Layer 8: the document's Same, at one value twice; the law HeapShadows in plain words. -/
import Derived.Test.YtfophnmnehpenaaDoorHA12
import Derived.Test.YtfophnmnehpenaaDoorHA9
import Derived.Test.YtfophnmnehpenaaDoorHA10
namespace Go.Proofs.YtfophnmnehpenaaDoor
open Go Go.RowKit
set_option linter.all false
set_option maxRecDepth 100000 in
theorem nsame_self (x : Nat) (w : World) : Calls Tryd.prog 45 #[.float .f64 x, .float .f64 x] w fun e w' => e = .returned (.bool true) ∧ w = w' := by
  have h6 := @run_callFunc_extern Tryd.prog 59 _ Go.Extern.MathFloatBits.float64bits Tryd.func59 (by kernel_rfl) (by kernel_rfl) (by kernel_rfl) (by kernel_rfl)
  have fb : ∀ w : World, (Go.Extern.MathFloatBits.float64bits #[.float .f64 x]).run Tryd.prog w = .ok (.int .u64 (x : Nat)) w := fun w => rfl
  obtain ⟨b, hb⟩ : ∃ b, (FloatKind.f64.format.order x x != some Ordering.eq) = b := ⟨_, rfl⟩
  rcases b with _ | _
  all_goals
    go_enter Tryd.func45, Tryd.ntmps45
    go_wp2
    go_ret
    exact ⟨by simp, rfl⟩
set_option maxRecDepth 100000 in
set_option maxHeartbeats 4000000 in
theorem rsame_self (x : Va) (w : World) : Calls Tryd.prog 23 #[x.v, x.v] w fun e w' => e = .returned (.bool true) ∧ Pur w w' := by
  obtain ⟨k, n, t, r⟩ := x
  have S := fun w => nsame_self n w
  simp only [Va.v, Va.cells]
  go_enter Tryd.func23, Tryd.ntmps23
  go_wp2_with fail
  refine (S _).mono ?_
  rintro e w' ⟨rfl, rfl⟩
  go_wp2
  go_ret
  exact ⟨by simp, ((Pur.refl w).alloc _).alloc _⟩
theorem drop_st {w0 w : World} {hh G : Nat} {K : Nat → Prop} {d : Hd} (h : At w0 hh G K w d) (i : Int) (key : List UInt8) (hkl : key.length ≤ 1000000) :
    Calls Tryd.prog 24 #[.pointer (some ⟨hh, 0, none⟩), .int .i64 i, .string ⟨key.toArray⟩] w fun e w' => e = .returned (.bool (d.drop i key).1) ∧ At w0 hh G K w' (d.drop i key).2 ∧ Kept K w w' := by
  obtain ⟨s, h1, h2, h3, h4, h5⟩ := h.ex
  subst h2 h3
  refine (drop_any s i key w h1 h.ok hkl).mono ?_
  rintro e w' ⟨rfl, s', k1, k2, k3, -⟩
  exact ⟨rfl, h.next (h.ok.drop i key) h1 rfl h4 h5 k1 k2 k3⟩
section
variable (key : List UInt8) (a b : Nat)
def shF : List UInt8 → Option Va := fun _ => none
def shP (p : Int) : Ob := Ob.fresh 1 p 0 0 0 []
def shQ (p : Int) (x : Nat) : Ob := ⟨1, p, 0, 0, 0, [key], upd (fun _ => none) key (some (Va.num' x)), []⟩
def shR (p : Int) (x : Nat) : Ob := ⟨1, p, 0, 0, 0, [], upd (upd (fun _ => none) key (some (Va.num' x))) key none, []⟩
theorem sh_e0 : Hd.new 20 = ⟨20, []⟩ := by
  unfold Hd.new cellsOf
  rw [show (((min (max (20 : Int) 0) 10000).toNat : Nat) : Int) = 20 by decide]
theorem sh_e1 : (Hd.mk 20 []).plain (-1) = ((0, 0), ⟨19, [shP (-1)]⟩) := by
  simp [Hd.plain, Hd.add, shP]
theorem sh_e2 : (Hd.mk 19 [shP (-1)]).plain 0 = ((1, 0), ⟨18, [shP (-1), shP 0]⟩) := by
  simp [Hd.plain, Hd.add, Hd.obj, shP]
theorem sh_e3 : (Hd.mk 18 [shP (-1), shP 0]).plain 1 = ((2, 0), ⟨17, [shP (-1), shP 0, shP 1]⟩) := by
  simp [Hd.plain, Hd.add, Hd.obj, shP]
theorem sh_e4 : (Hd.mk 17 [shP (-1), shP 0, shP 1]).put 0 key (Va.num' a) = (0, ⟨16, [shQ key (-1) a, shP 0, shP 1]⟩) := by
  simp [Hd.put, Hd.obj, shP, shQ, Ob.fresh, Va.right, Va.num', Hd.turn, Ob.prop]
theorem sh_e5 : (Hd.mk 16 [shQ key (-1) a, shP 0, shP 1]).get 2 key = (Va.num' a, true) := by
  simp [Hd.get, Hd.holder, Hd.own, Hd.obj, Ob.own, shP, shQ, Ob.fresh, upd]
theorem sh_e6 : (Hd.mk 16 [shQ key (-1) a, shP 0, shP 1]).own 2 key = (Va.zero, false) := by
  simp [Hd.own, Hd.obj, Ob.own, shP, Ob.fresh]
theorem sh_e7 : (Hd.mk 16 [shQ key (-1) a, shP 0, shP 1]).put 1 key (Va.num' b) = (0, ⟨15, [shQ key (-1) a, shQ key 0 b, shP 1]⟩) := by
  simp [Hd.put, Hd.obj, shP, shQ, Ob.fresh, Va.right, Va.num', Hd.turn, Ob.prop]
theorem sh_e8 : (Hd.mk 15 [shQ key (-1) a, shQ key 0 b, shP 1]).get 2 key = (Va.num' b, true) := by
  simp [Hd.get, Hd.holder, Hd.own, Hd.obj, Ob.own, shP, shQ, Ob.fresh, upd]
theorem sh_e9 : (Hd.mk 15 [shQ key (-1) a, shQ key 0 b, shP 1]).get 0 key = (Va.num' a, true) := by
  simp [Hd.get, Hd.holder, Hd.own, Hd.obj, Ob.own, shP, shQ, Ob.fresh, upd]
theorem sh_e10 : (Hd.mk 15 [shQ key (-1) a, shQ key 0 b, shP 1]).drop 1 key = (true, ⟨16, [shQ key (-1) a, shR key 0 b, shP 1]⟩) := by
  simp [Hd.drop, Hd.obj, shP, shQ, shR, Ob.fresh, Hd.turn, Ob.unprop, upd]
theorem sh_e11 : (Hd.mk 16 [shQ key (-1) a, shR key 0 b, shP 1]).get 2 key = (Va.num' a, true) := by
  simp [Hd.get, Hd.holder, Hd.own, Hd.obj, Ob.own, shP, shQ, shR, Ob.fresh, upd]
theorem sh_k2 : ((Hd.mk 16 [shQ key (-1) a, shR key 0 b, shP 1]).keys 2).length = 0 := by
  simp [Hd.keys, Hd.obj, Ob.all, shP, Ob.fresh]
theorem sh_k0 : ((Hd.mk 16 [shQ key (-1) a, shR key 0 b, shP 1]).keys 0).length = 1 := by
  simp [Hd.keys, Hd.obj, Ob.all, shQ]
end
def st4 (w : World) (b : Nat) (x : Va) : World := (((w.setCell ⟨b, 0, none⟩ (.int .i64 x.kind)).setCell ⟨b, 1, none⟩ (.float .f64 x.num)).setCell ⟨b, 2, none⟩ (.string ⟨x.text.toArray⟩)).setCell ⟨b, 3, none⟩ (.int .i64 x.ref)
theorem st4_at {w : World} {b : Nat} {y x : Va} (h : w.heap[b]? = some (.cells y.cells.toArray 33 (0, 0))) : (st4 w b x).heap[b]? = some (.cells x.cells.toArray 33 (0, 0)) :=
  bk_set (bk_set (bk_set (bk_set h 0 (.int .i64 x.kind)) 1 (.float .f64 x.num)) 2 (.string ⟨x.text.toArray⟩)) 3 (.int .i64 x.ref)
theorem st4_other {w : World} {b c : Nat} {o : Obj} {x : Va} (h : w.heap[c]? = some o) (hne : c ≠ b) : (st4 w b x).heap[c]? = some o :=
  bk_other (bk_other (bk_other (bk_other h (a := ⟨b, 0, none⟩) hne _) (a := ⟨b, 1, none⟩) hne _) (a := ⟨b, 2, none⟩) hne _) (a := ⟨b, 3, none⟩) hne _
theorem st4_pur {w0 w : World} {b : Nat} {x : Va} (h : Pur w0 w) (hb : w0.heap.size ≤ b) : Pur w0 (st4 w b x) :=
  (((h.setCell (p := ⟨b, 0, none⟩) hb _).setCell (p := ⟨b, 1, none⟩) hb _).setCell (p := ⟨b, 2, none⟩) hb _).setCell (p := ⟨b, 3, none⟩) hb _
theorem cells4 {w : World} {b : Nat} {x : Va} (h : w.heap[b]? = some (.cells x.cells.toArray 33 (0, 0))) : w.cell? ⟨b, 0, none⟩ = some (.int .i64 x.kind) ∧ w.cell? ⟨b, 1, none⟩ = some (.float .f64 x.num) ∧ w.cell? ⟨b, 2, none⟩ = some (.string ⟨x.text.toArray⟩) ∧ w.cell? ⟨b, 3, none⟩ = some (.int .i64 x.ref) :=
  ⟨bk_cell h 0 _ rfl, bk_cell h 1 _ rfl, bk_cell h 2 _ rfl, bk_cell h 3 _ rfl⟩
theorem free4 {w : World} {b : Nat} {x : Va} (h : w.heap[b]? = some (.cells x.cells.toArray 33 (0, 0))) : w.frozen? ⟨b, 0, none⟩ = false ∧ w.frozen? ⟨b, 1, none⟩ = false ∧ w.frozen? ⟨b, 2, none⟩ = false ∧ w.frozen? ⟨b, 3, none⟩ = false :=
  ⟨bk_free h 0, bk_free h 1, bk_free h 2, bk_free h 3⟩
theorem st4_steps {w : World} {b : Nat} {y x : Va} (h : w.heap[b]? = some (.cells y.cells.toArray 33 (0, 0))) :
    (w.frozen? ⟨b, 0, none⟩ = false ∧ w.cell? ⟨b, 0, none⟩ = some (.int .i64 y.kind)) ∧
    ((w.setCell ⟨b, 0, none⟩ (.int .i64 x.kind)).frozen? ⟨b, 1, none⟩ = false ∧ (w.setCell ⟨b, 0, none⟩ (.int .i64 x.kind)).cell? ⟨b, 1, none⟩ = some (.float .f64 y.num)) ∧
    (((w.setCell ⟨b, 0, none⟩ (.int .i64 x.kind)).setCell ⟨b, 1, none⟩ (.float .f64 x.num)).frozen? ⟨b, 2, none⟩ = false ∧ ((w.setCell ⟨b, 0, none⟩ (.int .i64 x.kind)).setCell ⟨b, 1, none⟩ (.float .f64 x.num)).cell? ⟨b, 2, none⟩ = some (.string ⟨y.text.toArray⟩)) ∧
    ((((w.setCell ⟨b, 0, none⟩ (.int .i64 x.kind)).setCell ⟨b, 1, none⟩ (.float .f64 x.num)).setCell ⟨b, 2, none⟩ (.string ⟨x.text.toArray⟩)).frozen? ⟨b, 3, none⟩ = false ∧ (((w.setCell ⟨b, 0, none⟩ (.int .i64 x.kind)).setCell ⟨b, 1, none⟩ (.float .f64 x.num)).setCell ⟨b, 2, none⟩ (.string ⟨x.text.toArray⟩)).cell? ⟨b, 3, none⟩ = some (.int .i64 y.ref)) := by
  have h1 := bk_set h 0 (.int .i64 x.kind)
  have h2 := bk_set h1 1 (.float .f64 x.num)
  have h3 := bk_set h2 2 (.string ⟨x.text.toArray⟩)
  exact ⟨⟨bk_free h 0, bk_cell h 0 _ rfl⟩, ⟨bk_free h1 1, bk_cell h1 1 _ rfl⟩, ⟨bk_free h2 2, bk_cell h2 2 _ rfl⟩, ⟨bk_free h3 3, bk_cell h3 3 _ rfl⟩⟩
end Go.Proofs.YtfophnmnehpenaaDoor
