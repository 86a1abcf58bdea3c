/- The tests that are handed to read; what read gives back. -/
import Derived.Test.YtlgdkaeiadhiaaaGreatDoorHt8
namespace Go.Proofs.YtlgdkaeiadhiaaaGreatDoor
open Go Go.RowKit
set_option linter.all false
set_option maxRecDepth 100000 in
theorem isreq_any (s : Bytes) (w : World) (hW : HW w) (hs : s.length ≤ 100000000) :
    Calls Tryz.prog 19 #[.string ⟨s.toArray⟩] w fun e w' => e = .returned (.bool ((reqLine s).isSome)) ∧ Pur w w' := by
  have R := fun w hW => reqline_any s w hW hs
  have e : (rl s).2.2 = (reqLine s).isSome := by unfold rl; cases reqLine s <;> rfl
  rw [e] at R
  go_enter Tryz.func19, Tryz.ntmps19
  go_wp2_with fail
  refine (R _ hW).mono ?_
  rintro e w1 ⟨rfl, h1⟩
  go_wp2
  go_ret
  exact ⟨rfl, h1⟩
set_option maxRecDepth 100000 in
theorem isresp_any (s : Bytes) (w : World) (hW : HW w) (hs : s.length ≤ 100000000) :
    Calls Tryz.prog 26 #[.string ⟨s.toArray⟩] w fun e w' => e = .returned (.bool ((statusOf s).isSome)) ∧ Pur w w' := by
  have R := fun w => status_any s w hs
  have e : (stv s).2 = (statusOf s).isSome := by unfold stv; cases statusOf s <;> rfl
  rw [e] at R
  go_enter Tryz.func26, Tryz.ntmps26
  go_wp2_with fail
  refine (R _).mono ?_
  rintro e w1 ⟨rfl, h1⟩
  go_wp2
  go_ret
  exact ⟨rfl, h1⟩
/-- the cells of a block that is known whole, four of them -/
theorem blk4 {w : World} {g : Nat} {t : TypeId} {c0 c1 c2 c3 : Value} (h : w.heap[g]? = some (.cells #[c0, c1, c2, c3] t (0, 0))) :
    w.cell? ⟨g, 0, none⟩ = some c0 ∧ w.cell? ⟨g, 1, none⟩ = some c1 ∧ w.cell? ⟨g, 2, none⟩ = some c2 ∧ w.cell? ⟨g, 3, none⟩ = some c3 ∧
    w.frozen? ⟨g, 0, none⟩ = false ∧ w.frozen? ⟨g, 1, none⟩ = false ∧ w.frozen? ⟨g, 2, none⟩ = false ∧ w.frozen? ⟨g, 3, none⟩ = false := by
  simp [World.cell?, World.frozen?, h]
theorem bk_lt {w : World} {b : Nat} {o : Obj} (h : w.heap[b]? = some o) : b < w.heap.size := (Array.getElem?_eq_some_iff.1 h).1
theorem bk_pur {w w' : World} {b : Nat} {o : Obj} (h : w.heap[b]? = some o) (hp : Pur w w') : w'.heap[b]? = some o := (hp.block b (bk_lt h)).trans h
theorem bk_alloc {w : World} {b : Nat} {o : Obj} (h : w.heap[b]? = some o) (o' : Obj) : (w.alloc o').heap[b]? = some o := bk_pur h ((Pur.refl w).alloc o')
theorem bk_new (w : World) (o : Obj) : (w.alloc o).heap[w.heap.size]? = some o := Array.getElem?_push_size
/-- what read gives -/
def ReadGives (w : World) (r : Option Msg × Int) (e : Ending) (w' : World) : Prop := match r with
  | (none, n) => e = .returned (.tuple #[.pointer none, .iface 25 (.int .i64 n)]) ∧ Pur w w'
  | (some m, _) => ∃ g v, e = .returned (.tuple #[.pointer (some ⟨g, 0, none⟩), .nilIface]) ∧ w'.heap[g]? = some (.cells #[.string ⟨m.first.toArray⟩, v, .string ⟨m.body.toArray⟩, .int .i64 (m.n : Nat)] 61 (0, 0)) ∧ FRead w' v m.heads ∧ m.heads.length ≤ 100000 ∧ Pur w w'
theorem give_err {w w' : World} {n : Int} (h : Pur w w') : ReadGives w (none, n) (.returned (.tuple #[.pointer none, .iface 25 (.int .i64 n)])) w' := ⟨rfl, h⟩
theorem heads_step {l : Bytes} {ls : List Bytes} {n : Nat} (hl : ls[n]? = some l) {acc : List Fld} (H : headsOf ls = (headsOf (ls.drop n)).map (acc ++ ·)) :
    (∀ f, headOf l = some f → headsOf ls = (headsOf (ls.drop (n + 1))).map ((acc ++ [f]) ++ ·)) ∧ (headOf l = none → headsOf ls = none) := by
  have hlt := (List.getElem?_eq_some_iff.1 hl).1
  have e : ls.drop n = l :: ls.drop (n + 1) := by
    rw [List.drop_eq_getElem_cons hlt]
    rw [List.getElem?_eq_getElem hlt] at hl
    rw [Option.some.inj hl]
  rw [e, headsOf] at H
  constructor
  · intro f hf
    rw [hf] at H
    rw [H]
    simp only [Option.map_map]
    congr 1
    funext x
    simp
  · intro hf
    rw [hf] at H
    rw [H]
    rfl
theorem token_ascii {s : Bytes} (h : okToken s = true) : ∀ c ∈ s, c.toNat < 128 := by
  intro c hc
  simp only [okToken, Bool.and_eq_true] at h
  have := List.all_eq_true.1 h.1.1 c hc
  simp [tokenB, alnumB, marksB] at this
  omega
end Go.Proofs.YtlgdkaeiadhiaaaGreatDoor
