/- Layer 3: where a tree under way lies, and what it holds. Layer 3: blocks that change above a world's end; rows. Layer 3: find. Layer 3: the world's facts; names: Cut, Contains, ContainsAny, split, find, declares, expand; a fault. Layer 3: ContainsAny at one byte; find, split, declares, expand. Layer 3: split, declares, expand. -/
import Derived.Test.YtigfcchblfnnbaaGreatDoorChecked
import Derived.Test.YtigfcchblfnnbaaGreatDoorTeP
import Derived.Test.YtigfcchblfnnbaaGreatDoorTkA
import Derived.Deep.LoopGhost
import Derived.Test.YtigfcchblfnnbaaGreatDoorTu
import Derived.Lib.LaidTab
import Derived.Lib.TrimUEq
import Derived.Shelf.Unicode.PredsPay
namespace Go.Proofs.YtigfcchblfnnbaaGreatDoor
open Go Go.RowKit
set_option linter.all false
namespace Te
open Tk (AttrV TokV mem_own)
def ExV.cells (x : ExV) : List Value := [.string ⟨x.sp.toArray⟩, .string ⟨x.lo.toArray⟩, .string ⟨x.val.toArray⟩, .int .i64 (x.at_.1 : Int), .int .i64 (x.at_.2 : Int)]
def NodeV.cells (ev : Value) (n : NodeV) : List Value := [.string ⟨n.sp.toArray⟩, .string ⟨n.lo.toArray⟩, ev, .string ⟨n.text.toArray⟩, .int .i64 n.par, .int .i64 (n.at_.1 : Int), .int .i64 (n.at_.2 : Int)]
def Opn.cells (sv : Value) (o : Opn) : List Value := [.int .i64 (o.node : Int), .string ⟨o.nm.toArray⟩, sv, .int .i64 (o.at_.1 : Int), .int .i64 (o.at_.2 : Int)]
def nodeCells (evs : List Value) (ns : List NodeV) : List Value := (evs.zip ns).flatMap fun x => x.2.cells x.1
def opnCells (svs : List Value) (os : List Opn) : List Value := (svs.zip os).flatMap fun x => x.2.cells x.1
theorem zip_snoc {α β γ : Type} (f : α × β → List γ) (xs : List α) (bs : List β) (a : α) (b : β) (h : xs.length = bs.length) : ((xs ++ [a]).zip (bs ++ [b])).flatMap f = (xs.zip bs).flatMap f ++ f (a, b) := by
  rw [List.zip_append h]; simp
/-- rows of cells, k to an element -/
theorem row_cells {α β : Type} (f : α → β → List Value) (k : Nat) (hk : ∀ a b, (f a b).length = k) : ∀ (xs : List α) (bs : List β) (j i : Nat) (a : α) (b : β), xs[j]? = some a → bs[j]? = some b → i < k → ((xs.zip bs).flatMap fun x => f x.1 x.2)[k * j + i]? = (f a b)[i]?
  | [], bs, j, i, a, b, h, _, _ => by simp at h
  | a' :: xs, [], j, i, a, b, _, h, _ => by simp at h
  | a' :: xs, b' :: bs, 0, i, a, b, h, h2, hi => by
    obtain rfl : a' = a := by simpa using h
    obtain rfl : b' = b := by simpa using h2
    rw [List.zip_cons_cons, List.flatMap_cons, List.getElem?_append_left (by rw [hk]; omega)]
    simp
  | a' :: xs, b' :: bs, j + 1, i, a, b, h, h2, hi => by
    have := row_cells f k hk xs bs j i a b (by simpa using h) (by simpa using h2) hi
    rw [List.zip_cons_cons, List.flatMap_cons, List.getElem?_append_right (by rw [hk, Nat.mul_succ]; omega), hk, show k * (j + 1) + i - k = k * j + i by rw [Nat.mul_succ]; omega]
    exact this
theorem flat_cells {β : Type} (f : β → List Value) (k : Nat) (hk : ∀ b, (f b).length = k) : ∀ (bs : List β) (j i : Nat) (b : β), bs[j]? = some b → i < k → (bs.flatMap f)[k * j + i]? = (f b)[i]?
  | [], j, i, b, h, _ => by simp at h
  | b' :: bs, 0, i, b, h, hi => by
    obtain rfl : b' = b := by simpa using h
    rw [List.flatMap_cons, List.getElem?_append_left (by rw [hk]; omega)]
    simp
  | b' :: bs, j + 1, i, b, h, hi => by
    have := flat_cells f k hk bs j i b (by simpa using h) hi
    rw [List.flatMap_cons, List.getElem?_append_right (by rw [hk, Nat.mul_succ]; omega), hk, show k * (j + 1) + i - k = k * j + i by rw [Nat.mul_succ]; omega]
    exact this
/-- v is a chain of scopes that says s -/
def ScRead (w : World) : Value → Sc → Prop
  | v, [] => v = .pointer none
  | v, x :: r => ∃ g o, v = .pointer (some ⟨g, 0, none⟩) ∧ w.heap[g]? = some (.cells #[o, .string ⟨x.1.toArray⟩, .string ⟨x.2.toArray⟩] 121 (0, 0)) ∧ ScRead w o r
/-- no scope has turned -/
def ScSame (w w' : World) : Prop := ∀ (g : Nat) C, w.heap[g]? = some (.cells C 121 (0, 0)) → w'.heap[g]? = some (.cells C 121 (0, 0))
theorem ScSame.refl (w : World) : ScSame w w := fun _ _ h => h
theorem ScSame.trans {a b c : World} (h : ScSame a b) (k : ScSame b c) : ScSame a c := fun g C e => k g C (h g C e)
theorem ScSame.pur {w w' : World} (h : Pur w w') : ScSame w w' := fun _ _ e => bk_pur e h
theorem ScSame.chg {S : List Nat} {w w' : World} (h : Chg S w w') (hS : ∀ b ∈ S, ∀ C, w.heap[b]? ≠ some (.cells C 121 (0, 0))) : ScSame w w' :=
  fun g C e => bk_chg e h fun hm => hS g hm C e
theorem ScRead.same {w w' : World} (h : ScSame w w') : ∀ {s : Sc} {v : Value}, ScRead w v s → ScRead w' v s
  | [], _, e => e
  | _ :: _, _, ⟨g, o, e1, e2, e3⟩ => ⟨g, o, e1, h g _ e2, ScRead.same h e3⟩
theorem ScRead.pur {w w' : World} {s : Sc} {v : Value} (h : ScRead w v s) (hp : Pur w w') : ScRead w' v s := h.same (.pur hp)
/-- a tree as it is handed back: a row of nodes of the call's own, and each node's attributes -/
structure NodeRow (w : World) (B : Nat) (v : Value) (evs : List Value) (ns : List NodeV) : Prop where
  nodes : w.ownsRow 0 38 7 v ns.length (nodeCells evs ns)
  len : evs.length = ns.length
  ex : ∀ (j : Nat) u n, evs[j]? = some u → ns[j]? = some n → w.ownsRow 0 81 5 u n.ex.length (n.ex.flatMap ExV.cells)
  apart : (v.ownBlock.toList ++ evs.flatMap fun v => v.ownBlock.toList).Nodup
  low : ∀ b ∈ v.ownBlock.toList ++ evs.flatMap (fun v => v.ownBlock.toList), B ≤ b
/-- the open elements: a row, each with its scope -/
structure OpnRow (w : World) (B : Nat) (v : Value) (svs : List Value) (os : List Opn) : Prop where
  row : w.ownsRow B 65 5 v os.length (opnCells svs os)
  len : svs.length = os.length
  sc : ∀ (j : Nat) u o, svs[j]? = some u → os[j]? = some o → ScRead w u o.sc
/-- where a tree under way lies -/
structure Pl where
  g : Nat
  nv : Value
  evs : List Value
  sv : Value
  scs : List Value
def Pl.rows (p : Pl) : List Nat := p.sv.ownBlock.toList ++ (p.nv.ownBlock.toList ++ p.evs.flatMap fun v => v.ownBlock.toList)
def Pl.all (p : Pl) : List Nat := p.g :: p.rows
structure At (w : World) (B : Nat) (p : Pl) (b : Bd) : Prop where
  own : w.heap[p.g]? = some (.cells #[p.nv, p.sv, .bool b.begun] 57 (0, 0))
  nodes : NodeRow w B p.nv p.evs b.nodes
  stk : OpnRow w B p.sv p.scs b.stack
  gB : B ≤ p.g
  apart : p.all.Nodup
/-! ### what stays -/
theorem NodeRow.own_lt {w : World} {B : Nat} {v : Value} {evs : List Value} {ns : List NodeV} (h : NodeRow w B v evs ns) : ∀ b ∈ v.ownBlock.toList ++ evs.flatMap (fun v => v.ownBlock.toList), b < w.heap.size := by
  intro b hb
  rcases List.mem_append.1 hb with hb | hb
  · exact (h.nodes.lt b (by simpa using hb)).2
  · obtain ⟨u, hu, hb⟩ := List.mem_flatMap.1 hb
    obtain ⟨j, hj⟩ := List.getElem?_of_mem hu
    have hj' := (List.getElem?_eq_some_iff.1 hj).1
    exact ((h.ex j u _ hj (List.getElem?_eq_getElem (by rw [← h.len]; exact hj'))).lt b (mem_own.1 hb)).2
theorem NodeRow.same {w w' : World} {B : Nat} {v : Value} {evs : List Value} {ns : List NodeV} (h : NodeRow w B v evs ns) (e : ∀ b ∈ v.ownBlock.toList ++ evs.flatMap (fun v => v.ownBlock.toList), w'.heap[b]? = w.heap[b]?) : NodeRow w' B v evs ns :=
  ⟨row_same h.nodes fun g hg => e g (by simp [hg]), h.len, fun j u t hu ht => row_same (h.ex j u t hu ht) fun g hg => e g (List.mem_append_right _ (List.mem_flatMap.2 ⟨u, List.mem_of_getElem? hu, by simp [hg]⟩)), h.apart, h.low⟩
theorem NodeRow.pur {w w' : World} {B : Nat} {v : Value} {evs : List Value} {ns : List NodeV} (h : NodeRow w B v evs ns) (hp : Pur w w') : NodeRow w' B v evs ns := h.same fun b hb => hp.block b (h.own_lt b hb)
theorem OpnRow.same {w w' : World} {B : Nat} {v : Value} {svs : List Value} {os : List Opn} (h : OpnRow w B v svs os) (e : ∀ b ∈ v.ownBlock.toList, w'.heap[b]? = w.heap[b]?) (hs : ScSame w w') : OpnRow w' B v svs os :=
  ⟨row_same h.row fun g hg => e g (by simp [hg]), h.len, fun j u o hu ho => (h.sc j u o hu ho).same hs⟩
theorem OpnRow.own_lt {w : World} {B : Nat} {v : Value} {svs : List Value} {os : List Opn} (h : OpnRow w B v svs os) : ∀ b ∈ v.ownBlock.toList, b < w.heap.size := fun b hb => (h.row.lt b (by simpa using hb)).2
theorem At.lt {w : World} {B : Nat} {p : Pl} {b : Bd} (h : At w B p b) : ∀ x ∈ p.all, x < w.heap.size := by
  intro x hx
  rcases List.mem_cons.1 hx with rfl | hx
  · exact bk_lt h.own
  rcases List.mem_append.1 hx with hx | hx
  · exact h.stk.own_lt x hx
  · exact h.nodes.own_lt x hx
theorem At.low {w : World} {B : Nat} {p : Pl} {b : Bd} (h : At w B p b) : ∀ x ∈ p.all, B ≤ x := by
  intro x hx
  rcases List.mem_cons.1 hx with rfl | hx
  · exact h.gB
  rcases List.mem_append.1 hx with hx | hx
  · exact (h.stk.row.lt x (by simpa using hx)).1
  · exact h.nodes.low x hx
theorem At.same {w w' : World} {B : Nat} {p : Pl} {b : Bd} (h : At w B p b) (e : ∀ x ∈ p.all, w'.heap[x]? = w.heap[x]?) (hs : ScSame w w') : At w' B p b :=
  ⟨(e p.g (by simp [Pl.all])).trans h.own, h.nodes.same fun x hx => e x (List.mem_cons_of_mem _ (List.mem_append_right _ hx)), h.stk.same (fun x hx => e x (List.mem_cons_of_mem _ (List.mem_append_left _ hx))) hs, h.gB, h.apart⟩
theorem At.pur {w w' : World} {B : Nat} {p : Pl} {b : Bd} (h : At w B p b) (hp : Pur w w') : At w' B p b := h.same (fun x hx => hp.block x (h.lt x hx)) (.pur hp)
/-- what a row's block is -/
theorem own_type {w : World} {B : Nat} {e : TypeId} {k : Nat} {v : Value} {n : Nat} {xs : List Value} (h : w.ownsRow B e k v n xs) {g : Nat} (hg : v.ownBlock = some g) : ∃ C, w.heap[g]? = some (.cells C e (0, 0)) := by
  rcases h.2 with ⟨rfl, _⟩ | ⟨g', cap, cur, rfl, _, h2, _⟩
  · cases hg
  · cases hg; exact ⟨cur, h2⟩
theorem At.c0 {w : World} {B : Nat} {p : Pl} {b : Bd} (h : At w B p b) : w.cell? ⟨p.g, 0, none⟩ = some p.nv := bk_cell h.own 0 _ rfl
theorem At.c1 {w : World} {B : Nat} {p : Pl} {b : Bd} (h : At w B p b) : w.cell? ⟨p.g, 1, none⟩ = some p.sv := bk_cell h.own 1 _ rfl
theorem At.c2 {w : World} {B : Nat} {p : Pl} {b : Bd} (h : At w B p b) : w.cell? ⟨p.g, 2, none⟩ = some (.bool b.begun) := bk_cell h.own 2 _ rfl
theorem At.f {w : World} {B : Nat} {p : Pl} {b : Bd} (h : At w B p b) (i : Nat) : w.frozen? ⟨p.g, i, none⟩ = false := bk_free h.own i
/-- a step of the builder -/
structure Step (p : Pl) (w : World) (p' : Pl) (w' : World) : Prop where
  g : p'.g = p.g
  chg : Chg p.all w w'
  new : ∀ b ∈ p'.all, b ∈ p.all ∨ w.heap.size ≤ b
theorem Step.refl (p : Pl) (w : World) : Step p w p w := ⟨rfl, Chg.refl _ _, fun _ h => .inl h⟩
theorem Step.trans {p p1 p2 : Pl} {w w1 w2 : World} (h : Step p w p1 w1) (k : Step p1 w1 p2 w2) : Step p w p2 w2 :=
  ⟨k.g.trans h.g, h.chg.next k.chg h.new, fun b hb => (k.new b hb).elim (h.new b) fun hm => .inr (Nat.le_trans h.chg.size hm)⟩
theorem Step.pur {p p1 : Pl} {w w1 w2 : World} (h : Step p w p1 w1) (k : Pur w1 w2) : Step p w p1 w2 := ⟨h.g, h.chg.pur k, h.new⟩
/-- a fault as it is handed back -/
def Fa (B : Nat) (w' : World) (v : Value) (r : Ps × Nat) : Prop := ∃ b, B ≤ b ∧ v = .iface 67 (.pointer (some ⟨b, 0, none⟩)) ∧ w'.heap[b]? = some (.cells #[.int .i64 (r.1.1 : Int), .int .i64 (r.1.2 : Int), .iface 42 (.int .i64 (r.2 : Int))] 71 (0, 0))
theorem Fa.pur {B : Nat} {w w' : World} {v : Value} {r : Ps × Nat} (h : Fa B w v r) (hp : Pur w w') : Fa B w' v r := by
  obtain ⟨b, h1, h2, h3⟩ := h
  exact ⟨b, h1, h2, bk_pur h3 hp⟩
end Te
end Go.Proofs.YtigfcchblfnnbaaGreatDoor
namespace Go.Proofs.YtigfcchblfnnbaaGreatDoor
open Go Go.RowKit
set_option linter.all false
namespace Te
theorem pur_chgS {S : List Nat} {w0 w w' : World} (hp : Pur w0 w) (hc : Chg S w w') (hS : ∀ b ∈ S, w0.heap.size ≤ b) : Pur w0 w' := ((Chg.of_pur (S := S) hp).trans hc).to_pur hS
theorem row_up {w : World} {B B' : Nat} {e : TypeId} {k : Nat} {v : Value} {n : Nat} {xs : List Value} (h : w.ownsRow B e k v n xs) (hB : ∀ g, v.ownBlock = some g → B' ≤ g) : w.ownsRow B' e k v n xs := by
  refine ⟨h.1, ?_⟩
  rcases h.2 with h2 | ⟨g, cap, cur, rfl, h1, h2⟩
  · exact .inl h2
  · exact .inr ⟨g, cap, cur, rfl, hB g rfl, h2⟩
end Te
end Go.Proofs.YtigfcchblfnnbaaGreatDoor
namespace Go.Proofs.YtigfcchblfnnbaaGreatDoor
open Go Go.RowKit
set_option linter.all false
namespace Te
open Tk (AttrV TokV)
set_option maxRecDepth 100000 in
set_option maxHeartbeats 4000000 in
theorem find_any {s : Sc} {v : Value} (p : Bs) (w : World) (h : ScRead w v s) : Calls Tryz.prog 95 #[v, .string ⟨p.toArray⟩] w fun e w' => e = .returned (.tuple #[.string ⟨((find s p).getD []).toArray⟩, .bool (find s p).isSome]) ∧ Pur w w' := by
  obtain ⟨r, hr⟩ : ∃ r, find s p = r := ⟨_, rfl⟩
  rw [hr]
  have H0 := Lib.hid hr
  clear hr
  go_enter Tryz.func95, Tryz.ntmps95
  go_wp2
  go_loopg [0] s.length (fun gg k wr => ∃ s', s'.length ≤ gg ∧ ScRead w k s' ∧ wr = w ∧ Hid (find s' p = r))
  case atStart => exact ⟨s, Nat.le_refl _, h, rfl, H0⟩
  case round =>
    obtain ⟨s', hg, hs, rfl, H⟩ := hrel
    cases s' with
    | nil =>
      obtain rfl : _ = Value.pointer none := hs
      have HF := Lib.hid (show r = none by rw [← H.out]; rfl)
      clear h H0
      go_wp2
      go_ret2
      exact ⟨by rw [HF.out]; rfl, Pur.refl _⟩
    | cons x s' =>
      obtain ⟨g, o, rfl, hb, hs⟩ := hs
      have c0 := bk_cell hb 0 _ rfl
      have c1 := bk_cell hb 1 _ rfl
      have c2 := bk_cell hb 2 _ rfl
      obtain ⟨x1, x2⟩ := x
      dsimp only at c0 c1 c2
      by_cases he : x1 = p
      · have hd : (x1 == p) = true := by simpa using he
        have HF := Lib.hid (show r = some x2 by rw [← H.out]; simp [find, he])
        clear he h H0 hs hb H
        go_wp2
        go_ret2
        exact ⟨by rw [HF.out]; rfl, Pur.refl _⟩
      · have hd : (x1 == p) = false := by simpa using he
        have HF := Lib.hid (show find s' p = r by rw [← H.out]; simp [find, he])
        clear he h H0 hb H
        have HS := Lib.hid hs
        clear hs
        go_wp2
        go_roundg s'.length
        case rel => exact ⟨s', Nat.le_refl _, HS.out, rfl, HF⟩
        case measure => simp at hg; omega
end Te
end Go.Proofs.YtigfcchblfnnbaaGreatDoor
namespace Go.Proofs.YtigfcchblfnnbaaGreatDoor
open Go Go.RowKit
set_option linter.all false
namespace Te
open Tk (AttrV TokV)
def vMarks : List Bs := [[38], [38, 97, 109, 112, 59], [60], [38, 108, 116, 59], [34], [38, 113, 117, 111, 116, 59], [9], [38, 35, 57, 59], [10], [38, 35, 49, 48, 59], [13], [38, 35, 49, 51, 59]]
def tMarks8 : List Bs := [[38], [38, 97, 109, 112, 59], [60], [38, 108, 116, 59], [62], [38, 103, 116, 59], [13], [38, 35, 49, 51, 59]]
/-- the variables that this layer reads -/
structure XW (w : World) : Prop where
  mx : ∃ m, w.cell? ⟨9, 0, none⟩ = some (.int .i64 m)
  pow : Lib.TabIs Tryz.prog w "internal/strconv.uint64pow10" .u64 Lib.pow10Tab
  vm : ∀ (j : Nat) p, vMarks[j]? = some p → w.cell? ⟨2, j, none⟩ = some (.string ⟨p.toArray⟩)
  tm : ∀ (j : Nat) p, tMarks8[j]? = some p → w.cell? ⟨1, j, none⟩ = some (.string ⟨p.toArray⟩)
theorem cell_pur {w w' : World} {a : Addr} {v : Value} (h : w.cell? a = some v) (hp : Pur w w') : w'.cell? a = some v := (hp.cell (World.block_lt_of_cell? w a h)).trans h
theorem XW.pur {w w' : World} (h : XW w) (hp : Pur w w') : XW w' := by
  obtain ⟨⟨m, h2⟩, h3, h4, h5⟩ := h
  exact ⟨⟨m, cell_pur h2 hp⟩, TabIs_below (g := 8) (by kernel_rfl) h3 hp, fun j p hj => cell_pur (h4 j p hj) hp, fun j p hj => cell_pur (h5 j p hj) hp⟩
theorem index_one (l : Bs) (c : UInt8) : (Lib.index l [c] = -1 ∧ c ∉ l) ∨ (∃ a r, l = a ++ c :: r ∧ c ∉ a ∧ Lib.index l [c] = a.length) := by
  induction l with
  | nil => exact .inl ⟨rfl, by simp⟩
  | cons b r ih =>
    by_cases hb : c = b
    · subst hb
      exact .inr ⟨[], r, rfl, by simp, by simp [Lib.index]⟩
    · have hp : ([c] : Bs).isPrefixOf (b :: r) = false := by simp [List.isPrefixOf, hb]
      rcases ih with ⟨h1, h2⟩ | ⟨a, s, rfl, h2, h3⟩
      · refine .inl ⟨?_, by simp [hb, h2]⟩
        rw [Lib.index, hp, h1]
        rfl
      · refine .inr ⟨b :: a, s, rfl, by simp [hb, h2], ?_⟩
        rw [Lib.index, hp, h3]
        have : ((a.length : Int) == -1) = false := by rw [beq_eq_false_iff_ne]; omega
        simp [this]
theorem cut_byte (p : Bs) (c : UInt8) : (Lib.cut p [c]).1 = p.takeWhile (· != c) ∧ (Lib.cut p [c]).2.1 = (p.dropWhile (· != c)).drop 1 ∧ (Lib.cut p [c]).2.2 = decide (c ∈ p) := by
  have hall : ∀ a : Bs, c ∉ a → ∀ x ∈ a, (x != c) = true := fun a h x hx => by
    simp only [bne_iff_ne, ne_eq]; rintro rfl; exact h hx
  rcases index_one p c with ⟨h1, h2⟩ | ⟨a, r, rfl, h2, h3⟩
  · have t1 : p.takeWhile (· != c) = p := by
      have := List.takeWhile_append_of_pos (hall p h2) (l₂ := [])
      simpa using this
    have t2 : p.dropWhile (· != c) = [] := by
      have := List.dropWhile_append_of_pos (hall p h2) (l₂ := [])
      simpa using this
    rw [Lib.cut, if_neg (by rw [h1]; decide), t1, t2]
    exact ⟨rfl, rfl, by simp [h2]⟩
  · have t1 : (a ++ c :: r).takeWhile (· != c) = a := by rw [List.takeWhile_append_of_pos (hall a h2)]; simp
    have t2 : (a ++ c :: r).dropWhile (· != c) = c :: r := by rw [List.dropWhile_append_of_pos (hall a h2)]; simp
    rw [Lib.cut, if_pos (by rw [h3]; omega), t1, t2, h3]
    exact ⟨by simp, by simp, by simp⟩
theorem cut58_any (p : Bs) (w : World) (hW : XW w) (hs : p.length ≤ 1000000000) :
    Calls Tryz.prog 117 #[.string ⟨p.toArray⟩, .string ⟨#[58]⟩] w fun e w' => e = .returned (.tuple #[.string ⟨(p.takeWhile (· != 58)).toArray⟩, .string ⟨((p.dropWhile (· != 58)).drop 1).toArray⟩, .bool (decide ((58 : UInt8) ∈ p))]) ∧ Pur w w' := by
  obtain ⟨m, hm⟩ := hW.mx
  refine (Tryz.strings_Cut ⟨p.toArray⟩ ⟨#[58]⟩ m w (by show p.toArray.size < _; simp; omega) hm).mono ?_
  rintro e w' ⟨rfl, n, rfl⟩
  refine ⟨?_, Pur.drewN n (Pur.refl w)⟩
  obtain ⟨h1, h2, h3⟩ := cut_byte p 58
  show Ending.returned (.tuple #[.string ⟨(Lib.cut p [58]).1.toArray⟩, .string ⟨(Lib.cut p [58]).2.1.toArray⟩, .bool (Lib.cut p [58]).2.2]) = _
  rw [h1, h2, h3]
theorem contains58_any (p : Bs) (w : World) :
    Calls Tryz.prog 118 #[.string ⟨p.toArray⟩, .string ⟨#[58]⟩] w fun e w' => e = .returned (.bool (decide ((58 : UInt8) ∈ p))) ∧ Pur w w' := by
  refine (Tryz.strings_Contains_one ⟨p.toArray⟩ 58 w).mono ?_
  rintro e w' ⟨rfl, rfl⟩
  refine ⟨?_, Pur.refl _⟩
  have : decide (0 ≤ Lib.indexByte (ByteArray.mk p.toArray).data.toList 58) = decide ((58 : UInt8) ∈ p) := by
    rw [decide_eq_decide]
    show 0 ≤ Lib.indexByte p 58 ↔ _
    rw [← Lib.index_one p 58]
    rcases index_one p 58 with ⟨h1, h2⟩ | ⟨a, r, rfl, h2, h3⟩
    · rw [h1]; simp [h2]
    · rw [h3]; simp
  rw [this]
theorem runes_eq (l : Bs) : Lib.runeCount ⟨l.toArray⟩ = runes l := by
  have hw : ∀ i, i < l.length → (Utf8.decode ⟨l.toArray⟩ i).2 = max (chr l i).2 1 := by
    intro i hi
    have h1 := Lib.decodeL_drop ⟨l.toArray⟩ i
    have h2 := chr_decode l i hi
    have e : sub l i l.length = l.drop i := by unfold sub; rw [List.take_of_length_le (by rw [List.length_drop]; omega)]
    rw [e] at h2
    have h3 : Utf8.decode ⟨(l.drop i).toArray⟩ 0 = Utf8.decode ⟨l.toArray⟩ i := by rw [← h1]; rfl
    have h4 := decode_pos ⟨l.toArray⟩ i
    rw [h3] at h2
    generalize Utf8.decode ⟨l.toArray⟩ i = d at *
    split at h2
    · rename_i hd; rw [← h2, hd]; rfl
    · rw [← h2]; omega
  have hz : (ByteArray.mk l.toArray).size = l.length := by show l.toArray.size = _; simp
  have : ∀ f i, Lib.runeCountFrom ⟨l.toArray⟩ f i = runesGo l f i := by
    intro f
    induction f with
    | zero => intro i; rfl
    | succ f ih =>
      intro i
      rw [Lib.runeCountFrom, runesGo, hz]
      split
      · rename_i hi
        rw [hw i hi, ih]; omega
      · rfl
  unfold Lib.runeCount runes
  rw [hz]
  exact this _ _
theorem runes_any (l : Bs) (w : World) (hs : l.length ≤ 1000000000) : Calls Tryz.prog 96 #[.string ⟨l.toArray⟩] w fun e w' => e = .returned (.int .i64 (runes l : Nat)) ∧ Pur w w' := by
  refine (Tryz.utf8_RuneCountInString ⟨l.toArray⟩ w (by show l.toArray.size < _; simp; omega)).mono ?_
  rintro e w' ⟨rfl, pos, rfl⟩
  exact ⟨by rw [runes_eq], (Pur.refl w).alloc _⟩
theorem pre_any (l p : Bs) (w : World) : Calls Tryz.prog 113 #[.string ⟨l.toArray⟩, .string ⟨p.toArray⟩] w fun e w' => e = .returned (.bool (decide (p <+: l))) ∧ Pur w w' := by
  refine (Tryz.strings_HasPrefix ⟨l.toArray⟩ ⟨p.toArray⟩ w).mono ?_
  rintro e w' ⟨rfl, rfl⟩
  refine ⟨?_, Pur.refl _⟩
  have : Lib.hasPrefix l p = decide (p <+: l) := by
    unfold Lib.hasPrefix
    rw [Bool.eq_iff_iff, List.isPrefixOf_iff_prefix, decide_eq_true_eq]
  show Ending.returned (.bool (Lib.hasPrefix l p)) = _
  rw [this]
/-- A FAULT -/
theorem fault_any (p : Ps) (n : Nat) (w : World) : Calls Tryz.prog 19 #[.agg #[.int .i64 (p.1 : Int), .int .i64 (p.2 : Int)], .int .i64 (n : Int)] w fun e w' => ∃ v, e = .returned v ∧ Fa w.heap.size w' v (p, n) ∧ Pur w w' := by
  obtain ⟨l, c⟩ := p
  dsimp only
  go_enter Tryz.func19, Tryz.ntmps19
  go_wp2
  go_ret
  refine ⟨_, rfl, ⟨w.heap.size + 1, by omega, rfl, ?_⟩, ((Pur.refl w).alloc _).alloc _⟩
  have hs : (w.alloc (.cells #[.int .i64 (l : Int), .int .i64 (c : Int)] 36)).heap.size = w.heap.size + 1 := Array.size_push _
  have h := bk_new (w.alloc (.cells #[.int .i64 (l : Int), .int .i64 (c : Int)] 36)) (.cells #[.int .i64 (l : Int), .int .i64 (c : Int), .iface 42 (.int .i64 (n : Int))] 71)
  rwa [hs] at h
end Te
end Go.Proofs.YtigfcchblfnnbaaGreatDoor
namespace Go.Proofs.YtigfcchblfnnbaaGreatDoor
open Go Go.RowKit
set_option linter.all false
namespace Te
open Tk (AttrV TokV)
theorem decode_bad (b : UInt8) (h : 128 ≤ b.toNat) : Utf8.decode ⟨#[b]⟩ 0 = (65533, 1) := by
  have H : ∀ n : Fin 256, 128 ≤ (UInt8.ofNat n.val).toNat → Utf8.decode ⟨#[UInt8.ofNat n.val]⟩ 0 = (65533, 1) := by decide +kernel
  have := H ⟨b.toNat, UInt8.toNat_lt b⟩
  simp only [UInt8.ofNat_toNat] at this
  exact this h
theorem run_next_bad {P : Program} (w : World) (b : UInt8) (ty : TypeId) (h : 128 ≤ b.toNat) :
    (Instr.next (.pointer (some ⟨w.heap.size, 0, none⟩)) true ty).run P (w.iter ⟨#[b]⟩ 0) = .ok (.tuple #[.bool true, .int .i64 0, .int .i32 65533]) (w.iter ⟨#[b]⟩ 1) := by
  have hz : (0 : Nat) < (ByteArray.mk #[b]).size := by show 0 < (#[b]).size; simp
  simp only [Instr.next, getObj, setObj, Sem.run_bind, Sem.run, World.iter_heap, Result.andThen, hz, if_true, decode_bad b h, World.iter_set]
  simp [goInt, Sem.run, World.iter_heap, World.iter_set]
theorem run_next_fin {P : Program} (W : World) (g : Nat) (s : ByteArray) (pos : Nat) (ty : TypeId) (hg : W.heap[g]? = some (.stringIter s pos)) (h : ¬ pos < s.size) :
    (Instr.next (.pointer (some ⟨g, 0, none⟩)) true ty).run P W = .ok (.tuple #[.bool false]) W := by
  simp [Instr.next, getObj, Sem.run, hg, h]
theorem marks_ascii : ∀ n : Nat, n < 12 → by8 tMarks n < 128 := by decide
set_option maxRecDepth 100000 in
set_option maxHeartbeats 4000000 in
theorem idx_bad (w : World) : Calls Tryz.prog 121 #[.string ⟨tMarks.toArray⟩, .int .i32 65533] w fun e w' => e = .returned (.int .i64 (-1)) ∧ Pur w w' := by
  go_enter Tryz.func121, Tryz.ntmps121
  go_wp2
  go_loopw [176] (fun _ wr => ∃ n, n ≤ 12 ∧ wr = w.iter ⟨tMarks.toArray⟩ n) (fun _ wr => 13 - (match wr.heap[w.heap.size]? with | some (.stringIter _ n) => n | _ => 0))
  case atStart => exact ⟨0, by omega, rfl⟩
  case round =>
    obtain ⟨n, hn, rfl⟩ := hrel
    have hz : (⟨tMarks.toArray⟩ : ByteArray).size = 12 := rfl
    by_cases hlt : n < 12
    · have ha : ((⟨tMarks.toArray⟩ : ByteArray)[n]'(by rw [hz]; exact hlt)).toNat < 128 := by
        have e := marks_ascii n hlt
        unfold by8 at e
        rw [List.getD_eq_getElem?_getD, List.getElem?_eq_getElem (show n < tMarks.length from hlt), Option.getD_some] at e
        exact e
      have RN := fun ty => run_next_ascii (P := Tryz.prog) w ⟨tMarks.toArray⟩ n ty (by rw [hz]; exact hlt) ha
      generalize ((⟨tMarks.toArray⟩ : ByteArray)[n]'(by rw [hz]; exact hlt)).toNat = y at *
      have d1 : ((y : Int) == 65533) = false := by simp; omega
      go_wp2
      go_roundw
      case rel => exact ⟨n + 1, by omega, rfl⟩
      case measure => rw [World.iter_heap, World.iter_heap]; simp only; omega
    · obtain rfl : n = 12 := by omega
      have RN := fun ty => run_next_end (P := Tryz.prog) w ⟨tMarks.toArray⟩ 12 ty (by rw [hz]; omega)
      go_wp2
      go_ret
      exact ⟨rfl, (Pur.refl w).alloc _⟩
theorem short_ok (w : World) : Calls Tryz.prog 168 #[.int .i64 1] w fun e w' => e = .returned (.bool false) ∧ w = w' := by
  refine (Tryz.strings_shouldUseASCIISet 1 w).mono ?_
  rintro e w' ⟨rfl, rfl⟩
  exact ⟨rfl, rfl⟩
set_option maxRecDepth 100000 in
set_option maxHeartbeats 4000000 in
theorem any_bad (b : UInt8) (h : 128 ≤ b.toNat) (w : World) : Calls Tryz.prog 146 #[.string ⟨[b].toArray⟩, .string ⟨#[45, 46, 48, 49, 50, 51, 52, 53, 54, 55, 56, 57]⟩] w fun e w' => e = .returned (.int .i64 (-1)) ∧ Pur w w' := by
  have RN := fun ty => run_next_bad (P := Tryz.prog) w b ty h
  have IB := fun w => idx_bad w
  have SO := short_ok
  go_enter Tryz.func146, Tryz.ntmps146
  go_wp2_with (go_at_call 168; refine (SO _).mono ?_; rintro e w1 ⟨rfl, rfl⟩)
  go_loopg [9, 10] 1 (fun g _ _ wx => (g = 1 ∧ wx = w.iter ⟨#[b]⟩ 0) ∨ (g = 0 ∧ wx.heap[w.heap.size]? = some (.stringIter ⟨#[b]⟩ 1) ∧ Pur w wx))
  case atStart => exact .inl ⟨rfl, rfl⟩
  case round =>
    rcases hrel with ⟨rfl, rfl⟩ | ⟨rfl, hit, hp⟩
    · go_wp2_with (go_at_call 121; refine (IB _).mono ?_; rintro e w1 ⟨rfl, hp1⟩)
      go_roundg 0
      case measure => omega
      case rel => exact .inr ⟨rfl, (hp1.block _ (by simp [World.iter])).trans (World.iter_heap w _ 1), ((Pur.refl w).alloc _).trans hp1⟩
    · have RE := fun ty => run_next_fin (P := Tryz.prog) wr _ _ _ ty hit (by show ¬ 1 < (#[b]).size; simp)
      clear RN hit
      go_wp2
      go_ret
      exact ⟨rfl, hp⟩
end Te
end Go.Proofs.YtigfcchblfnnbaaGreatDoor
namespace Go.Proofs.YtigfcchblfnnbaaGreatDoor
open Go Go.RowKit
set_option linter.all false
namespace Te
open Tk (AttrV TokV)
theorem ascii_of_all {l : List UInt8} (h : l.all (fun b => decide (b.toNat < 128)) = true) : ∀ (j : Nat) b, (⟨l.toArray⟩ : ByteArray).data.toList[j]? = some b → b.toNat < 128 := fun _ b hb =>
  of_decide_eq_true (List.all_eq_true.1 h b (List.mem_of_getElem? (by simpa using hb)))
theorem marks_contain (b : UInt8) (h : b.toNat < 128) : Lib.containsAny [b] tMarks = tMarks.contains b := by
  have H : ∀ n : Fin 256, (UInt8.ofNat n.val).toNat < 128 → Lib.containsAny [UInt8.ofNat n.val] tMarks = tMarks.contains (UInt8.ofNat n.val) := by decide +kernel
  have := H ⟨b.toNat, UInt8.toNat_lt b⟩
  simp only [UInt8.ofNat_toNat] at this
  exact this h
theorem marks_high (b : UInt8) (h : 128 ≤ b.toNat) : tMarks.contains b = false := by
  cases hm : tMarks.contains b with
  | false => rfl
  | true =>
    have H : ∀ n : Fin 256, tMarks.contains (UInt8.ofNat n.val) = true → (UInt8.ofNat n.val).toNat < 128 := by decide +kernel
    have := H ⟨b.toNat, UInt8.toNat_lt b⟩
    simp only [UInt8.ofNat_toNat] at this
    have := this hm
    omega
theorem contains1_any (b : UInt8) (w : World) : Calls Tryz.prog 119 #[.string ⟨[b].toArray⟩, .string ⟨#[45, 46, 48, 49, 50, 51, 52, 53, 54, 55, 56, 57]⟩] w fun e w' => e = .returned (.bool (tMarks.contains b)) ∧ Pur w w' := by
  by_cases h : b.toNat < 128
  · refine (Tryz.strings_ContainsAny_laid ⟨[b].toArray⟩ ⟨tMarks.toArray⟩ w (by show ([b].toArray).size < _; simp) (by decide) (ascii_of_all (by simpa using h)) (ascii_of_all (by decide))).mono ?_
    rintro e w' ⟨rfl, hb⟩
    refine ⟨?_, hb⟩
    rw [← marks_contain b h]
  · have AB := any_bad b (by omega) w
    rw [marks_high b (by omega)]
    go_enter Tryz.func119, Tryz.ntmps119
    go_wp2_with (go_at_call 146; refine AB.mono ?_; rintro e w1 ⟨rfl, hp⟩)
    go_ret
    exact ⟨rfl, hp⟩
theorem sub_one {l : Bs} (h : l ≠ []) : ∃ b r, l = b :: r ∧ sub l 0 1 = [b] := by
  cases l with
  | nil => exact absurd rfl h
  | cons b r => exact ⟨b, r, rfl, rfl⟩
set_option maxRecDepth 100000 in
set_option maxHeartbeats 4000000 in
theorem split_any (nm : Bs) (w : World) (hW : XW w) (hs : nm.length ≤ 1000000000) :
    Calls Tryz.prog 94 #[.string ⟨nm.toArray⟩] w fun e w' => e = .returned (.tuple #[.string ⟨(pfx nm).toArray⟩, .string ⟨(loc nm).toArray⟩, .bool (formed nm)]) ∧ Pur w w' := by
  have CU := fun w hW => cut58_any nm w hW hs
  have CO := fun p w => contains58_any p w
  have C1 := fun b w => contains1_any b w
  have hmark := fun b => (rfl : tMarks.contains b = tMarks.contains b)
  obtain ⟨q, hq⟩ : ∃ q, (nm.dropWhile (· != 58)).drop 1 = q := ⟨_, rfl⟩
  obtain ⟨p, hp⟩ : ∃ p, nm.takeWhile (· != 58) = p := ⟨_, rfl⟩
  rw [hq, hp] at CU
  by_cases hm : (58 : UInt8) ∈ nm
  · have e1 : pfx nm = p := by unfold pfx; rw [if_pos hm, hp]
    have e2 : loc nm = q := by unfold loc; rw [if_pos hm, hq]
    have e3 : formed nm = (decide (p ≠ []) && (decide (q ≠ []) && (!decide (58 ∈ q) && !badHead q))) := by unfold formed; rw [e1, e2]; simp [hm]
    rw [e1, e2, e3]
    have d0 : decide ((58 : UInt8) ∈ nm) = true := by simp [hm]
    rw [d0] at CU
    clear e1 e2 e3 hp hq hm d0 hmark
    by_cases h1 : p = []
    · subst h1
      go_enter Tryz.func94, Tryz.ntmps94
      go_wp2_with (go_at_call 117; refine (CU _ hW).mono ?_; rintro e w1 ⟨rfl, p1⟩)
      go_ret3
      exact ⟨rfl, p1⟩
    · have d1 : (p == []) = false := by simpa using h1
      by_cases h2 : q = []
      · subst h2
        have e4 : (decide (p ≠ []) && (decide (([] : Bs) ≠ []) && (!decide ((58 : UInt8) ∈ ([] : Bs)) && !badHead []))) = false := by simp
        rw [e4]
        go_enter Tryz.func94, Tryz.ntmps94
        go_wp2_with (go_at_call 117; refine (CU _ hW).mono ?_; rintro e w1 ⟨rfl, p1⟩)
        go_ret3
        exact ⟨rfl, p1⟩
      · have d2 : (q == []) = false := by simpa using h2
        obtain ⟨b, r, hb, hsub⟩ := sub_one h2
        have e5 : badHead q = tMarks.contains b := by rw [hb]; rfl
        have e4 : (decide (p ≠ []) && (decide (q ≠ []) && (!decide ((58 : UInt8) ∈ q) && !badHead q))) = (!decide ((58 : UInt8) ∈ q) && !tMarks.contains b) := by rw [e5]; simp [h1, h2]
        rw [e4]
        have C1' := C1 b
        have hl1 : (1 : Int) ≤ q.length := by rw [hb]; simp; omega
        generalize tMarks.contains b = bb at *
        have CO' := CO q
        generalize decide ((58 : UInt8) ∈ q) = cc at *
        rw [← hsub] at C1'
        clear e4 e5 hb hsub C1 CO h1 h2
        rcases cc with _ | _
        · go_enter Tryz.func94, Tryz.ntmps94
          go_wp2_with (first | (go_at_call 117; refine (CU _ hW).mono ?_; rintro e w1 ⟨rfl, p1⟩) | (go_at_call 118; refine (CO' _).mono ?_; rintro e w2 ⟨rfl, p2⟩) | (go_at_call 119; refine (C1' _).mono ?_; rintro e w3 ⟨rfl, p3⟩))
          go_ret3
          exact ⟨by cases bb <;> rfl, p1.trans (p2.trans p3)⟩
        · go_enter Tryz.func94, Tryz.ntmps94
          go_wp2_with (first | (go_at_call 117; refine (CU _ hW).mono ?_; rintro e w1 ⟨rfl, p1⟩) | (go_at_call 118; refine (CO' _).mono ?_; rintro e w2 ⟨rfl, p2⟩))
          go_ret3
          exact ⟨rfl, p1.trans p2⟩
  · have e1 : pfx nm = [] := by unfold pfx; rw [if_neg hm]
    have e2 : loc nm = nm := by unfold loc; rw [if_neg hm]
    have e3 : formed nm = true := by unfold formed; simp [hm]
    rw [e1, e2, e3]
    have d0 : decide ((58 : UInt8) ∈ nm) = false := by simp [hm]
    rw [d0] at CU
    clear e1 e2 e3 hp hq hm d0 CO C1 hmark
    go_enter Tryz.func94, Tryz.ntmps94
    go_wp2_with (go_at_call 117; refine (CU _ hW).mono ?_; rintro e w1 ⟨rfl, p1⟩)
    go_ret3
    exact ⟨rfl, p1⟩
end Te
end Go.Proofs.YtigfcchblfnnbaaGreatDoor
