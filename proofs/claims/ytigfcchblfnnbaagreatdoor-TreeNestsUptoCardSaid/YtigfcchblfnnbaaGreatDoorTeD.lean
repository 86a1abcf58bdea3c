/- Layer 3: what a tree under way holds behind each of its stores. Layer 3: the innermost open element; parent. Layer 3: an element begins, where it is refused. -/
import Derived.Test.YtigfcchblfnnbaaGreatDoorTeA
import Derived.Test.YtigfcchblfnnbaaGreatDoorTk11
import Derived.Test.YtigfcchblfnnbaaGreatDoorTeC
namespace Go.Proofs.YtigfcchblfnnbaaGreatDoor
open Go Go.RowKit
set_option linter.all false
namespace Te
open Tk (AttrV TokV mem_own nodup_swap)
theorem nodeCells_snoc (evs : List Value) (ns : List NodeV) (ev : Value) (n : NodeV) (h : evs.length = ns.length) : nodeCells (evs ++ [ev]) (ns ++ [n]) = nodeCells evs ns ++ n.cells ev := zip_snoc (fun x : Value × NodeV => x.2.cells x.1) evs ns ev n h
theorem opnCells_snoc (evs : List Value) (ns : List Opn) (ev : Value) (n : Opn) (h : evs.length = ns.length) : opnCells (evs ++ [ev]) (ns ++ [n]) = opnCells evs ns ++ n.cells ev := zip_snoc (fun x : Value × Opn => x.2.cells x.1) evs ns ev n h
theorem opn_len (v : Value) (o : Opn) : (o.cells v).length = 5 := rfl
/-- a store into the builder's block turns no scope -/
theorem At.scg {w : World} {B : Nat} {p : Pl} {b : Bd} (h : At w B p b) (i : Nat) (v : Value) : ScSame w (w.setCell ⟨p.g, i, none⟩ v) :=
  ScSame.chg (S := [p.g]) ((Chg.refl _ w).setCell (.inl (by simp)) _) fun x hx C e => by
    obtain rfl := List.mem_singleton.1 hx
    rw [h.own] at e; simp at e
theorem At.ap {w : World} {B : Nat} {p : Pl} {b : Bd} (h : At w B p b) : p.g ∉ p.rows ∧ p.rows.Nodup := List.nodup_cons.1 h.apart
theorem At.keep {w : World} {B : Nat} {p : Pl} {b : Bd} (h : At w B p b) (i : Nat) (v : Value) : ∀ x ∈ p.rows, (w.setCell ⟨p.g, i, none⟩ v).heap[x]? = w.heap[x]? := fun x hx => by
  rw [RowKit.Below.heap_setCell _ _ _ _ (fun e => h.ap.1 (by rw [show p.g = x from e.symm]; exact hx))]
/-- begun -/
theorem At.setb {w : World} {B : Nat} {p : Pl} {b : Bd} (h : At w B p b) (x : Bool) : At (w.setCell ⟨p.g, 2, none⟩ (.bool x)) B p { b with begun := x } ∧ Step p w p (w.setCell ⟨p.g, 2, none⟩ (.bool x)) := by
  refine ⟨⟨bk_set h.own 2 _, h.nodes.same fun y hy => h.keep 2 _ y (List.mem_append_right _ hy), h.stk.same (fun y hy => h.keep 2 _ y (List.mem_append_left _ hy)) (h.scg 2 _), h.gB, h.apart⟩, rfl, ?_, fun _ hb => .inl hb⟩
  exact (Chg.refl _ w).setCell (.inl (by simp [Pl.all])) _
/-- other open elements, in another row perhaps -/
theorem At.sets {w w' : World} {B : Nat} {p : Pl} {b : Bd} (h : At w B p b) (hB : B ≤ w.heap.size) (v' : Value) (svs : List Value) (os : List Opn) (hc : Chg p.sv.ownBlock.toList w w')
    (hrow : OpnRow w' B v' svs os) (hloc : v'.ownBlock = p.sv.ownBlock ∨ ∃ g, v'.ownBlock = some g ∧ w.heap.size ≤ g) :
    At (w'.setCell ⟨p.g, 1, none⟩ v') B { p with sv := v', scs := svs } { b with stack := os } ∧ Step p w { p with sv := v', scs := svs } (w'.setCell ⟨p.g, 1, none⟩ v') := by
  have hg0 : p.g ∉ p.sv.ownBlock.toList := fun e => h.ap.1 (List.mem_append_left _ e)
  have own' : w'.heap[p.g]? = some (.cells #[p.nv, p.sv, .bool b.begun] 57 (0, 0)) := bk_chg h.own hc hg0
  have hap := h.ap.2
  unfold Pl.rows at hap
  have hap2 := List.nodup_append.1 hap
  have hn' : (v'.ownBlock.toList ++ (p.nv.ownBlock.toList ++ p.evs.flatMap fun v => v.ownBlock.toList)).Nodup := by
    have := nodup_swap (A := []) (L := p.sv.ownBlock.toList) (L' := v'.ownBlock.toList) (M := p.nv.ownBlock.toList ++ p.evs.flatMap fun v => v.ownBlock.toList) (by simpa using hap) (by
      rcases hloc with e | ⟨g, e, hg⟩
      · exact .inr (.inl (by rw [e]))
      · refine .inr (.inr ⟨g, by rw [e]; rfl, fun hm => ?_⟩)
        have := h.lt g (List.mem_cons_of_mem _ (by simpa [Pl.rows] using hm))
        omega)
    simpa using this
  have hgv : p.g ∉ v'.ownBlock.toList := fun e => by
    rcases hloc with e2 | ⟨g, e2, hg⟩
    · rw [e2] at e; exact hg0 e
    · rw [e2] at e
      have := bk_lt h.own
      simp at e; omega
  have nin : ∀ x ∈ p.nv.ownBlock.toList ++ p.evs.flatMap (fun v => v.ownBlock.toList), x ∉ p.sv.ownBlock.toList := fun x hx hm => hap2.2.2 x hm x hx rfl
  have hkeep : ∀ x, x ≠ p.g → (w'.setCell ⟨p.g, 1, none⟩ v').heap[x]? = w'.heap[x]? := fun x hx => by
    rw [RowKit.Below.heap_setCell _ _ _ _ (fun e => hx (show x = p.g from e))]
  have hsc : ScSame w' (w'.setCell ⟨p.g, 1, none⟩ v') := ScSame.chg (S := [p.g]) ((Chg.refl _ w').setCell (.inl (by simp)) _) fun x hx C e => by
    obtain rfl := List.mem_singleton.1 hx
    rw [own'] at e; simp at e
  refine ⟨⟨bk_set own' 1 _, h.nodes.same fun x hx => ?_, hrow.same (fun x hx => hkeep x (fun e => hgv (e ▸ hx))) hsc, h.gB, ?_⟩, rfl, ?_, fun x hx => ?_⟩
  · rw [hkeep x (fun e => h.ap.1 (List.mem_append_right _ (e ▸ hx)))]
    exact hc.block x (h.nodes.own_lt x hx) (nin x hx)
  · refine List.nodup_cons.2 ⟨fun hm => ?_, hn'⟩
    rcases List.mem_append.1 hm with hm | hm
    · exact hgv hm
    · exact h.ap.1 (List.mem_append_right _ hm)
  · exact (hc.mono fun x hx => .inl (List.mem_cons_of_mem _ (List.mem_append_left _ hx))).setCell (.inl (by simp [Pl.all])) _
  · rcases List.mem_cons.1 hx with rfl | hx
    · exact .inl (by simp [Pl.all])
    rcases List.mem_append.1 hx with hx | hx
    · rcases hloc with e | ⟨g, e, hg⟩
      · rw [e] at hx; exact .inl (List.mem_cons_of_mem _ (List.mem_append_left _ hx))
      · rw [e] at hx; simp at hx; subst hx; exact .inr hg
    · exact .inl (List.mem_cons_of_mem _ (List.mem_append_right _ hx))
/-- one node more -/
theorem At.setn {w w' : World} {B : Nat} {p : Pl} {b : Bd} (h : At w B p b) (hB : B ≤ w.heap.size) (v' ev : Value) (n : NodeV) (hc : Chg p.nv.ownBlock.toList w w')
    (hrow : w'.ownsRow 0 38 7 v' (b.nodes.length + 1) (nodeCells p.evs b.nodes ++ n.cells ev)) (hloc : v'.ownBlock = p.nv.ownBlock ∨ ∃ g, v'.ownBlock = some g ∧ w.heap.size ≤ g)
    (hev : w.ownsRow B 81 5 ev n.ex.length (n.ex.flatMap ExV.cells)) (hev2 : ∀ g, ev.ownBlock = some g → g ∉ p.all) :
    At (w'.setCell ⟨p.g, 0, none⟩ v') B { p with nv := v', evs := p.evs ++ [ev] } { b with nodes := b.nodes ++ [n] } ∧ Chg p.all w (w'.setCell ⟨p.g, 0, none⟩ v') ∧
      ∀ x ∈ (Pl.all { p with nv := v', evs := p.evs ++ [ev] }), x ∈ p.all ∨ ev.ownBlock = some x ∨ w.heap.size ≤ x := by
  have hgn : p.g ∉ p.nv.ownBlock.toList := fun e => h.ap.1 (List.mem_append_right _ (List.mem_append_left _ e))
  have own' : w'.heap[p.g]? = some (.cells #[p.nv, p.sv, .bool b.begun] 57 (0, 0)) := bk_chg h.own hc hgn
  have hap := h.ap.2
  unfold Pl.rows at hap
  have hap2 := List.nodup_append.1 hap
  obtain ⟨a1, a2, a3⟩ := hap2
  have a4 := List.nodup_append.1 a2
  obtain ⟨b1, b2, b3⟩ := a4
  have hgv : p.g ∉ v'.ownBlock.toList := fun e => by
    rcases hloc with e2 | ⟨g, e2, hg⟩
    · rw [e2] at e; exact hgn e
    · rw [e2] at e
      have := bk_lt h.own
      simp at e; omega
  have hkeep : ∀ x, x ≠ p.g → (w'.setCell ⟨p.g, 0, none⟩ v').heap[x]? = w'.heap[x]? := fun x hx => by
    rw [RowKit.Below.heap_setCell _ _ _ _ (fun e => hx (show x = p.g from e))]
  have hsc : ScSame w' (w'.setCell ⟨p.g, 0, none⟩ v') := ScSame.chg (S := [p.g]) ((Chg.refl _ w').setCell (.inl (by simp)) _) fun x hx C e => by
    obtain rfl := List.mem_singleton.1 hx
    rw [own'] at e; simp at e
  have hsc0 : ScSame w w' := ScSame.chg hc fun x hx C e => by
    obtain ⟨C', h1⟩ := own_type h.nodes.nodes (mem_own.1 hx)
    rw [h1] at e; simp at e
  have evl : ∀ g, ev.ownBlock = some g → B ≤ g ∧ g < w.heap.size := fun g hg => hev.lt g hg
  have evne : ∀ g, ev.ownBlock = some g → g ≠ p.g := fun g hg e => hev2 g hg (by simp [Pl.all, e])
  have evnn : ∀ g, ev.ownBlock = some g → g ∉ p.nv.ownBlock.toList := fun g hg e => hev2 g hg (List.mem_cons_of_mem _ (List.mem_append_right _ (List.mem_append_left _ e)))
  have evnv : ∀ g, ev.ownBlock = some g → g ∉ v'.ownBlock.toList := fun g hg e => by
    rcases hloc with e2 | ⟨g', e2, hg'⟩
    · rw [e2] at e; exact evnn g hg e
    · rw [e2] at e
      have := (evl g hg).2
      simp at e; omega
  have svv : ∀ x ∈ p.sv.ownBlock.toList, x ∉ v'.ownBlock.toList := fun x hx e => by
    rcases hloc with e2 | ⟨g', e2, hg'⟩
    · rw [e2] at e; exact a3 x hx x (List.mem_append_left _ e) rfl
    · rw [e2] at e
      have := h.stk.own_lt x hx
      simp at e; omega
  have evs' : ∀ x ∈ p.evs.flatMap (fun v => v.ownBlock.toList), x ∉ v'.ownBlock.toList := fun x hx e => by
    rcases hloc with e2 | ⟨g', e2, hg'⟩
    · rw [e2] at e; exact b3 x e x hx rfl
    · rw [e2] at e
      have := h.nodes.own_lt x (List.mem_append_right _ hx)
      simp at e; omega
  have hvn : v'.ownBlock.toList.Nodup := by cases v'.ownBlock <;> simp
  have hen : ev.ownBlock.toList.Nodup := by cases ev.ownBlock <;> simp
  have hE : (p.evs ++ [ev]).flatMap (fun v => v.ownBlock.toList) = p.evs.flatMap (fun v => v.ownBlock.toList) ++ ev.ownBlock.toList := by simp
  have nodd : (v'.ownBlock.toList ++ (p.evs ++ [ev]).flatMap fun v => v.ownBlock.toList).Nodup := by
    rw [hE, List.nodup_append, List.nodup_append]
    refine ⟨hvn, ⟨b2, hen, fun x hx y hy e => ?_⟩, fun x hx y hy e => ?_⟩
    · subst e; exact hev2 x (mem_own.1 hy) (List.mem_cons_of_mem _ (List.mem_append_right _ (List.mem_append_right _ hx)))
    · subst e
      rcases List.mem_append.1 hy with hy | hy
      · exact evs' x hy hx
      · exact evnv x (mem_own.1 hy) hx
  refine ⟨⟨bk_set own' 0 _, ⟨?_, by simp [h.nodes.len], ?_, nodd, ?_⟩, h.stk.same (fun x hx => ?_) (hsc0.trans hsc), h.gB, ?_⟩, ?_, fun x hx => ?_⟩
  · rw [List.length_append, List.length_singleton, nodeCells_snoc _ _ _ _ h.nodes.len]
    exact row_same hrow fun g hg => hkeep g (fun e => hgv (by simp [hg, e]))
  · intro j u t hu ht
    by_cases hj : j < p.evs.length
    · rw [List.getElem?_append_left hj] at hu
      rw [List.getElem?_append_left (by rw [← h.nodes.len]; exact hj)] at ht
      refine row_same (h.nodes.ex j u t hu ht) fun g hg => ?_
      have hm : g ∈ p.evs.flatMap (fun v => v.ownBlock.toList) := List.mem_flatMap.2 ⟨u, List.mem_of_getElem? hu, by simp [hg]⟩
      rw [hkeep g (fun e => h.ap.1 (List.mem_append_right _ (List.mem_append_right _ (e ▸ hm))))]
      exact hc.block g (h.nodes.own_lt g (List.mem_append_right _ hm)) (fun e => b3 g e g hm rfl)
    · have hj' : j = p.evs.length := by
        have := (List.getElem?_eq_some_iff.1 hu).1
        simp at this
        omega
      subst hj'
      rw [List.getElem?_append_right (Nat.le_refl _)] at hu
      rw [List.getElem?_append_right (by rw [h.nodes.len]; exact Nat.le_refl _), h.nodes.len] at ht
      simp at hu ht
      subst hu ht
      have hev0 : w.ownsRow 0 81 5 ev n.ex.length (n.ex.flatMap ExV.cells) := ⟨hev.1, by
        rcases hev.2 with h2 | ⟨g, cap, cur, rfl, h1, h2⟩
        · exact .inl h2
        · exact .inr ⟨g, cap, cur, rfl, Nat.zero_le _, h2⟩⟩
      refine row_same hev0 fun g hg => ?_
      rw [hkeep g (evne g hg)]
      exact hc.block g (evl g hg).2 (evnn g hg)
  · intro x hx
    rw [hE] at hx
    rcases List.mem_append.1 hx with hx | hx
    · rcases hloc with e | ⟨g, e, hg⟩
      · rw [e] at hx; exact h.nodes.low x (List.mem_append_left _ hx)
      · rw [e] at hx; simp at hx; omega
    · rcases List.mem_append.1 hx with hx | hx
      · exact h.nodes.low x (List.mem_append_right _ hx)
      · exact (evl x (mem_own.1 hx)).1
  · rw [hkeep x (fun e => h.ap.1 (List.mem_append_left _ (e ▸ hx)))]
    exact hc.block x (h.stk.own_lt x hx) (fun e => a3 x hx x (List.mem_append_left _ e) rfl)
  · refine List.nodup_cons.2 ⟨fun hm => ?_, ?_⟩
    · rcases List.mem_append.1 hm with hm | hm
      · exact h.ap.1 (List.mem_append_left _ hm)
      rcases List.mem_append.1 hm with hm | hm
      · exact hgv hm
      rw [show (Pl.evs { p with nv := v', evs := p.evs ++ [ev] }) = p.evs ++ [ev] from rfl, hE] at hm
      rcases List.mem_append.1 hm with hm | hm
      · exact h.ap.1 (List.mem_append_right _ (List.mem_append_right _ hm))
      · exact evne _ (mem_own.1 hm) rfl
    · refine List.nodup_append.2 ⟨a1, nodd, fun x hx y hy e => ?_⟩
      subst e
      rw [hE] at hy
      rcases List.mem_append.1 hy with hy | hy
      · exact svv x hx hy
      rcases List.mem_append.1 hy with hy | hy
      · exact a3 x hx x (List.mem_append_right _ hy) rfl
      · exact hev2 x (mem_own.1 hy) (List.mem_cons_of_mem _ (List.mem_append_left _ hx))
  · exact (hc.mono fun x hx => .inl (List.mem_cons_of_mem _ (List.mem_append_right _ (List.mem_append_left _ hx)))).setCell (.inl (by simp [Pl.all])) _
  · rcases List.mem_cons.1 hx with rfl | hx
    · exact .inl (by simp [Pl.all])
    rcases List.mem_append.1 hx with hx | hx
    · exact .inl (List.mem_cons_of_mem _ (List.mem_append_left _ hx))
    rcases List.mem_append.1 hx with hx | hx
    · rcases hloc with e | ⟨g, e, hg⟩
      · rw [e] at hx; exact .inl (List.mem_cons_of_mem _ (List.mem_append_right _ (List.mem_append_left _ hx)))
      · rw [e] at hx; simp at hx; subst hx; exact .inr (.inr hg)
    rw [show (Pl.evs { p with nv := v', evs := p.evs ++ [ev] }) = p.evs ++ [ev] from rfl, hE] at hx
    rcases List.mem_append.1 hx with hx | hx
    · exact .inl (List.mem_cons_of_mem _ (List.mem_append_right _ (List.mem_append_right _ hx)))
    · exact .inr (.inl (mem_own.1 hx))
/-- the innermost open element has ended -/
theorem opn_cut {w : World} {B : Nat} {v : Value} {svs : List Value} {os : List Opn} (h : OpnRow w B v svs os) {g c : Nat} (hv : v = .slice (some ⟨g, 0, none⟩) os.length c) : OpnRow w B (.slice (some ⟨g, 0, none⟩) (os.length - 1) c) svs.dropLast os.dropLast := by
  subst hv
  refine ⟨⟨?_, ?_⟩, by simp [h.len], fun j u o hu ho => ?_⟩
  · have e : ∀ (svs : List Value) (os : List Opn), svs.length = os.length → (opnCells svs os).length = os.length * 5 := by
      intro svs
      induction svs with
      | nil => intro os hl; have : os = [] := List.length_eq_zero_iff.1 hl.symm; subst this; rfl
      | cons s svs ih =>
        intro os hl
        cases os with
        | nil => simp at hl
        | cons o os =>
          have := ih os (by simpa using hl)
          unfold opnCells at this ⊢
          rw [List.zip_cons_cons, List.flatMap_cons, List.length_append, this, opn_len, List.length_cons]; omega
    exact e _ _ (by simp [h.len])
  · rcases h.row.2 with ⟨e, _⟩ | ⟨g', cap, cur, e, hb, hg, hn, hcm, hsz, hx⟩
    · cases e
    · cases e
      refine .inr ⟨g, c, cur, by simp, hb, hg, by simp; omega, hcm, hsz, ?_⟩
      rw [List.length_dropLast]
      rcases Nat.eq_zero_or_pos os.length with h0 | h0
      · have : os = [] := List.length_eq_zero_iff.1 h0
        subst this
        have : svs = [] := List.length_eq_zero_iff.1 (by simpa using h.len)
        subst this
        rfl
      · obtain ⟨os', o, rfl⟩ : ∃ l o, os = l ++ [o] := ⟨os.dropLast, os.getLast (by intro e; rw [e] at h0; simp at h0), (List.dropLast_concat_getLast _).symm⟩
        have hs0 : 0 < svs.length := by rw [h.len]; exact h0
        obtain ⟨svs', s, rfl⟩ : ∃ l o, svs = l ++ [o] := ⟨svs.dropLast, svs.getLast (by intro e; rw [e] at hs0; simp at hs0), (List.dropLast_concat_getLast _).symm⟩
        have hl' : svs'.length = os'.length := by have := h.len; simpa using this
        rw [opnCells_snoc _ _ _ _ hl'] at hx
        have hlen : (opnCells svs' os').length = os'.length * 5 := by
          have := h.row.1
          rw [opnCells_snoc _ _ _ _ hl', List.length_append, opn_len, List.length_append] at this
          simp at this; omega
        have h5 : (os' ++ [o]).length - 1 = os'.length := by simp
        rw [h5, List.dropLast_concat, List.dropLast_concat]
        have h6 : os'.length * 5 ≤ (os' ++ [o]).length * 5 := Nat.mul_le_mul_right 5 (by simp)
        have := congrArg (List.take (os'.length * 5)) hx
        rw [List.take_take, Nat.min_eq_left h6, List.take_left' hlen] at this
        exact this
  · have hj := (List.getElem?_eq_some_iff.1 ho).1
    rw [List.length_dropLast] at hj
    rw [List.getElem?_dropLast, if_pos (by rw [h.len]; omega)] at hu
    rw [List.getElem?_dropLast, if_pos (by omega)] at ho
    exact h.sc j u o hu ho
end Te
end Go.Proofs.YtigfcchblfnnbaaGreatDoor
namespace Go.Proofs.YtigfcchblfnnbaaGreatDoor
open Go Go.RowKit
set_option linter.all false
namespace Te
open Tk (AttrV TokV mem_own)
/-- where the innermost open element lies -/
theorem At.top {w : World} {B : Nat} {p : Pl} {b : Bd} {o : Opn} (h : At w B p b) (ho : b.stack.getLast? = some o) :
    ∃ sg c k u, p.sv = .slice (some ⟨sg, 0, none⟩) (k + 1) c ∧ b.stack.length = k + 1 ∧ k + 1 ≤ c ∧ c ≤ maxLen ∧ ScRead w u o.sc ∧ sg < w.heap.size ∧
      w.cell? ⟨sg, k * 5, none⟩ = some (.int .i64 (o.node : Int)) ∧ w.cell? ⟨sg, k * 5 + 1, none⟩ = some (.string ⟨o.nm.toArray⟩) ∧ w.cell? ⟨sg, k * 5 + 2, none⟩ = some u ∧
      w.cell? ⟨sg, k * 5 + 3, none⟩ = some (.int .i64 (o.at_.1 : Int)) ∧ w.cell? ⟨sg, k * 5 + 4, none⟩ = some (.int .i64 (o.at_.2 : Int)) := by
  obtain ⟨k, hk⟩ : ∃ k, b.stack.length = k + 1 := by
    cases hs : b.stack with
    | nil => rw [hs] at ho; simp at ho
    | cons x l => exact ⟨l.length, rfl⟩
  rcases h.stk.row.2 with ⟨_, h0⟩ | ⟨g, cap, cur, e, hb, hg, hn, hcm, hsz, hx⟩
  · omega
  have hso : b.stack[k]? = some o := by
    rw [List.getLast?_eq_getElem?, hk] at ho; exact ho
  have hku : k < p.scs.length := by rw [h.stk.len]; omega
  obtain ⟨u, hu⟩ : ∃ u, p.scs[k]? = some u := ⟨_, List.getElem?_eq_getElem hku⟩
  obtain ⟨g', c', e', _, hgl, _, hcell⟩ := row_at h.stk.row (by omega)
  rw [e] at e'
  cases e'
  have hc : ∀ i, i < 5 → ∀ v, (o.cells u)[i]? = some v → w.cell? ⟨g, k * 5 + i, none⟩ = some v := fun i hi v hv => by
    refine (hcell (k * 5 + i) v ?_).1
    have := row_cells (fun (x : Value) (y : Opn) => y.cells x) 5 (fun _ _ => rfl) p.scs b.stack k i u o hu hso hi
    rw [Nat.mul_comm k 5]
    unfold opnCells
    rw [this]; exact hv
  exact ⟨g, cap, k, u, by rw [e, hk], hk, by omega, hcm, h.stk.sc k u o hu hso, hgl, hc 0 (by decide) _ rfl, hc 1 (by decide) _ rfl, hc 2 (by decide) _ rfl, hc 3 (by decide) _ rfl, hc 4 (by decide) _ rfl⟩
theorem At.nshape {w : World} {B : Nat} {p : Pl} {b : Bd} (h : At w B p b) : ∃ a c, p.nv = .slice a b.nodes.length c := row_shape h.nodes.nodes
theorem At.sshape {w : World} {B : Nat} {p : Pl} {b : Bd} (h : At w B p b) : ∃ a c, p.sv = .slice a b.stack.length c := row_shape h.stk.row
set_option maxRecDepth 100000 in
set_option maxHeartbeats 4000000 in
theorem parent_any {w : World} {B : Nat} {p : Pl} {b : Bd} (h : At w B p b) (hl : b.stack.length ≤ 1000000) : Calls Tryz.prog 31 #[.pointer (some ⟨p.g, 0, none⟩)] w fun e w' => e = .returned (.int .i64 b.parent) ∧ Pur w w' := by
  cases ho : b.stack.getLast? with
  | none =>
    have hs : b.stack = [] := by simpa using ho
    have e : b.parent = -1 := by simp [Bd.parent, hs]
    obtain ⟨a, c, hv⟩ := h.sshape
    have c1 := h.c1
    rw [hv, hs] at c1
    rw [e]
    clear h hv ho e
    go_enter Tryz.func31, Tryz.ntmps31
    go_wp2
    go_ret
    exact ⟨rfl, Pur.refl _⟩
  | some o =>
    have e : b.parent = o.node := by simp [Bd.parent, ho]
    obtain ⟨sg, c, k, u, hv, hk, hkc, hcm, hsr, hgl, k0, k1, k2, k3, k4⟩ := h.top ho
    have c1 : ∀ x : PW w, x.to.cell? ⟨p.g, 1, none⟩ = some (.slice (some ⟨sg, 0, none⟩) (k + 1) c) := fun x => by rw [← hv]; exact (h.pur x.pur).c1
    have c1' := c1 ⟨w, Pur.refl w⟩
    change w.cell? _ = _ at c1'
    have K0 : ∀ x : PW w, x.to.cell? ⟨sg, k * 5, none⟩ = some (.int .i64 (o.node : Int)) := fun x => cell_pur k0 x.pur
    have w1 : IntKind.i64.wrap (((k + 1 : Nat) : Int) - 1) = (k : Int) := by
      rw [show ((k + 1 : Nat) : Int) - 1 = k by omega]; exact IntWalk.i64_in _ (by omega)
    have w2 : ((k : Int) + 1 == 0) = false := by simp; omega
    have hkc' : ((k : Int) + 1) ≤ c := by omega
    rw [e]
    clear h hv ho e hsr k0 k1 k2 k3 k4
    go_enter Tryz.func31, Tryz.ntmps31
    go_wp2
    trace_state
    refine wp_region_pur (by kernel_rfl) (by kernel_rfl) ?_
    repeat (go_big_quiet_step (fail))
    refine wpQuiet_nil ?_
    intro wq hq
    go_wp2
    go_ret
    exact ⟨rfl, hq⟩
end Te
end Go.Proofs.YtigfcchblfnnbaaGreatDoor
namespace Go.Proofs.YtigfcchblfnnbaaGreatDoor
open Go Go.RowKit
set_option linter.all false
namespace Te
open Tk (AttrV TokV mem_own ARead append_new)
/-- how a step of the builder ends -/
def Tks (B : Nat) (p : Pl) (w : World) (r : Except (Ps × Nat) Bd) (e : Ending) (w' : World) : Prop := match r with
  | .ok b' => e = .returned .nilIface ∧ ∃ p', At w' B p' b' ∧ Step p w p' w'
  | .error q => ∃ fv, e = .returned fv ∧ Fa w.heap.size w' fv q ∧ Chg p.all w w'
/-- a token by value -/
def tokV (t : TokV) (av : Value) : Value := .agg #[.int .i64 (t.kind : Int), .string ⟨t.nm.toArray⟩, av, .string ⟨t.text.toArray⟩, .int .i64 (t.at_.1 : Int), .int .i64 (t.at_.2 : Int), .bool t.empty]
set_option maxRecDepth 100000 in
set_option maxHeartbeats 4000000 in
theorem start_root2 {w : World} {B : Nat} {p : Pl} {b : Bd} (h : At w B p b)
    (hB : B ≤ w.heap.size) (hls : b.stack.length ≤ 1000000) (hln : b.nodes.length ≤ 1000000) (t : TokV) (av : Value) (h1 : b.stack = []) (h2 : b.begun = true) : Calls Tryz.prog 29 #[.pointer (some ⟨p.g, 0, none⟩), tokV t av] w (Tks B p w (start b t)) := by
  obtain ⟨kd, nm, A, tx, ⟨tl, tc⟩, em⟩ := t
  unfold tokV
  dsimp only
  have hE : start b ⟨kd, nm, A, tx, (tl, tc), em⟩ = .error ((tl, tc), 33) := by unfold start; rw [if_pos ⟨h1, h2⟩]
  obtain ⟨w0, hw0⟩ : ∃ w0, w0 = w.alloc (.cells #[.int .i64 (kd : Int), .string ⟨nm.toArray⟩, av, .string ⟨tx.toArray⟩, .int .i64 (tl : Int), .int .i64 (tc : Int), .bool em] 60) := ⟨_, rfl⟩
  have hb0 : w0.heap[w.heap.size]? = some (.cells #[.int .i64 (kd : Int), .string ⟨nm.toArray⟩, av, .string ⟨tx.toArray⟩, .int .i64 (tl : Int), .int .i64 (tc : Int), .bool em] 60 (0, 0)) := by rw [hw0]; exact bk_new w _
  have hp0 : Pur w w0 := by rw [hw0]; exact (Pur.refl w).alloc _
  have h0 := h.pur hp0
  have c0 := h0.c0
  have c1 := h0.c1
  have c2 := h0.c2
  have t4 := bk_cell hb0 4 _ rfl
  have t5 := bk_cell hb0 5 _ rfl
  obtain ⟨na, nc, hnv⟩ := h.nshape
  obtain ⟨sa, sc, hsv⟩ := h.sshape
  rw [hnv] at c0
  rw [hsv] at c1
  have FA := fun w => fault_any (tl, tc) 33 w
  rw [h1] at c1
  rw [h2] at c2
  simp only [List.length_nil] at c1
  clear h1 h2
  clear h h0 hnv hsv hb0
  rw [hE]
  go_enter Tryz.func29, Tryz.ntmps29
  go_upto_region 1 with (fail)
  rw [← hw0]
  clear hw0
  go_wp2_with (go_at_call 19; refine (FA _).mono ?_; rintro e w3 ⟨fv, rfl, hfa, p3⟩)
  go_ret
  exact ⟨fv, rfl, hfa.mono hp0.size, .of_pur (hp0.trans p3)⟩
set_option maxRecDepth 100000 in
set_option maxHeartbeats 4000000 in
theorem start_deep {w : World} {B : Nat} {p : Pl} {b : Bd} (h : At w B p b)
    (hB : B ≤ w.heap.size) (hls : b.stack.length ≤ 1000000) (hln : b.nodes.length ≤ 1000000) (t : TokV) (av : Value) (h1 : 32 ≤ b.stack.length) : Calls Tryz.prog 29 #[.pointer (some ⟨p.g, 0, none⟩), tokV t av] w (Tks B p w (start b t)) := by
  obtain ⟨kd, nm, A, tx, ⟨tl, tc⟩, em⟩ := t
  unfold tokV
  dsimp only
  have hE : start b ⟨kd, nm, A, tx, (tl, tc), em⟩ = .error ((tl, tc), 34) := by unfold start; rw [if_neg (by rintro ⟨e, _⟩; rw [e] at h1; simp at h1), if_pos h1]
  obtain ⟨w0, hw0⟩ : ∃ w0, w0 = w.alloc (.cells #[.int .i64 (kd : Int), .string ⟨nm.toArray⟩, av, .string ⟨tx.toArray⟩, .int .i64 (tl : Int), .int .i64 (tc : Int), .bool em] 60) := ⟨_, rfl⟩
  have hb0 : w0.heap[w.heap.size]? = some (.cells #[.int .i64 (kd : Int), .string ⟨nm.toArray⟩, av, .string ⟨tx.toArray⟩, .int .i64 (tl : Int), .int .i64 (tc : Int), .bool em] 60 (0, 0)) := by rw [hw0]; exact bk_new w _
  have hp0 : Pur w w0 := by rw [hw0]; exact (Pur.refl w).alloc _
  have h0 := h.pur hp0
  have c0 := h0.c0
  have c1 := h0.c1
  have c2 := h0.c2
  have t4 := bk_cell hb0 4 _ rfl
  have t5 := bk_cell hb0 5 _ rfl
  obtain ⟨na, nc, hnv⟩ := h.nshape
  obtain ⟨sa, sc, hsv⟩ := h.sshape
  rw [hnv] at c0
  rw [hsv] at c1
  have FA := fun w => fault_any (tl, tc) 34 w
  have n1 : ((b.stack.length : Int) == 0) = false := by simp; intro e; rw [e] at h1; simp at h1
  have n2 : (32 : Int) ≤ b.stack.length := by omega
  clear h1
  clear h h0 hnv hsv hb0
  rw [hE]
  go_enter Tryz.func29, Tryz.ntmps29
  go_upto_region 1 with (fail)
  rw [← hw0]
  clear hw0
  go_wp2_with (go_at_call 19; refine (FA _).mono ?_; rintro e w3 ⟨fv, rfl, hfa, p3⟩)
  go_ret
  exact ⟨fv, rfl, hfa.mono hp0.size, .of_pur (hp0.trans p3)⟩
set_option maxRecDepth 100000 in
set_option maxHeartbeats 4000000 in
theorem start_full {w : World} {B : Nat} {p : Pl} {b : Bd} (h : At w B p b)
    (hB : B ≤ w.heap.size) (hls : b.stack.length ≤ 1000000) (hln : b.nodes.length ≤ 1000000) (t : TokV) (av : Value) (h0 : ¬ (b.stack = [] ∧ b.begun = true)) (h1 : ¬ 32 ≤ b.stack.length) (h2 : 2048 ≤ b.nodes.length) : Calls Tryz.prog 29 #[.pointer (some ⟨p.g, 0, none⟩), tokV t av] w (Tks B p w (start b t)) := by
  obtain ⟨kd, nm, A, tx, ⟨tl, tc⟩, em⟩ := t
  unfold tokV
  dsimp only
  have hE : start b ⟨kd, nm, A, tx, (tl, tc), em⟩ = .error ((tl, tc), 4) := by unfold start; rw [if_neg h0, if_neg h1, if_pos h2]
  have hh0 := h0
  clear h0
  obtain ⟨w0, hw0⟩ : ∃ w0, w0 = w.alloc (.cells #[.int .i64 (kd : Int), .string ⟨nm.toArray⟩, av, .string ⟨tx.toArray⟩, .int .i64 (tl : Int), .int .i64 (tc : Int), .bool em] 60) := ⟨_, rfl⟩
  have hb0 : w0.heap[w.heap.size]? = some (.cells #[.int .i64 (kd : Int), .string ⟨nm.toArray⟩, av, .string ⟨tx.toArray⟩, .int .i64 (tl : Int), .int .i64 (tc : Int), .bool em] 60 (0, 0)) := by rw [hw0]; exact bk_new w _
  have hp0 : Pur w w0 := by rw [hw0]; exact (Pur.refl w).alloc _
  have h0 := h.pur hp0
  have c0 := h0.c0
  have c1 := h0.c1
  have c2 := h0.c2
  have t4 := bk_cell hb0 4 _ rfl
  have t5 := bk_cell hb0 5 _ rfl
  obtain ⟨na, nc, hnv⟩ := h.nshape
  obtain ⟨sa, sc, hsv⟩ := h.sshape
  rw [hnv] at c0
  rw [hsv] at c1
  have FA := fun w => fault_any (tl, tc) 4 w
  have n2 : ¬ (32 : Int) ≤ b.stack.length := by omega
  have n3 : (2048 : Int) ≤ b.nodes.length := by omega
  obtain ⟨z, hz⟩ : ∃ z, ((b.stack.length : Int) == 0) = z := ⟨_, rfl⟩
  obtain ⟨y, hy⟩ : ∃ y, b.begun = y := ⟨_, rfl⟩
  have hzy : ¬ (z = true ∧ y = true) := by
    rintro ⟨rfl, rfl⟩
    refine hh0 ⟨?_, hy⟩
    have : (b.stack.length : Int) = 0 := by simpa using hz
    exact List.length_eq_zero_iff.1 (by omega)
  rw [hy] at c2
  clear h1 h2 hh0 hy
  clear h h0 hnv hsv hb0
  rw [hE]
  rcases z with _ | _ <;> rcases y with _ | _
  all_goals first | exact absurd ⟨rfl, rfl⟩ hzy | skip
  all_goals
    go_enter Tryz.func29, Tryz.ntmps29
    go_upto_region 1 with (fail)
    rw [← hw0]
    clear hw0
    go_wp2_with (go_at_call 19; refine (FA _).mono ?_; rintro e w3 ⟨fv, rfl, hfa, p3⟩)
    go_ret
    exact ⟨fv, rfl, hfa.mono hp0.size, .of_pur (hp0.trans p3)⟩
end Te
end Go.Proofs.YtigfcchblfnnbaaGreatDoor
