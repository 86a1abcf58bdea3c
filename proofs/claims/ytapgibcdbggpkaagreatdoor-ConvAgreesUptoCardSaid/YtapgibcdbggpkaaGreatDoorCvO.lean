/- What the cards of layer 9 take: an argument that is a value. What the cards of layer 9 take: an argument that is a row of steps. -/
import Derived.Test.YtapgibcdbggpkaaGreatDoorCvV
import Derived.Test.YtapgibcdbggpkaaGreatDoorHaA
import Derived.OpenShut
import Derived.Test.YtapgibcdbggpkaaGreatDoorLfB
import Derived.Test.YtapgibcdbggpkaaGreatDoorRaA
namespace Go.Proofs.YtapgibcdbggpkaaGreatDoor
open Go Go.RowKit Go.ChangeShapes Go.WideShapes Go.ChangeAt
set_option linter.all false
theorem val_under : Tryz.prog.underlying 25 = some (.struct (Tryz.prog.fieldsOf 25)) := by kernel_rfl
theorem val_fields : (Tryz.prog.fieldsOf 25).toList = [{ name := "Kind", type := 3, offset := 0, embedded := false, tag := "", pkgPath := "", byteOffset := 0 }, { name := "Num", type := 23, offset := 1, embedded := false, tag := "", pkgPath := "", byteOffset := 8 }, { name := "Text", type := 9, offset := 2, embedded := false, tag := "", pkgPath := "", byteOffset := 16 }, { name := "Ref", type := 3, offset := 3, embedded := false, tag := "", pkgPath := "", byteOffset := 32 }] := by kernel_rfl
theorem val_cellsOf : Tryz.prog.cellsOf 25 = 4 := by kernel_rfl
theorem val_c1 : Tryz.prog.cellsOf 9 = 1 ∧ Tryz.prog.cellsOf 3 = 1 ∧ Tryz.prog.cellsOf 23 = 1 := ⟨by kernel_rfl, by kernel_rfl, by kernel_rfl⟩
theorem flt_bound {b : Nat} (h : (Lit.float .f64 b).wf = true) : b < 18446744073709551616 := by
  have h' : decide (b < 2 ^ 64) = true := h
  have := of_decide_eq_true h'
  omega
section
variable {H : Type} {enc : TypeId × Value → H} {W : World}
theorem trod_flt {P : Program} {w : World} {base : Nat} {spare : Nat → Bool} {held : Bool} {fuel : Nat} {t : TypeId} {cs : List Value} {x : DataW H × List MemPlace} {k : FloatKind} (ht : P.underlying t = some (.float k)) (h : DataW.trod enc P w base spare held fuel t cs = some x) : ∃ n, cs = [.float k n] ∧ x = (.lit (.float k n), []) ∧ (Lit.float k n).wf = true := by
  cases fuel with
  | zero => simp [DataW.trod] at h
  | succ n =>
    unfold DataW.trod at h
    rw [ht] at h
    split at h <;> simp_all
set_option maxRecDepth 100000 in
theorem open_val {v : Value} {d : DataW H} {ps : List MemPlace} {base : Nat} (hv : Value.okWide Tryz.prog W .any base 25 v)
    (h : DataW.Trod enc Tryz.prog W 0 (fun _ => true) true 25 v d ps) : ∃ a : Va, v = a.v ∧ a.num < 18446744073709551616 ∧ a.text.length ≤ Rows.uptoBulk d := by
  obtain ⟨cs, rfl, hsz⟩ := okWide_struct val_under hv
  obtain ⟨l⟩ := cs
  obtain ⟨fuel, hf⟩ := h
  obtain ⟨xs, n, _, hx, hlc, hlen, hg⟩ := DataW.trod_struct val_under hf
  have hcl : (Value.agg ⟨l⟩).cells.toList = l := rfl
  rw [hcl] at hg hlc
  rw [val_cellsOf] at hlc
  have hfs : (Tryz.prog.fieldsOf 25).size = 4 := by rw [← Array.length_toList, val_fields]; rfl
  rw [hfs] at hlen
  obtain ⟨cS, cI, cF⟩ := val_c1
  have g0 := hg 0 _ (by rw [← Array.getElem?_toList, val_fields]; rfl)
  dsimp only at g0
  have g1 := hg 1 _ (by rw [← Array.getElem?_toList, val_fields]; rfl)
  dsimp only at g1
  have g2 := hg 2 _ (by rw [← Array.getElem?_toList, val_fields]; rfl)
  dsimp only at g2
  have g3 := hg 3 _ (by rw [← Array.getElem?_toList, val_fields]; rfl)
  dsimp only at g3
  rw [cS] at g2
  rw [cF] at g1
  rw [cI] at g0 g3
  match l, hlc with
  | [c0, c1, c2, c3], _ =>
    match xs, hlen with
    | [y0, y1, y2, y3], _ =>
      obtain ⟨s0, e0, x0, _⟩ := DataW.trod_int Tryz.underlying3 g0
      obtain ⟨s1, e1, x1, b1⟩ := trod_flt Tryz.underlying23 g1
      have b1 := flt_bound b1
      obtain ⟨s2, e2, x2, _⟩ := DataW.trod_string Tryz.underlying9 g2
      obtain ⟨s3, e3, x3, _⟩ := DataW.trod_int Tryz.underlying3 g3
      simp at e0 e1 e2 e3
      subst e0 x0 e1 x1 e2 x2 e3 x3
      simp only [List.map_cons, List.map_nil, Prod.mk.injEq] at hx
      obtain ⟨rfl, -⟩ := hx
      refine ⟨⟨s0, s1, s2.data.toList, s3⟩, by simp [Va.v, Va.cells], b1, ?_⟩
      simp only [Rows.uptoBulk, Rows.uptoBulkAll]
      omega
end
end Go.Proofs.YtapgibcdbggpkaaGreatDoor
namespace Go.Proofs.YtapgibcdbggpkaaGreatDoor
open Go Go.RowKit Go.ChangeShapes Go.WideShapes Go.ChangeAt Go.Deep
set_option linter.all false
open Cv (Sp SFine)
section
variable {H : Type} {enc : TypeId × Value → H} {P : Program} {W : World}
theorem open_rows_at {α : Type} [Inhabited α] {k : Nat} {f : α → List Value} {B : α → DataW H → Prop} {t e : TypeId} {cs : List Value} {x : DataW H × List MemPlace} {n : Nat}
    (ht : P.underlying t = some (.slice e)) (hk : P.cellsOf e = k) (hk0 : 0 < k) (hlen : ∀ a, (f a).length = k)
    (each : ∀ fuel cs x, DataW.trod enc P W 0 (fun _ => true) true fuel e cs = some x → ∃ a, cs = f a ∧ B a x.1)
    (h : DataW.trod enc P W 0 (fun _ => true) true n t cs = some x) :
    ∃ v rs, cs = [v] ∧ LRead k f W v rs ∧ (v = .slice none 0 0 ∨ ∃ a l c, v = .slice (some a) l c) ∧ rs.length ≤ Rows.uptoBulk x.1 ∧ ∀ r ∈ rs, ∃ d', B r d' ∧ Rows.uptoBulk d' ≤ Rows.uptoBulk x.1 := by
  rcases open_slice ht h with ⟨hcs, hx⟩ | ⟨a, len', cap', m, nn, D, Pl, hcs, hb, hl, hm, hmm, hx, hall⟩
  · subst hcs
    exact ⟨_, [], rfl, LRead.nil W, .inl rfl, Nat.zero_le _, fun r hr => by cases hr⟩
  · subst hcs
    subst hx
    have hmc : m = cap' := by rw [hmm, if_pos rfl]
    have he : ∀ i, i < len' → ∃ r : α, W.cells? 0 (a.add (i * k)) k = some (f r) ∧ B r (D i) := by
      intro i hi
      obtain ⟨cs', h1, h2⟩ := hall i (by omega)
      obtain ⟨r, hr, hB⟩ := each _ _ _ h2
      exact ⟨r, by rw [← hr, ← hk]; exact h1, hB⟩
    obtain ⟨R, hR⟩ := choose_lt he
    refine ⟨_, (List.range len').map R, rfl, ⟨some a, cap', by rw [List.length_map, List.length_range], fun j r hj => ?_⟩, .inr ⟨a, len', cap', rfl⟩, ?_, fun r hr => ?_⟩
    · have hjl : j < len' := by
        have := (List.getElem?_eq_some_iff.1 hj).1
        simpa using this
      have hr : r = R j := by
        rw [List.getElem?_map, List.getElem?_range hjl] at hj
        exact (Option.some.inj hj).symm
      subst hr
      obtain ⟨h1, -⟩ := hR j hjl
      have hsome := World.cells?_some h1
      have hcell : ∀ (i : Nat) u, (f (R j))[i]? = some u → W.cell? ((a.add (j * k)).add i) = some u := by
        intro i u hu
        have hi : i < k := by rw [← hlen (R j)]; exact (List.getElem?_eq_some_iff.1 hu).1
        rw [hsome.2.2 i hi, hu]
      have hsp : a = ⟨a.block, a.off, none⟩ := by
        obtain ⟨h1', -⟩ := hR 0 (by omega)
        have hsome' := World.cells?_some h1'
        obtain ⟨u, hu⟩ : ∃ u, (f (R 0))[0]? = some u := ⟨_, List.getElem?_eq_getElem (by rw [hlen]; exact hk0)⟩
        have hc0 := hsome'.2.2 0 hk0
        rw [hu, Nat.zero_mul] at hc0
        have := World.cell?_spot hc0
        rw [show (a.add 0).add 0 = a from rfl] at this
        cases a
        simp at this
        subst this
        rfl
      have hadd : ∀ i, (a.add (j * k)).add i = ⟨a.block, a.off + j * k + i, none⟩ := by
        intro i
        rw [hsp]
        unfold Addr.add
        by_cases h1 : j * k = 0 <;> by_cases h2 : i = 0 <;> simp [h1, h2]
      refine ⟨a.block, a.off, by rw [← hsp], ?_, fun i u hu => by rw [← hadd]; exact hcell i u hu⟩
      obtain ⟨u, hu⟩ : ∃ u, (f (R j))[0]? = some u := ⟨_, List.getElem?_eq_getElem (by rw [hlen]; exact hk0)⟩
      have := World.block_lt_of_cell? W _ (hcell 0 u hu)
      rw [hadd] at this
      exact this
    · have := bulk_len ((List.range len').map D)
      rw [List.length_map, List.length_range] at this ⊢
      rw [Rows.uptoBulk]
      omega
    · obtain ⟨i, hi, rfl⟩ := List.mem_map.1 hr
      rw [List.mem_range] at hi
      have := bulk_mem (List.mem_map_of_mem (f := D) (List.mem_range.2 hi))
      refine ⟨D i, (hR i hi).2, ?_⟩
      rw [Rows.uptoBulk]
      omega
end
section
variable {H : Type} {enc : TypeId × Value → H} {W : World}
instance : Inhabited Va := ⟨Va.zero⟩
instance : Inhabited Sp := ⟨⟨0, 0, [], .slice none 0 0⟩⟩
set_option maxRecDepth 100000 in
theorem open_val_cells (fuel : Nat) (l : List Value) (x : DataW H × List MemPlace) (hf : DataW.trod enc Tryz.prog W 0 (fun _ => true) true fuel 25 l = some x) : ∃ a : Va, l = a.cells ∧ a.num < 18446744073709551616 ∧ a.text.length ≤ Rows.uptoBulk x.1 := by
  obtain ⟨xs, n, _, hx, hlc, hlen, hg⟩ := DataW.trod_struct val_under hf
  rw [val_cellsOf] at hlc
  have hfs : (Tryz.prog.fieldsOf 25).size = 4 := by rw [← Array.length_toList, val_fields]; rfl
  rw [hfs] at hlen
  obtain ⟨cS, cI, cF⟩ := val_c1
  have g0 := hg 0 _ (by rw [← Array.getElem?_toList, val_fields]; rfl)
  dsimp only at g0
  have g1 := hg 1 _ (by rw [← Array.getElem?_toList, val_fields]; rfl)
  dsimp only at g1
  have g2 := hg 2 _ (by rw [← Array.getElem?_toList, val_fields]; rfl)
  dsimp only at g2
  have g3 := hg 3 _ (by rw [← Array.getElem?_toList, val_fields]; rfl)
  dsimp only at g3
  rw [cS] at g2
  rw [cF] at g1
  rw [cI] at g0 g3
  match l, hlc with
  | [c0, c1, c2, c3], _ =>
    match xs, hlen with
    | [y0, y1, y2, y3], _ =>
      obtain ⟨s0, e0, x0, _⟩ := DataW.trod_int Tryz.underlying3 g0
      obtain ⟨s1, e1, x1, b1⟩ := trod_flt Tryz.underlying23 g1
      have b1 := flt_bound b1
      obtain ⟨s2, e2, x2, _⟩ := DataW.trod_string Tryz.underlying9 g2
      obtain ⟨s3, e3, x3, _⟩ := DataW.trod_int Tryz.underlying3 g3
      simp at e0 e1 e2 e3
      subst e0 x0 e1 x1 e2 x2 e3 x3
      subst hx
      refine ⟨⟨s0, s1, s2.data.toList, s3⟩, by simp [Va.cells], b1, ?_⟩
      simp only [List.map_cons, List.map_nil, Rows.uptoBulk, Rows.uptoBulkAll]
      omega
theorem va_inv (vs : List Va) (j : Nat) (u : Value) (h : (vs.flatMap Va.cells)[j]? = some u) : ∃ x, vs[j / 4]? = some x ∧ x.cells[j % 4]? = some u := by
  have hj := (List.getElem?_eq_some_iff.1 h).1
  rw [va_len] at hj
  have hq : j / 4 < vs.length := by omega
  have hx : vs[j / 4]? = some vs[j / 4] := List.getElem?_eq_getElem hq
  refine ⟨_, hx, ?_⟩
  have hm : j % 4 < (vs[j / 4]).cells.length := Nat.mod_lt _ (by decide)
  have hu : (vs[j / 4]).cells[j % 4]? = some ((vs[j / 4]).cells[j % 4]'hm) := List.getElem?_eq_getElem hm
  have := va_at vs (j / 4) _ hx (j % 4) _ hu
  rw [show j / 4 * 4 + j % 4 = j by omega, h] at this
  rw [hu, this]
theorem vread2_of {v : Value} {vs : List Va} (h : LRead 4 Va.cells W v vs) (hs : v = .slice none 0 0 ∨ ∃ a l c, v = .slice (some a) l c) : VRead2 W v vs := by
  obtain ⟨a, c, rfl, hC⟩ := h
  by_cases h0 : vs = []
  · subst h0
    rcases hs with e | ⟨a', l', c', e⟩
    · simp only [Value.slice.injEq] at e
      obtain ⟨rfl, -, rfl⟩ := e
      exact .inl (.inl ⟨rfl, rfl⟩)
    · simp only [Value.slice.injEq] at e
      obtain ⟨rfl, -, -⟩ := e
      exact .inr ⟨a', c, rfl, rfl⟩
  · obtain ⟨x0, hx0⟩ : ∃ x, vs[0]? = some x := ⟨_, List.getElem?_eq_getElem (List.length_pos_iff.2 h0)⟩
    obtain ⟨b, o, rfl, hb, -⟩ := hC 0 x0 hx0
    refine .inl (.inr ⟨b, o, c, rfl, hb, fun j u hu => ?_⟩)
    obtain ⟨x, hx, hxu⟩ := va_inv vs j u hu
    obtain ⟨b', o', e, -, hcell⟩ := hC (j / 4) x hx
    simp only [Option.some.injEq, Addr.mk.injEq, and_true] at e
    obtain ⟨rfl, rfl⟩ := e
    have := hcell (j % 4) u hxu
    rw [Nat.add_assoc, show j / 4 * 4 + j % 4 = j by omega] at this
    exact this
theorem sp_under : Tryz.prog.underlying 54 = some (.struct (Tryz.prog.fieldsOf 54)) := by kernel_rfl
theorem sp_fields : (Tryz.prog.fieldsOf 54).toList.map (fun f => (f.type, f.offset)) = [(5, 0), (3, 1), (42, 2)] := by kernel_rfl
theorem sp_cellsOf : Tryz.prog.cellsOf 54 = 3 := by kernel_rfl
theorem sp_c1 : Tryz.prog.cellsOf 5 = 1 ∧ Tryz.prog.cellsOf 42 = 1 := ⟨by kernel_rfl, by kernel_rfl⟩
theorem sp_field {j : Nat} {t : TypeId} {o : Nat} (h : [(5, 0), (3, 1), (42, 2)][j]? = some (t, o)) : ∃ f, (Tryz.prog.fieldsOf 54)[j]? = some f ∧ f.type = t ∧ f.offset = o := by
  rw [← sp_fields, List.getElem?_map] at h
  obtain ⟨f, hf, e⟩ := Option.map_eq_some_iff.1 h
  simp only [Prod.mk.injEq] at e
  exact ⟨f, by simpa using hf, e.1, e.2⟩
def spFits (W : World) {H : Type} (c : Sp) (d : DataW H) : Prop := c.kind < 256 ∧ VRead2 W c.iv c.items ∧ c.items.length ≤ Rows.uptoBulk d ∧ ∀ y ∈ c.items, y.num < 18446744073709551616 ∧ y.text.length ≤ Rows.uptoBulk d
set_option maxRecDepth 100000 in
theorem open_sp_cells (fuel : Nat) (l : List Value) (x : DataW H × List MemPlace) (hf : DataW.trod enc Tryz.prog W 0 (fun _ => true) true fuel 54 l = some x) : ∃ a : Sp, l = a.cells ∧ spFits W a x.1 := by
  obtain ⟨xs, n, _, hx, hlc, hlen, hg⟩ := DataW.trod_struct sp_under hf
  rw [sp_cellsOf] at hlc
  have hfs : (Tryz.prog.fieldsOf 54).size = 3 := by
    have := congrArg List.length sp_fields
    simpa using this
  rw [hfs] at hlen
  obtain ⟨cS, cI, cF⟩ := val_c1
  obtain ⟨c8, cV⟩ := sp_c1
  obtain ⟨f0, h0, t0, o0⟩ := sp_field (j := 0) rfl
  obtain ⟨f1, h1, t1, o1⟩ := sp_field (j := 1) rfl
  obtain ⟨f2, h2, t2, o2⟩ := sp_field (j := 2) rfl
  have g0 := hg 0 _ h0
  have g1 := hg 1 _ h1
  have g2 := hg 2 _ h2
  rw [t0, o0, c8] at g0
  rw [t1, o1, cI] at g1
  rw [t2, o2, cV] at g2
  match l, hlc with
  | [d0, d1, d2], _ =>
    match xs, hlen with
    | [y0, y1, y2], _ =>
      obtain ⟨s0, e0, x0, b0⟩ := DataW.trod_int Tryz.underlying5 g0
      have b0 := bounds_u8 b0
      obtain ⟨s1, e1, x1, _⟩ := DataW.trod_int Tryz.underlying3 g1
      obtain ⟨iv, its, e2, r2, sh2, l2, m2⟩ := open_rows_at (α := Va) (B := fun a d => a.num < 18446744073709551616 ∧ a.text.length ≤ Rows.uptoBulk d) Tryz.underlying42 val_cellsOf (by decide) (fun a => rfl) open_val_cells g2
      simp at e0 e1 e2
      subst e0 e1 e2
      subst x0 x1
      subst hx
      obtain ⟨s0, rfl⟩ := Int.eq_ofNat_of_zero_le b0.1
      refine ⟨⟨s0, s1, its, d2⟩, ?_, ?_⟩
      · simp [Sp.cells]
      · refine ⟨(by have := b0.2; show s0 < 256; omega), vread2_of r2 sh2, ?_, fun y hy => ?_⟩
        · simp only [List.map_cons, List.map_nil, Rows.uptoBulk, Rows.uptoBulkAll]; omega
        · obtain ⟨d', ⟨q1, q2⟩, q3⟩ := m2 y hy
          refine ⟨q1, ?_⟩
          simp only [List.map_cons, List.map_nil, Rows.uptoBulk, Rows.uptoBulkAll]
          omega
set_option maxRecDepth 100000 in
theorem open_steps {v : Value} {d : DataW H} {ps : List MemPlace} {base : Nat} (hv : Value.okWide Tryz.prog W .any base 22 v) (h : DataW.Trod enc Tryz.prog W 0 (fun _ => true) true 22 v d ps) (hb : Rows.uptoBulk d ≤ 1000000000) :
    ∃ cs : List Sp, LRead 3 Sp.cells W v cs ∧ cs.length ≤ Rows.uptoBulk d ∧ ∀ c ∈ cs, SFine W c := by
  obtain ⟨rs, h1, h2, h3⟩ := open_rows (α := Sp) (B := spFits W) Tryz.underlying22 sp_cellsOf (by decide) (fun a => rfl) open_sp_cells hv h
  refine ⟨rs, h1, h2, fun c hc => ?_⟩
  obtain ⟨d', ⟨a1, a2, a3, a4⟩, hle⟩ := h3 c hc
  exact ⟨a1, a2, by omega, fun y hy => ⟨(a4 y hy).1, by have := (a4 y hy).2; omega⟩⟩
end
end Go.Proofs.YtapgibcdbggpkaaGreatDoor
