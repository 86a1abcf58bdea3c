/- Layer 8: slices.Clone of values. -/
import Derived.Test.YtfophnmnehpenaaDoorHm5
namespace Go.Proofs.YtfophnmnehpenaaDoor
open Go Go.RowKit
set_option linter.all false
@[go_sem] theorem run_store_flt {P : Program} (w : World) (a : Addr) (m : Mode) (k : FloatKind) (x : Nat) : (store a (.float k x) m).run P w = stored P w a (.float k x) m := run_store P w a _ m rfl
/-- a slice reads as a list of values -/
def VRead (w : World) (v : Value) (vs : List Va) : Prop :=
  (v = .slice none 0 0 ∧ vs = []) ∨ ∃ b o c, v = .slice (some ⟨b, o, none⟩) vs.length c ∧ b < w.heap.size ∧ ∀ (j : Nat) u, (vs.flatMap Va.cells)[j]? = some u → w.cell? ⟨b, o + j, none⟩ = some u
theorem VRead.same {w w' : World} {v : Value} {vs : List Va} (h : VRead w v vs) (hs : w.heap.size ≤ w'.heap.size) (e : ∀ b, v.ownBlock = some b → w'.heap[b]? = w.heap[b]?) : VRead w' v vs := by
  rcases h with h | ⟨b, o, c, rfl, hb, hc⟩
  · exact .inl h
  · refine .inr ⟨b, o, c, rfl, Nat.lt_of_lt_of_le hb hs, fun j u hu => ?_⟩
    rw [← hc j u hu]
    exact World.cell?_of_block (e b rfl)
theorem VRead.pur {w w' : World} {v : Value} {vs : List Va} (h : VRead w v vs) (hp : Pur w w') : VRead w' v vs := by
  refine h.same hp.size fun b hb => hp.block b ?_
  rcases h with ⟨rfl, -⟩ | ⟨b', o, c, rfl, hb', -⟩
  · simp [Value.ownBlock] at hb
  · simp [Value.ownBlock] at hb; omega
theorem VRead.of_own {w : World} {B : Nat} {e : TypeId} {v : Value} {vs : List Va} (h : w.ownsRow B e 4 v vs.length (vs.flatMap Va.cells)) : VRead w v vs := by
  rcases h.2 with ⟨rfl, h0⟩ | ⟨g, cap, cur, rfl, hb, hg, _⟩
  · exact .inl ⟨rfl, List.length_eq_zero_iff.1 h0⟩
  · refine .inr ⟨g, 0, cap, rfl, (Array.getElem?_eq_some_iff.1 hg).1, fun j u hu => ?_⟩
    have := h.cells (g := g) rfl j u hu
    rw [← this, Nat.zero_add]
    unfold Addr.add
    split <;> simp_all
theorem va_len (vs : List Va) : (vs.flatMap Va.cells).length = vs.length * 4 := by
  induction vs with
  | nil => rfl
  | cons x r ih => rw [List.flatMap_cons, List.length_append, ih, List.length_cons]; simp [Va.cells]; omega
theorem va_at : ∀ (vs : List Va) (j : Nat) (x : Va), vs[j]? = some x → ∀ (i : Nat) u, x.cells[i]? = some u → (vs.flatMap Va.cells)[j * 4 + i]? = some u
  | [], j, x, h, i, u, hu => by simp at h
  | g :: vs, 0, x, h, i, u, hu => by
    obtain rfl : g = x := by simpa using h
    have hi := (List.getElem?_eq_some_iff.1 hu).1
    rw [List.flatMap_cons, Nat.zero_mul, Nat.zero_add, List.getElem?_append_left hi, hu]
  | g :: vs, j + 1, x, h, i, u, hu => by
    have := va_at vs j x (by simpa using h) i u hu
    have hl : g.cells.length = 4 := rfl
    rw [List.flatMap_cons, List.getElem?_append_right (by rw [hl, Nat.succ_mul]; omega), hl]
    rw [show (j + 1) * 4 + i - 4 = j * 4 + i by rw [Nat.succ_mul]; omega]
    exact this
theorem row_low {w : World} {B B' : Nat} {e : TypeId} {k : Nat} {v : Value} {n : Nat} {xs : List Value} (h : w.ownsRow B e k v n xs) (hB : B' ≤ B) : w.ownsRow B' e k v n xs := by
  refine ⟨h.1, ?_⟩
  rcases h.2 with h2 | ⟨g, cap, cur, rfl, h1, h2⟩
  · exact .inl h2
  · exact .inr ⟨g, cap, cur, rfl, Nat.le_trans hB h1, h2⟩
theorem va_one {vs : List Va} {u : Value} (h : u ∈ vs.flatMap Va.cells) : u.oneCell' = true := by
  obtain ⟨x, -, hx⟩ := List.mem_flatMap.1 h
  simp [Va.cells] at hx
  rcases hx with rfl | rfl | rfl | rfl <;> rfl
theorem va_info : (Tryd.prog.info? 33).map (fun i => (i.zero.map (·.cells.size), i.size, i.bytes)) = some (some 4, 4, 40) := by kernel_rfl
set_option maxRecDepth 100000 in
theorem clone_any (v : Value) (vs : List Va) (w : World) (h : VRead w v vs) (hn : vs.length ≤ 1000000) :
    Calls Tryd.prog 39 #[v] w fun e w' => ∃ v', e = .returned v' ∧ Pur w w' ∧ w'.ownsRow w.heap.size 33 4 v' vs.length (vs.flatMap Va.cells) := by
  obtain ⟨i0, hi, hz⟩ := Option.map_eq_some_iff.1 va_info
  simp only [Prod.mk.injEq] at hz
  obtain ⟨hz0, hz1, hz2⟩ := hz
  obtain ⟨z0, hz0, hzs⟩ := Option.map_eq_some_iff.1 hz0
  rcases h with ⟨rfl, rfl⟩ | ⟨b, o, c, rfl, hb, hc⟩
  · have he : ∀ w : World, (binOp .eql 30 (.slice none 0 0) (.slice none 0 0)).run Tryd.prog w = .ok (.bool true) w := fun _ => rfl
    go_enter Tryd.func39, Tryd.ntmps39
    go_wp2_with fail
    go_ret
    exact ⟨_, rfl, Pur.refl _, World.ownsRow_nil _ _ _ _⟩
  · have hc' : ∀ (j : Nat) u, (vs.flatMap Va.cells)[j]? = some u → (w.alloc (.cells #[] 33)).cell? ((⟨b, o, none⟩ : Addr).add j) = some u := fun j u hu => by
      have e : (⟨b, o, none⟩ : Addr).add j = ⟨b, o + j, none⟩ := by unfold Addr.add; split <;> simp_all
      rw [e]
      exact (((Pur.refl w).alloc _).cell (p := ⟨b, o + j, none⟩) hb).trans (hc j u hu)
    have hm := World.ownsRow_made (base := w.heap.size) (e := 33) (size := 4) w #[] 0 (Nat.le_refl _) (by decide) rfl
    have hlen := va_len vs
    have hsz := ((Pur.refl w).alloc (.cells #[] 33)).size
    have hn1 : 0 + vs.length ≤ maxLen := by unfold maxLen; omega
    have hn2 : (0 + vs.length) * 40 ≤ 140737488355328 := by omega
    have he : ∀ w : World, (binOp .eql 30 (.slice (some ⟨b, o, none⟩) vs.length c) (.slice none 0 0)).run Tryd.prog w = .ok (.bool false) w := fun _ => rfl
    go_enter Tryd.func39, Tryd.ntmps39
    go_wp2_with (at_builtin; refine wpList_append_own_at _ rfl _ _ 30 rfl w.heap.size 33 i0 z0 4 40 Tryd.underlying30 hi hz0 hz1 hz2 hzs (by decide) _ _ _ rfl hm ⟨b, o, none⟩ vs.length c (vs.flatMap Va.cells) rfl hlen hc' (fun u hu => va_one hu) hn1 hn2 hsz ?_)
    intro v5 w5 hown5 hgrow _ hid
    have hp : Pur w w5 := ((Pur.refl w).alloc (.cells #[] 33)).grown hgrow hsz (fun k hk => (hm.lt k hk).1)
    clear hm hc hc' hgrow hid
    go_wp2
    go_ret
    exact ⟨_, rfl, hp, hown5⟩
end Go.Proofs.YtfophnmnehpenaaDoor
