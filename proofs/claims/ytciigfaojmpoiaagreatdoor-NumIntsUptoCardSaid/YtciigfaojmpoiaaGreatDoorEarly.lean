/- A region that draws its order: what loads or computes may be taken first, as long as a condition T on the world holds up to the operation d which waits for it; then the rest, one by one. -/
import Derived.Test.YtciigfaojmpoiaaGreatDoorBase
import Derived.OrdersHeld
import Derived.StillTail
import Derived.Deep.RegionHeld
namespace Go.Proofs.YtciigfaojmpoiaaGreatDoor
open Go Go.RowKit
set_option linter.all false
section
variable {P : Program} {ops : Array Oper} {Q : Exit → Act → World → Prop} {md : Region.Mode} {T : World → Prop} {d : Nat}
/-- whatever order is picked from here on; T holds behind every operation, till d is done -/
def wpAnyU (P : Program) (md : Region.Mode) (ops : Array Oper) (Q : Exit → Act → World → Prop) (T : World → Prop) (d : Nat) : Nat → Array Bool → Act → World → Prop
  | 0, s, a, w => Region.ready md ops s = [] ∧ Q .normal a w
  | f + 1, s, a, w =>
    (Region.ready md ops s = [] → Q .normal a w) ∧
    ∀ i ∈ Region.ready md ops s, wpOp P ops Q i (fun a' w' => ((s.setIfInBounds i true).getD d true = false → T w') ∧ wpAnyU P md ops Q T d f (s.setIfInBounds i true) a' w') a w
theorem wpAny_of_until : ∀ (f : Nat) (s : Array Bool) (a : Act) (w : World), wpAnyU P md ops Q T d f s a w → wpAny P md ops Q f s a w
  | 0, _, _, _, h => h
  | f + 1, _, _, _, h => ⟨h.1, fun i hi => wpOp_mono (fun _ _ h' => wpAny_of_until f _ _ _ h'.2) (h.2 i hi)⟩
theorem wpAnyU_first {i : Nat} {oi : Oper} {v : Value} (hi : ops[i]? = some oi) (hsel : ∀ (j : Nat) (o : Oper) cs b, ops[j]? = some o → o.op ≠ .select cs b)
    (hQ : ∀ c a w, Q (.panic c) (a.put oi.dst v) w → Q (.panic c) a w) (hd : Region.waitsFor md ops d i = true) :
    ∀ (f : Nat) (s : Array Bool) (a : Act) (w : World),
      (∀ j oj, ops[j]? = some oj → j ≠ i → s.getD j true = false → (∀ e ∈ oj.after, Region.binds md e = true → e.on ≠ i) → oi.apart ops oj = true) →
      i ∈ Region.ready md ops s → YieldsIf P ops T oi v a → T w → s.getD d true = false →
      wpAnyU P md ops Q T d f (s.setIfInBounds i true) (a.put oi.dst v) w → wpAnyU P md ops Q T d (f + 1) s a w := by
  obtain ⟨od, hod, e0, he0, hb0, hon0⟩ := Region.waitsFor_spec hd
  intro f
  induction f with
  | zero =>
    intro s a w _ hr hy hT hsd H
    refine ⟨fun h => (by rw [h] at hr; cases hr), fun j hj => ?_⟩
    by_cases hji : j = i
    · subst hji; exact hy.wpOp hi hT ⟨fun _ => hT, H⟩
    · have := ready_mono hj hji
      rw [H.1] at this
      cases this
  | succ f ih =>
    intro s a w hfree hr hy hT hsd H
    refine ⟨fun h => (by rw [h] at hr; cases hr), fun j hj => ?_⟩
    by_cases hji : j = i
    · subst hji; exact hy.wpOp hi hT ⟨fun _ => hT, H⟩
    · have h1 := H.2 j (ready_mono hj hji)
      obtain ⟨hjun, oj, hoj, hall⟩ := mem_ready.1 hj
      have hnot : ∀ e ∈ oj.after, Region.binds md e = true → e.on ≠ i := fun e he hb heq => by
        have h1 := hall e he hb
        have h0 := (mem_ready.1 hr).1
        rw [heq] at h1
        rcases Nat.lt_or_ge i s.size with h' | h'
        · simp [h'] at h0 h1; rw [h0] at h1; cases h1
        · simp [Array.getElem?_eq_none h'] at h1
      have hjd : j ≠ d := fun e => by
        subst e
        rw [hoj] at hod
        cases hod
        exact hnot e0 he0 hb0 hon0
      have hid : i ≠ d := fun e => by
        subst e
        rw [hi] at hod
        cases hod
        obtain ⟨h0, o2, ho2, hall2⟩ := mem_ready.1 hr
        rw [hi] at ho2
        cases ho2
        have h3 := hall2 e0 he0 hb0
        rw [hon0] at h3
        rcases Nat.lt_or_ge i s.size with h' | h'
        · simp [h'] at h0 h3; rw [h0] at h3; cases h3
        · simp [Array.getElem?_eq_none h'] at h3
      have h2 := wpOp_putIf hoj (hfree j oj hoj hji hjun hnot) (fun cs b => hsel i oi cs b hi) (fun cs b => hsel j oj cs b hoj) hQ hy h1
      have hfree' : ∀ k ok, ops[k]? = some ok → k ≠ i → (s.setIfInBounds j true).getD k true = false →
          (∀ e ∈ ok.after, Region.binds md e = true → e.on ≠ i) → oi.apart ops ok = true := fun k ok hk hki hun hno => by
        refine hfree k ok hk hki ?_ hno
        by_cases hjk : j = k
        · subst hjk; exact hjun
        · rw [getD_set_ne true hjk] at hun; exact hun
      have hs1 : (s.setIfInBounds j true).getD d true = false := by rw [getD_set_ne true hjd]; exact hsd
      have hs2 : ((s.setIfInBounds i true).setIfInBounds j true).getD d true = false := by rw [getD_set_ne true hjd, getD_set_ne true hid]; exact hsd
      refine wpOp_mono (fun a' w' h3 => ⟨fun _ => h3.2.1 hs2, ih (s.setIfInBounds j true) a' w' hfree' (ready_mono hr (Ne.symm hji)) h3.1 (h3.2.1 hs2) hs1 ?_⟩) h2
      rw [Array.setIfInBounds_comm _ _ hji]
      exact h3.2.2
/-- number i is taken first -/
theorem wpAnyU_take {i : Nat} {oi : Oper} {v : Value} {f : Nat} {s : Array Bool} {a : Act} {w : World} (hi : ops[i]? = some oi)
    (hs : Region.noSelect ops = true) (hf : Region.free md ops s i = true) (hr : (Region.ready md ops s).contains i = true) (hd : Region.waitsFor md ops d i = true) (hsd : s.getD d true = false)
    (hQ : ∀ c a w, Q (.panic c) (a.put oi.dst v) w → Q (.panic c) a w) (hy : YieldsIf P ops T oi v a) (hT : T w)
    (h : wpAnyU P md ops Q T d f (s.setIfInBounds i true) (a.put oi.dst v) w) : wpAnyU P md ops Q T d (f + 1) s a w :=
  wpAnyU_first hi (Region.noSelect_spec hs) hQ hd f s a w (Region.free_spec hi hf) (by simpa using hr) hy hT hsd h
/-- number i alone comes up; behind it T is shown anew -/
theorem wpAnyU_next {i : Nat} {o : Oper} {f : Nat} {s : Array Bool} {a : Act} {w : World} (hr : Region.ready md ops s = [i]) (ho : ops[i]? = some o)
    (h : ∀ K' : Act → World → Prop, Shut (∀ a w, T w → (T w → wpAnyU P md ops Q T d f (s.setIfInBounds i true) a w) → K' a w) → if Region.wanted o (yielded ops a.tmps) = true then Oper.wp P o a w K' Q else K' (a.put o.dst undef) w) :
    wpAnyU P md ops Q T d (f + 1) s a w := by
  refine ⟨fun h0 => (by rw [hr] at h0; cases h0), fun j hj => ?_⟩
  rw [hr] at hj
  have : j = i := by simpa using hj
  subst this
  exact wpOp_step ho (fun K' hK => h K' (fun a w hT hW => hK a w ⟨fun _ => hT, hW hT⟩))
theorem wpAnyU_of_any : ∀ (f : Nat) (s : Array Bool) (a : Act) (w : World), s.getD d true = true → wpAny P md ops Q f s a w → wpAnyU P md ops Q T d f s a w
  | 0, _, _, _, _, h => h
  | f + 1, s, _, _, hs, h => ⟨h.1, fun i hi => wpOp_mono (fun _ _ h' => by
      have hs' : (s.setIfInBounds i true).getD d true = true := by
        by_cases hid : i = d
        · subst hid
          rcases Nat.lt_or_ge i s.size with h' | h'
          · simp [h']
          · simp [Array.getElem?_eq_none, h']
        · rw [getD_set_ne true hid]; exact hs
      exact ⟨fun h0 => (by rw [hs'] at h0; cases h0), wpAnyU_of_any f _ _ _ hs' h'⟩) (h.2 i hi)⟩
/-- from d on one by one -/
theorem wpAnyU_tail {l : List Oper} {s : Array Bool} {a : Act} {w : World} (d : Nat) (hB : Region.seqB md l.toArray (l.drop d).length d s = true) (h : wpList P l.toArray Q (l.drop d) a w) : wpAnyU P md l.toArray Q T d (l.drop d).length s a w := by
  have h1 := wpAny_of_seq (P := P) (md := md) (Q' := Q) (l.drop d) d s a w (fun j => by simp [List.getElem?_drop]) hB h
  generalize hn : (l.drop d).length = n at *
  cases n with
  | zero => exact h1
  | succ n =>
    refine ⟨h1.1, fun i hi => ?_⟩
    have hid : i = d := by
      simp only [Region.seqB, Bool.and_eq_true, decide_eq_true_eq] at hB
      rw [hB.1] at hi
      simpa using hi
    have h2 := h1.2 i hi
    subst hid
    have hs' : (s.setIfInBounds i true).getD i true = true := by
      rcases Nat.lt_or_ge i s.size with h' | h'
      · simp [h']
      · simp [Array.getElem?_eq_none, h']
    exact wpOp_mono (fun _ _ h' => ⟨fun h0 => (by rw [hs'] at h0; cases h0), wpAnyU_of_any n _ _ _ hs' h'⟩) h2
/-- THE LAW's beginning. -/
theorem wp_region_until {id : Nat} {a : Act} {w : World} {l : List Oper} (d : Nat) (hm : P.follows .mixedOrders = true) (hT : T w.drew)
    (h : T w.drew → wpAnyU P .any l.toArray Q T d l.length (Array.replicate l.length false) a w.drew) : (Code.region id l.toArray true).wp P Q a w := by
  have := h hT
  have h2 := wpAny_of_until _ _ _ _ this
  exact wp_region_any hm (by simpa using h2)
end
end Go.Proofs.YtciigfaojmpoiaaGreatDoor
