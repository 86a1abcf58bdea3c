/- Layer 2: a declaration's attributes, as the document's machine of wants goes over them. -/
import Derived.Test.YtaknfofppknloaaGreatDoorTr10
namespace Go.Proofs.YtaknfofppknloaaGreatDoor
open Go Go.RowKit
set_option linter.all false
namespace Tk
def wnt (w : Nat) (a : Attr) : Option Nat :=
  if (narrow a.nm == [118, 101, 114, 115, 105, 111, 110]) && (w == 0) && (narrow a.val == [49, 46, 48]) then some 1
  else if (narrow a.nm == [101, 110, 99, 111, 100, 105, 110, 103]) && (w == 1) && ((narrow a.val).map sm8 == [117, 116, 102, 45, 56]) then some 2
  else if (narrow a.nm == [115, 116, 97, 110, 100, 97, 108, 111, 110, 101]) && (w == 1 || w == 2) && (narrow a.val == [121, 101, 115] || narrow a.val == [110, 111]) then some 3
  else none
def runW : List Attr → Nat → Bool → Bool
  | [], w, ok => ok && w != 0
  | a :: r, w, ok => match wnt w a with | some v => runW r v ok | none => runW r w false
theorem runW_false : ∀ (l : List Attr) (w : Nat), runW l w false = false
  | [], w => by simp [runW]
  | a :: r, w => by
    rw [runW]
    rcases wnt w a with _ | v
    · exact runW_false r w
    · exact runW_false r v
theorem runW3 (l : List Attr) (q : Bool) : runW l 3 q = (q && l.isEmpty) := by
  rcases l with _ | ⟨c, r⟩
  · simp [runW]
  · have e : wnt 3 c = none := by simp [wnt]
    rw [runW, e]
    simp [runW_false]
theorem dS_false (l : List Attr) : dS false l = false := by rcases l with _ | ⟨c, r⟩ <;> simp [dS]
theorem dE_false (l : List Attr) : dE false l = false := by
  rcases l with _ | ⟨c, r⟩
  · rfl
  · simp only [dE, Bool.false_and, dS_false]
    split <;> rfl
theorem runW2 (l : List Attr) (q : Bool) : runW l 2 q = dS q l := by
  rcases l with _ | ⟨c, r⟩
  · simp [runW, dS]
  · rw [runW]
    simp only [wnt, dS]
    rcases hs : (narrow c.nm == [115, 116, 97, 110, 100, 97, 108, 111, 110, 101]) with _ | _
    · simp [runW_false]
    · rcases hy : (narrow c.val == [121, 101, 115] || narrow c.val == [110, 111]) with _ | _
      · simp [runW_false]
      · simp [runW3]
theorem runW1 {N : Nat} (l : List Attr) (q : Bool) (h : ∀ a ∈ l, a.okd N) : runW l 1 q = dE q l := by
  rcases l with _ | ⟨b, r⟩
  · simp [runW, dE]
  · have hu : ((narrow b.val).map sm8 == [117, 116, 102, 45, 56]) = foldU b.val := small_eq b.val [117, 116, 102, 45, 56] (h b (by simp)).2.1 (by decide)
    rw [runW]
    simp only [wnt, dE, hu]
    rcases he : (narrow b.nm == [101, 110, 99, 111, 100, 105, 110, 103]) with _ | _
    · simp only [dS]
      rcases hs : (narrow b.nm == [115, 116, 97, 110, 100, 97, 108, 111, 110, 101]) with _ | _
      · simp [runW_false]
      · rcases hy : (narrow b.val == [121, 101, 115] || narrow b.val == [110, 111]) with _ | _
        · simp [runW_false]
        · simp [runW3]
    · have hs : (narrow b.nm == [115, 116, 97, 110, 100, 97, 108, 111, 110, 101]) = false := by
        rw [beq_iff_eq.1 he]; decide
      rw [hs]
      rcases hf : foldU b.val with _ | _
      · simp [runW_false, dS_false]
      · simp [runW2]
theorem decl_run {N : Nat} (l : List Attr) (q : Bool) (h : ∀ a ∈ l, a.okd N) : runW l 0 q = (declOk l && q) := by
  rw [decl_eq l q h]
  rcases l with _ | ⟨a, r⟩
  · simp [runW, dA, dE]
  · rw [runW]
    simp only [wnt, dA, List.drop_succ_cons, List.drop_zero]
    rcases hv : (narrow a.nm == [118, 101, 114, 115, 105, 111, 110]) with _ | _
    · simp [runW_false, dE_false]
    · rcases h1 : (narrow a.val == [49, 46, 48]) with _ | _
      · simp [runW_false, dE_false]
      · simp [runW1 r q (fun x hx => h x (by simp [hx]))]
end Tk
end Go.Proofs.YtaknfofppknloaaGreatDoor
