/- Layer 8: the law HeapArrays, in plain words. -/
import Derived.Test.YtfophnmnehpenaaDoorHA9
import Derived.Test.YtfophnmnehpenaaDoorHA10
namespace Go.Proofs.YtfophnmnehpenaaDoor
open Go Go.RowKit
set_option linter.all false
def fI (n : Nat) : Nat := floatOfInt .f64 (n : Int)
def negOne : Nat := 13830554455654793216
def arL (m : Nat) : List Va := (List.range m).map fun i => Va.num' (fI i)
def arI (m : Nat) : List Va := (arL m ++ List.replicate 3 Va.zero).set (m + 2) (Va.num' negOne)
def arJ (m c : Nat) : List Va := if c < m + 3 then (arI m).take c else arI m ++ List.replicate (c - (m + 3)) Va.zero
def arO (l : List Va) : Ob := Ob.fresh 2 (-1) 0 0 0 l
theorem float_facts : ((List.range 256).all fun i => decide (fI i < 18446744073709551616) && (FloatKind.f64.format.order (fI i) (fI i) == some Ordering.eq) && (lenOf (Va.num' (fI i)) == some i)) = true := by kernel_rfl
theorem fI_wf (i : Nat) (h : i < 256) : (Va.num' (fI i)).wf := by
  have := List.all_eq_true.1 float_facts i (List.mem_range.2 h)
  simp only [Bool.and_eq_true, decide_eq_true_eq] at this
  exact ⟨this.1.1, by simp [Va.num']⟩
theorem fI_self (i : Nat) (h : i < 256) : (FloatKind.f64.format.order (fI i) (fI i) != some Ordering.eq) = false := by
  have := List.all_eq_true.1 float_facts i (List.mem_range.2 h)
  simp only [Bool.and_eq_true] at this
  rw [bne, this.1.2]; rfl
theorem fI_len (i : Nat) (h : i < 256) : lenOf (Va.num' (fI i)) = some i := by
  have := List.all_eq_true.1 float_facts i (List.mem_range.2 h)
  simp only [Bool.and_eq_true] at this
  simpa using this.2
theorem arL_len (m : Nat) : (arL m).length = m := by simp [arL]
theorem arL_succ (m : Nat) : arL (m + 1) = arL m ++ [Va.num' (fI m)] := by simp [arL, List.range_succ]
theorem arI_len (m : Nat) : (arI m).length = m + 3 := by simp [arI, arL_len]
theorem arJ_len (m c : Nat) : (arJ m c).length = c := by
  unfold arJ
  split
  · rw [List.length_take, arI_len]; omega
  · rw [List.length_append, arI_len, List.length_replicate]; omega
theorem arI_low (m i : Nat) (h : i < m) : (arI m)[i]? = some (Va.num' (fI i)) := by
  unfold arI
  rw [List.getElem?_set_ne (by omega), List.getElem?_append_left (by rw [arL_len]; exact h)]
  simp [arL, h]
theorem arI_mid (m : Nat) : (arI m)[m + 1]? = some Va.zero := by
  unfold arI
  rw [List.getElem?_set_ne (by omega), List.getElem?_append_right (by rw [arL_len]; omega), arL_len, show m + 1 - m = 1 by omega]
  rfl
theorem arI_top (m : Nat) : (arI m)[m + 2]? = some (Va.num' negOne) := by
  unfold arI
  rw [List.getElem?_set_self (by simp [arL_len])]
theorem arJ_low (m c i : Nat) (h : i < m) (hc : i < c) : (arJ m c)[i]? = some (Va.num' (fI i)) := by
  unfold arJ
  split
  · rw [List.getElem?_take, if_pos hc]
    exact arI_low m i h
  · rw [List.getElem?_append_left (by rw [arI_len]; omega)]
    exact arI_low m i h
theorem arL_right (m n : Nat) : (arL m).all (Va.right n) = true := by
  apply List.all_eq_true.2
  intro x hx
  obtain ⟨i, -, rfl⟩ := List.mem_map.1 hx
  rfl
theorem index_lenKey : index lenKey = none := by decide
theorem index_keyN (n : Nat) (h : n ≤ 2147483647) : index (keyOf (n : Int)) = some n := by
  rw [index_key _ (by omega) (by omega), if_pos ⟨by omega, by omega⟩]
  simp
theorem keyN_ne (n : Nat) (h : n ≤ 2147483647) : ¬ keyOf (n : Int) = lenKey := fun e => by
  have := index_keyN n h
  rw [e, index_lenKey] at this
  cases this
theorem ar_e0 : Hd.new 10000 = ⟨10000, []⟩ := by
  unfold Hd.new cellsOf
  rw [show (((min (max (10000 : Int) 0) 10000).toNat : Nat) : Int) = 10000 by decide]
theorem ar_e1 (m : Nat) (hm : m < 256) : (Hd.mk 10000 []).array (arL m) = ((0, 0), ⟨10000 - (1 + m), [arO (arL m)]⟩) := by
  unfold Hd.array Hd.add
  rw [if_pos (arL_right _ _)]
  simp only [arL_len]
  rw [if_neg (by omega)]
  rfl
theorem ar_e2 (m : Nat) (hm : m < 256) : (Hd.mk (10000 - (1 + m)) [arO (arL m)]).put 0 (keyOf ((m + 2 : Nat) : Int)) (Va.num' negOne) = (0, ⟨10000 - (1 + m) - 3, [arO (arI m)]⟩) := by
  have hne := keyN_ne (m + 2) (by omega)
  have hix := index_keyN (m + 2) (by omega)
  generalize keyOf ((m + 2 : Nat) : Int) = kk at *
  unfold Hd.put
  have ho : (Hd.mk (10000 - (1 + m)) [arO (arL m)]).obj 0 = some (arO (arL m)) := rfl
  rw [ho]
  simp only
  have hr : (Va.num' negOne).right (Hd.mk (10000 - (1 + m)) [arO (arL m)]).xs.length = true := rfl
  rw [hr, if_neg (by simp), if_neg (fun h => hne h.2)]
  have hk : (arO (arL m)).kind = 2 := rfl
  rw [if_pos hk, hix]
  have hl : (arO (arL m)).items.length = m := arL_len m
  simp only [hl]
  rw [if_pos (by omega), if_neg (by omega)]
  have hit : (((arO (arL m)).resize (m + 2 + 1)).item (m + 2) (Va.num' negOne)) = arO (arI m) := by
    unfold Ob.item Ob.resize
    rw [hl, if_neg (by omega), show m + 2 + 1 - m = 3 by omega]
    rfl
  rw [hit]
  have e2 : (10000 : Int) - (1 + m) - (((m + 2 : Nat) : Int) + 1 - m) = 10000 - (1 + m) - 3 := by omega
  rw [e2]
  rfl
theorem ar_e3 (c : Int) (l : List Va) : (Hd.mk c [arO l]).items 0 = some l := rfl
theorem ar_keys (c : Int) (l : List Va) : ((Hd.mk c [arO l]).keys 0).length = l.length := by
  have : (Hd.mk c [arO l]).keys 0 = (arO l).all := rfl
  rw [this]
  simp [Ob.all, arO, Ob.fresh]
theorem ar_e4 (m c : Nat) (hm : m < 256) (hc : c < 256) : (Hd.mk (10000 - (1 + m) - 3) [arO (arI m)]).put 0 lenKey (Va.num' (fI c)) = (0, ⟨10000 - (1 + m) - 3 - ((c : Int) - (m + 3 : Nat)), [arO (arJ m c)]⟩) := by
  unfold Hd.put
  have ho : (Hd.mk (10000 - (1 + m) - 3) [arO (arI m)]).obj 0 = some (arO (arI m)) := rfl
  rw [ho]
  simp only
  have hr : (Va.num' (fI c)).right (Hd.mk (10000 - (1 + m) - 3) [arO (arI m)]).xs.length = true := rfl
  rw [hr, if_neg (by simp), if_pos ⟨rfl, trivial⟩, fI_len c hc]
  have hl : (arO (arI m)).items.length = m + 3 := arI_len m
  simp only [Hd.resize, hl]
  rw [if_neg (by omega)]
  have hit : (arO (arI m)).resize c = arO (arJ m c) := by
    unfold Ob.resize arJ
    rw [hl]
    rfl
  rw [hit]
  rfl
theorem ar_e5 (x : Int) (c : Nat) (hc : c < 256) (l : List Va) (hl : l.length = c) : (Hd.mk x [arO l]).own 0 (keyOf (c : Int)) = (Va.zero, false) := by
  have hne := keyN_ne c (by omega)
  have hix := index_keyN c (by omega)
  generalize keyOf (c : Int) = kk at *
  have ho : (Hd.mk x [arO l]).obj 0 = some (arO l) := rfl
  rw [own_at ho]
  unfold Ob.own
  rw [if_neg (fun h => hne h.2), if_pos (show (arO l).kind = 2 from rfl), hix]
  have h2 : (arO l).items = l := rfl
  simp only [h2, hl]
  rw [List.getElem?_eq_none (by omega)]
  simp
end Go.Proofs.YtfophnmnehpenaaDoor
