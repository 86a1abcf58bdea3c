/- Layer 8: the law HeapKeeps in plain words: two new plain objects behind whatever objects a heap has. -/
import Derived.Test.YtfophnmnehpenaaDoorHs1
namespace Go.Proofs.YtfophnmnehpenaaDoor
open Go Go.RowKit
set_option linter.all false
def oA (p : Int) (ks : List (List UInt8)) (f : List UInt8 → Option Va) : Ob := ⟨1, p, 0, 0, 0, ks, f, []⟩
section
variable (l : Int) (xs : List Ob) (A B : Ob)
theorem kp_objA : (Hd.mk l (xs ++ [A, B])).obj (xs.length : Int) = some A := by
  unfold Hd.obj; rw [if_neg (by omega)]; simp
theorem kp_objB : (Hd.mk l (xs ++ [A, B])).obj ((xs.length : Int) + 1) = some B := by
  unfold Hd.obj
  rw [if_neg (by omega), show ((xs.length : Int) + 1).toNat = xs.length + 1 by omega]
  rw [List.getElem?_append_right (by omega), show xs.length + 1 - xs.length = 1 by omega]
  rfl
theorem kp_turnA (A' : Ob) (l' : Int) : (Hd.mk l (xs ++ [A, B])).turn (xs.length : Int) A' l' = ⟨l', xs ++ [A', B]⟩ := by
  unfold Hd.turn
  rw [show ((xs.length : Int)).toNat = xs.length by omega, List.set_append_right _ _ (by omega), Nat.sub_self]
  rfl
theorem kp_turnB (B' : Ob) (l' : Int) : (Hd.mk l (xs ++ [A, B])).turn ((xs.length : Int) + 1) B' l' = ⟨l', xs ++ [A, B']⟩ := by
  unfold Hd.turn
  rw [show ((xs.length : Int) + 1).toNat = xs.length + 1 by omega, List.set_append_right _ _ (by omega), show xs.length + 1 - xs.length = 1 by omega]
  rfl
theorem kp_len : (xs ++ [A, B]).length = xs.length + 2 := by simp
variable (p : Int) (ks : List (List UInt8)) (f : List UInt8 → Option Va) (key : List UInt8) (v : Va)
theorem kp_put {i : Int} (d : Hd) (ho : d.obj i = some (oA p ks f)) : d.put i key v = if v.right d.xs.length = false then (1, d) else if (f key).isSome = true then (0, d.turn i (oA p ks (upd f key (some v))) d.left) else if d.left < 1 then (112, d) else (0, d.turn i (oA p (ks ++ [key]) (upd f key (some v))) (d.left - 1)) := by
  unfold Hd.put
  rw [ho]
  have hk : ¬ ((oA p ks f).kind = 2 ∧ key = lenKey) := fun h => by cases h.1
  have hk2 : ¬ (oA p ks f).kind = 2 := fun h => by cases h
  simp only [if_neg hk, if_neg hk2]
  have hf : (oA p ks f).props = f := rfl
  rw [hf]
  split
  · rfl
  · split
    · next hs => simp only [Ob.prop, hf, hs, if_true]; rfl
    · next hs =>
      split
      · rfl
      · simp only [Ob.prop, hf, hs]; rfl
theorem kp_own {i : Int} (d : Hd) (ho : d.obj i = some (oA p ks f)) : d.own i key = ((f key).getD Va.zero, (f key).isSome) := by
  rw [own_at ho]
  unfold Ob.own
  rw [if_neg (fun h => by cases h.1), if_neg (fun h => by cases h)]
  rfl
theorem kp_drop {i : Int} (d : Hd) (ho : d.obj i = some (oA p ks f)) : d.drop i key = if (f key).isSome = true then (true, d.turn i (oA p (ks.filter fun k => !(k == key)) (upd f key none)) (d.left + 1)) else (false, d) := by
  unfold Hd.drop
  rw [ho]
  have hk2 : ¬ (oA p ks f).kind = 2 := fun h => by cases h
  simp only [if_neg hk2]
  rfl
theorem kp_keys {i : Int} (d : Hd) (ho : d.obj i = some (oA p ks f)) : d.keys i = ks := by
  unfold Hd.keys
  rw [ho]
  simp [Ob.all, oA]
theorem kp_get {i j : Int} {q : Int} {ks2 : List (List UInt8)} {g : List UInt8 → Option Va} {x : Va} (d : Hd) (hi : d.obj i = some (oA j ks2 g)) (hg : g key = none) (hj : d.obj j = some (oA q ks f)) (hf : f key = some x) : d.get i key = (x, true) := by
  have o1 : ((oA j ks2 g).own key).2 = false := by
    have := kp_own j ks2 g key d hi
    rw [own_at hi] at this
    rw [this, hg]; rfl
  have o2 : ((oA q ks f).own key).2 = true := by
    have := kp_own q ks f key d hj
    rw [own_at hj] at this
    rw [this, hf]; rfl
  have hlen : ∃ m, d.xs.length = m + 1 := ⟨d.xs.length - 1, by have := (Hd.obj_mem hi).2.2.1; have := (Hd.obj_mem hi).2.1; omega⟩
  obtain ⟨m, hm⟩ := hlen
  unfold Hd.get
  rw [hm, holder_up d key _ i _ hi o1, show (oA j ks2 g).proto = j from rfl, holder_here d key _ j _ hj o2, kp_own q ks f key d hj, hf]
  rfl
end
theorem kp_plain1 (d : Hd) : d.plain (-1) = if d.left < 1 then ((0, 112), d) else (((d.xs.length : Int), 0), ⟨d.left - 1, d.xs ++ [oA (-1) [] fun _ => none]⟩) := by
  unfold Hd.plain Hd.add
  rw [if_neg (fun h => h.1 rfl)]
  rfl
theorem kp_plain2 (l : Int) (xs : List Ob) (A : Ob) : (Hd.mk l (xs ++ [A])).plain (xs.length : Int) = if l < 1 then ((0, 112), ⟨l, xs ++ [A]⟩) else (((xs.length : Int) + 1, 0), ⟨l - 1, xs ++ [A, oA (xs.length : Int) [] fun _ => none]⟩) := by
  have ho : ¬ (Hd.mk l (xs ++ [A])).obj (xs.length : Int) = none := by
    unfold Hd.obj; rw [if_neg (by omega)]; simp
  unfold Hd.plain Hd.add
  rw [if_neg (fun h => ho h.2)]
  simp only [List.length_append, List.length_cons, List.length_nil, List.append_assoc, List.cons_append, List.nil_append]
  rfl
theorem kp_keys0 (l l' : Int) (xs ys : List Ob) (h : 0 < xs.length) : (Hd.mk l (xs ++ ys)).keys 0 = (Hd.mk l' xs).keys 0 := by
  unfold Hd.keys Hd.obj
  rw [if_neg (by omega), if_neg (by omega)]
  simp only [Int.toNat_zero]
  rw [List.getElem?_append_left h]
theorem key_ne (key : List UInt8) (c : UInt8) : key ++ [0, c] ≠ key := fun e => by
  have := congrArg List.length e
  simp at this
theorem key_ne2 (key : List UInt8) : key ++ [0, 121] ≠ key ++ [0, 122] := fun e => by
  have := List.append_cancel_left e
  cases this
end Go.Proofs.YtfophnmnehpenaaDoor
