/- Layer 8: what a heap's calls do, as plain functions. -/
import Derived.Test.YtfophnmnehpenaaDoorHm1
import Derived.Test.YtfophnmnehpenaaDoorHp1
namespace Go.Proofs.YtfophnmnehpenaaDoor
open Go Go.RowKit
set_option linter.all false
/-- a heap's content -/
structure Hd where
  left : Int
  xs : List Ob
def Hs.d (s : Hs) : Hd := ⟨s.left, s.xs⟩
def Hd.obj (d : Hd) (i : Int) : Option Ob := if i < 0 then none else d.xs[i.toNat]?
def Hd.add (d : Hd) (x : Ob) (c : Int) : (Int × Int) × Hd := if d.left < c then ((0, 112), d) else (((d.xs.length : Int), 0), ⟨d.left - c, d.xs ++ [x]⟩)
def Ob.fresh (kind proto a b scope : Int) (items : List Va) : Ob := ⟨kind, proto, a, b, scope, [], fun _ => none, items⟩
def Hd.plain (d : Hd) (p : Int) : (Int × Int) × Hd := if p ≠ -1 ∧ d.obj p = none then ((0, 3), d) else d.add (Ob.fresh 1 p 0 0 0 []) 1
def Ob.cost (x : Ob) : Nat := 1 + x.keys.length + x.items.length
def Hd.taken (d : Hd) : Nat := (d.xs.map Ob.cost).sum
/-- the object of number n is in order: its prototype is an earlier one; each key stands once, and has a value -/
def Ob.Ok (n : Nat) (x : Ob) : Prop := x.proto < n ∧ x.keys.Nodup ∧ ∀ k, k ∈ x.keys ↔ (x.props k).isSome = true
/-- cells are neither lost nor made; the objects are in order -/
def Hd.Ok (G : Nat) (d : Hd) : Prop := 0 ≤ d.left ∧ d.left + d.taken = G ∧ G ≤ 10000 ∧ ∀ (i : Nat) x, d.xs[i]? = some x → x.Ok i
theorem sum_ge (xs : List Ob) : xs.length ≤ (xs.map Ob.cost).sum := by
  induction xs with
  | nil => simp
  | cons x r ih => simp only [List.map_cons, List.sum_cons, List.length_cons, Ob.cost] at ih ⊢; omega
theorem sum_mem {xs : List Ob} {x : Ob} (h : x ∈ xs) : x.cost ≤ (xs.map Ob.cost).sum := by
  induction xs with
  | nil => cases h
  | cons y r ih =>
    rw [List.map_cons, List.sum_cons]
    rcases List.mem_cons.1 h with rfl | h
    · omega
    · have := ih h; omega
theorem Hd.Ok.bounds {G : Nat} {d : Hd} (h : d.Ok G) : 0 ≤ d.left ∧ d.left ≤ 10000 ∧ d.xs.length ≤ 10000 := by
  have h1 := sum_ge d.xs
  obtain ⟨h2, h3, h4, -⟩ := h
  unfold Hd.taken at h3
  omega
theorem Hd.Ok.mem {G : Nat} {d : Hd} (h : d.Ok G) {x : Ob} (hx : x ∈ d.xs) : x.keys.length ≤ 10000 ∧ x.items.length ≤ 10000 := by
  have h1 : 1 + x.keys.length + x.items.length ≤ (d.xs.map Ob.cost).sum := sum_mem hx
  obtain ⟨h2, h3, h4, -⟩ := h
  unfold Hd.taken at h3
  omega
theorem Hd.obj_mem {d : Hd} {i : Int} {x : Ob} (h : d.obj i = some x) : x ∈ d.xs ∧ 0 ≤ i ∧ i < d.xs.length ∧ d.xs[i.toNat]? = some x := by
  unfold Hd.obj at h
  split at h
  · cases h
  · have := (List.getElem?_eq_some_iff.1 h).1
    exact ⟨List.mem_of_getElem? h, by omega, by omega, h⟩
theorem Hd.Ok.add {G : Nat} {d : Hd} (h : d.Ok G) (x : Ob) (c : Int) (hc : c = x.cost) (hx : x.Ok d.xs.length) : (d.add x c).2.Ok G := by
  unfold Hd.add
  split
  · exact h
  · obtain ⟨h2, h3, h4, h5⟩ := h
    refine ⟨by simp only; omega, ?_, h4, ?_⟩
    · simp only [Hd.taken, List.map_append, List.map_cons, List.map_nil, List.sum_append, List.sum_cons, List.sum_nil] at h3 ⊢
      omega
    · intro i y hy
      simp only at hy
      by_cases hi : i < d.xs.length
      · rw [List.getElem?_append_left hi] at hy
        exact h5 i y hy
      · have hi' : i = d.xs.length := by
          have := (List.getElem?_eq_some_iff.1 hy).1
          simp at this
          omega
        subst hi'
        rw [List.getElem?_append_right (Nat.le_refl _)] at hy
        simp at hy
        subst hy
        exact hx
theorem Ob.fresh_ok (kind proto a b scope : Int) (items : List Va) (n : Nat) (h : proto < n) : (Ob.fresh kind proto a b scope items).Ok n := ⟨h, List.nodup_nil, by simp [Ob.fresh]⟩
theorem Hd.Ok.plain {G : Nat} {d : Hd} (h : d.Ok G) (p : Int) : (d.plain p).2.Ok G := by
  unfold Hd.plain
  split
  · exact h
  · next hp =>
    refine h.add _ _ rfl (Ob.fresh_ok _ _ _ _ _ _ _ ?_)
    by_cases h1 : p = -1
    · omega
    · obtain ⟨x, hx⟩ := Option.ne_none_iff_exists'.1 (fun e => hp ⟨h1, e⟩)
      exact (Hd.obj_mem hx).2.2.1
/-- the key of an array's length -/
def lenKey : List UInt8 := [0, 108, 0, 101, 0, 110, 0, 103, 0, 116, 0, 104]
/-- is a value right, of a heap of n objects? -/
def Va.right (n : Nat) (x : Va) : Bool :=
  if x.kind = 0 ∨ x.kind = 1 then sameB x.num 0 && (x.text == []) && decide (x.ref = 0)
  else if x.kind = 2 then (sameB x.num 0 || eqB x.num 4607182418800017408) && (x.text == []) && decide (x.ref = 0)
  else if x.kind = 3 then (x.text == []) && decide (x.ref = 0)
  else if x.kind = 4 then sameB x.num 0 && decide (x.ref = 0) && ((x.text.length : Int) % 2 == 0)
  else if x.kind = 5 ∨ x.kind = 6 then sameB x.num 0 && (x.text == []) && decide (0 ≤ x.ref) && (decide (x.kind = 6) || decide (x.ref < n))
  else false
/-- a value that a machine can hold -/
def Va.wf (x : Va) : Prop := x.num < 18446744073709551616 ∧ x.text.length ≤ 1000000000
/-- an own property -/
def Ob.own (x : Ob) (key : List UInt8) : Va × Bool :=
  if x.kind = 2 ∧ key = lenKey then (⟨3, floatOfInt .f64 x.items.length, [], 0⟩, true)
  else match (if x.kind = 2 then index key else none) with
    | some n => (x.items[n]?.getD Va.zero, decide (n < x.items.length))
    | none => ((x.props key).getD Va.zero, (x.props key).isSome)
def Hd.own (d : Hd) (i : Int) (key : List UInt8) : Va × Bool :=
  match d.obj i with
  | none => (Va.zero, false)
  | some x => x.own key
/-- the object at which a key is found; -1: none -/
def Hd.holder (d : Hd) (key : List UInt8) : Nat → Int → Int
  | 0, _ => -1
  | n + 1, i => match d.obj i with
    | none => -1
    | some x => if (x.own key).2 = true then i else d.holder key n x.proto
def Hd.get (d : Hd) (i : Int) (key : List UInt8) : Va × Bool := d.own (d.holder key (d.xs.length + 1) i) key
/-- the number of an object turned into another one -/
def Hd.turn (d : Hd) (i : Int) (x : Ob) (left : Int) : Hd := ⟨left, d.xs.set i.toNat x⟩
def Ob.resize (x : Ob) (n : Nat) : Ob := { x with items := if n < x.items.length then x.items.take n else x.items ++ List.replicate (n - x.items.length) Va.zero }
def Hd.resize (d : Hd) (i : Int) (x : Ob) (n : Nat) : Int × Hd := if d.left < (n : Int) - x.items.length then (112, d) else (0, d.turn i (x.resize n) (d.left - ((n : Int) - x.items.length)))
def Ob.item (x : Ob) (n : Nat) (v : Va) : Ob := { x with items := x.items.set n v }
def Ob.prop (x : Ob) (key : List UInt8) (v : Va) : Ob := { x with keys := if (x.props key).isSome then x.keys else x.keys ++ [key], props := upd x.props key (some v) }
/-- a number cut toward 0 -/
def wholeB (x : Nat) : Nat := if nanB x then 0 else FloatKind.f64.encode ((FloatKind.f64.decode x).integral .zero)
def ltB (x y : Nat) : Bool := FloatKind.f64.format.order x y == some Ordering.lt
def gtB (x y : Nat) : Bool := FloatKind.f64.format.order x y == some Ordering.gt
/-- the length that a value says -/
def lenOf (v : Va) : Option Nat := if v.kind = 3 ∧ eqB (wholeB v.num) v.num = true ∧ ltB v.num 0 = false ∧ gtB v.num 4746794007244308480 = false then some (((FloatKind.f64.decode v.num).toInt .zero).getD 0).toNat else none
def Hd.put (d : Hd) (i : Int) (key : List UInt8) (v : Va) : Int × Hd :=
  match d.obj i with
  | none => (3, d)
  | some x =>
    if v.right d.xs.length = false then (1, d)
    else if x.kind = 2 ∧ key = lenKey then
      match lenOf v with
      | none => (1, d)
      | some n => d.resize i x n
    else match (if x.kind = 2 then index key else none) with
      | some n =>
        if x.items.length ≤ n then
          (if d.left < (n : Int) + 1 - x.items.length then (112, d) else (0, d.turn i ((x.resize (n + 1)).item n v) (d.left - ((n : Int) + 1 - x.items.length))))
        else (0, d.turn i (x.item n v) d.left)
      | none =>
        if (x.props key).isSome = true then (0, d.turn i (x.prop key v) d.left)
        else if d.left < 1 then (112, d) else (0, d.turn i (x.prop key v) (d.left - 1))
theorem sum_set {x x' : Ob} : ∀ (xs : List Ob) (i : Nat), xs[i]? = some x → ((xs.set i x').map Ob.cost).sum + x.cost = (xs.map Ob.cost).sum + x'.cost
  | [], i, h => by simp at h
  | y :: r, 0, h => by
    obtain rfl : y = x := by simpa using h
    simp only [List.set_cons_zero, List.map_cons, List.sum_cons]
    omega
  | y :: r, i + 1, h => by
    have := sum_set (x' := x') r i (by simpa using h)
    simp only [List.set_cons_succ, List.map_cons, List.sum_cons]
    omega
theorem Hd.Ok.turn {G : Nat} {d : Hd} (h : d.Ok G) {i : Int} {x x' : Ob} {left : Int} (hx : d.obj i = some x) (hl : 0 ≤ left) (hc : left + x'.cost = d.left + x.cost) (hok : x'.Ok i.toNat) : (d.turn i x' left).Ok G := by
  obtain ⟨-, h6, h7, h8⟩ := Hd.obj_mem hx
  obtain ⟨h2, h3, h4, h5⟩ := h
  have := sum_set (x' := x') d.xs i.toNat h8
  refine ⟨hl, ?_, h4, fun j y hy => ?_⟩
  · simp only [Hd.taken, Hd.turn] at h3 ⊢
    omega
  · simp only [Hd.turn] at hy
    by_cases hj : j = i.toNat
    · subst hj
      rw [List.getElem?_set_self (by omega)] at hy
      cases hy
      exact hok
    · rw [List.getElem?_set_ne (fun e => hj e.symm)] at hy
      exact h5 j y hy
theorem Hd.Ok.at {G : Nat} {d : Hd} (h : d.Ok G) {i : Int} {x : Ob} (hx : d.obj i = some x) : x.Ok i.toNat := h.2.2.2 _ _ (Hd.obj_mem hx).2.2.2
theorem Hd.Ok.resize {G : Nat} {d : Hd} (h : d.Ok G) {i : Int} {x : Ob} (hx : d.obj i = some x) (n : Nat) : (d.resize i x n).2.Ok G := by
  unfold Hd.resize
  split
  · exact h
  · have hk := h.at hx
    refine h.turn hx (by omega) ?_ hk
    unfold Ob.resize Ob.cost
    split <;> simp <;> omega
theorem Ob.prop_ok {n : Nat} {x : Ob} (h : x.Ok n) (key : List UInt8) (v : Va) : (x.prop key v).Ok n := by
  obtain ⟨h1, h2, h3⟩ := h
  refine ⟨h1, ?_, fun k => ?_⟩
  · unfold Ob.prop
    simp only
    split
    · exact h2
    · next hn =>
      have : key ∉ x.keys := fun hm => hn ((h3 key).1 hm)
      rw [List.nodup_append]
      exact ⟨h2, by simp, fun a ha b hb e => this (by simp at hb; rw [← hb, ← e]; exact ha)⟩
  · unfold Ob.prop upd
    simp only
    by_cases hk : k = key
    · subst hk
      rw [if_pos rfl]
      split
      · next hs => simp [(h3 k).2 hs]
      · simp
    · rw [if_neg hk]
      split
      · exact h3 k
      · simp [hk, h3 k]
theorem Hd.Ok.put {G : Nat} {d : Hd} (h : d.Ok G) (i : Int) (key : List UInt8) (v : Va) : (d.put i key v).2.Ok G := by
  unfold Hd.put
  split
  · exact h
  · next x hx =>
    have hk := h.at hx
    have hb := h.bounds
    split
    · exact h
    · split
      · split
        · exact h
        · exact h.resize hx _
      · split
        · next n _ =>
          split
          · split
            · exact h
            · refine h.turn hx (by omega) ?_ hk
              unfold Ob.item Ob.resize Ob.cost
              simp only [List.length_set]
              split <;> simp <;> omega
          · refine h.turn hx hb.1 ?_ hk
            unfold Ob.item Ob.cost
            simp only [List.length_set]
        · split
          · next hs =>
            refine h.turn hx hb.1 ?_ (Ob.prop_ok hk _ _)
            unfold Ob.prop Ob.cost
            simp only [hs, if_true]
          · next hs =>
            split
            · exact h
            · refine h.turn hx (by omega) ?_ (Ob.prop_ok hk _ _)
              unfold Ob.prop Ob.cost
              simp only [hs]
              simp
              omega
end Go.Proofs.YtfophnmnehpenaaDoor
