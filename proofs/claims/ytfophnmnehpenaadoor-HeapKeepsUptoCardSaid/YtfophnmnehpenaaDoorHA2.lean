/- Layer 8: what a heap's calls do, as plain functions. Layer 8: (*Heap).Plain. Layer 8: slices.Clone of values. -/
import Derived.Test.YtfophnmnehpenaaDoorHA1
import Derived.Test.YtfophnmnehpenaaDoorHp1
namespace Go.Proofs.YtfophnmnehpenaaDoor
open Go Go.RowKit
set_option linter.all false
/-- a heap's content -/
structure Hd where
  left : Int
  xs : List Ob
def Hs.d (s : Hs) : Hd := ⟨s.left, s.xs⟩
def Hd.obj (d : Hd) (i : Int) : Option Ob := if i < 0 then none else d.xs[i.toNat]?
def Hd.add (d : Hd) (x : Ob) (c : Int) : (Int × Int) × Hd := if d.left < c then ((0, 112), d) else (((d.xs.length : Int), 0), ⟨d.left - c, d.xs ++ [x]⟩)
def Ob.fresh (kind proto a b scope : Int) (items : List Va) : Ob := ⟨kind, proto, a, b, scope, [], fun _ => none, items⟩
def Hd.plain (d : Hd) (p : Int) : (Int × Int) × Hd := if p ≠ -1 ∧ d.obj p = none then ((0, 3), d) else d.add (Ob.fresh 1 p 0 0 0 []) 1
def Ob.cost (x : Ob) : Nat := 1 + x.keys.length + x.items.length
def Hd.taken (d : Hd) : Nat := (d.xs.map Ob.cost).sum
/-- the object of number n is in order: its prototype is an earlier one; each key stands once, and has a value -/
def Ob.Ok (n : Nat) (x : Ob) : Prop := x.proto < n ∧ x.keys.Nodup ∧ ∀ k, k ∈ x.keys ↔ (x.props k).isSome = true
/-- cells are neither lost nor made; the objects are in order -/
def Hd.Ok (G : Nat) (d : Hd) : Prop := 0 ≤ d.left ∧ d.left + d.taken = G ∧ G ≤ 10000 ∧ ∀ (i : Nat) x, d.xs[i]? = some x → x.Ok i
theorem sum_ge (xs : List Ob) : xs.length ≤ (xs.map Ob.cost).sum := by
  induction xs with
  | nil => simp
  | cons x r ih => simp only [List.map_cons, List.sum_cons, List.length_cons, Ob.cost] at ih ⊢; omega
theorem sum_mem {xs : List Ob} {x : Ob} (h : x ∈ xs) : x.cost ≤ (xs.map Ob.cost).sum := by
  induction xs with
  | nil => cases h
  | cons y r ih =>
    rw [List.map_cons, List.sum_cons]
    rcases List.mem_cons.1 h with rfl | h
    · omega
    · have := ih h; omega
theorem Hd.Ok.bounds {G : Nat} {d : Hd} (h : d.Ok G) : 0 ≤ d.left ∧ d.left ≤ 10000 ∧ d.xs.length ≤ 10000 := by
  have h1 := sum_ge d.xs
  obtain ⟨h2, h3, h4, -⟩ := h
  unfold Hd.taken at h3
  omega
theorem Hd.Ok.mem {G : Nat} {d : Hd} (h : d.Ok G) {x : Ob} (hx : x ∈ d.xs) : x.keys.length ≤ 10000 ∧ x.items.length ≤ 10000 := by
  have h1 : 1 + x.keys.length + x.items.length ≤ (d.xs.map Ob.cost).sum := sum_mem hx
  obtain ⟨h2, h3, h4, -⟩ := h
  unfold Hd.taken at h3
  omega
theorem Hd.obj_mem {d : Hd} {i : Int} {x : Ob} (h : d.obj i = some x) : x ∈ d.xs ∧ 0 ≤ i ∧ i < d.xs.length ∧ d.xs[i.toNat]? = some x := by
  unfold Hd.obj at h
  split at h
  · cases h
  · have := (List.getElem?_eq_some_iff.1 h).1
    exact ⟨List.mem_of_getElem? h, by omega, by omega, h⟩
theorem Hd.Ok.add {G : Nat} {d : Hd} (h : d.Ok G) (x : Ob) (c : Int) (hc : c = x.cost) (hx : x.Ok d.xs.length) : (d.add x c).2.Ok G := by
  unfold Hd.add
  split
  · exact h
  · obtain ⟨h2, h3, h4, h5⟩ := h
    refine ⟨by simp only; omega, ?_, h4, ?_⟩
    · simp only [Hd.taken, List.map_append, List.map_cons, List.map_nil, List.sum_append, List.sum_cons, List.sum_nil] at h3 ⊢
      omega
    · intro i y hy
      simp only at hy
      by_cases hi : i < d.xs.length
      · rw [List.getElem?_append_left hi] at hy
        exact h5 i y hy
      · have hi' : i = d.xs.length := by
          have := (List.getElem?_eq_some_iff.1 hy).1
          simp at this
          omega
        subst hi'
        rw [List.getElem?_append_right (Nat.le_refl _)] at hy
        simp at hy
        subst hy
        exact hx
theorem Ob.fresh_ok (kind proto a b scope : Int) (items : List Va) (n : Nat) (h : proto < n) : (Ob.fresh kind proto a b scope items).Ok n := ⟨h, List.nodup_nil, by simp [Ob.fresh]⟩
theorem Hd.Ok.plain {G : Nat} {d : Hd} (h : d.Ok G) (p : Int) : (d.plain p).2.Ok G := by
  unfold Hd.plain
  split
  · exact h
  · next hp =>
    refine h.add _ _ rfl (Ob.fresh_ok _ _ _ _ _ _ _ ?_)
    by_cases h1 : p = -1
    · omega
    · obtain ⟨x, hx⟩ := Option.ne_none_iff_exists'.1 (fun e => hp ⟨h1, e⟩)
      exact (Hd.obj_mem hx).2.2.1
/-- the key of an array's length -/
def lenKey : List UInt8 := [0, 108, 0, 101, 0, 110, 0, 103, 0, 116, 0, 104]
/-- is a value right, of a heap of n objects? -/
def Va.right (n : Nat) (x : Va) : Bool :=
  if x.kind = 0 ∨ x.kind = 1 then sameB x.num 0 && (x.text == []) && decide (x.ref = 0)
  else if x.kind = 2 then (sameB x.num 0 || eqB x.num 4607182418800017408) && (x.text == []) && decide (x.ref = 0)
  else if x.kind = 3 then (x.text == []) && decide (x.ref = 0)
  else if x.kind = 4 then sameB x.num 0 && decide (x.ref = 0) && ((x.text.length : Int) % 2 == 0)
  else if x.kind = 5 ∨ x.kind = 6 then sameB x.num 0 && (x.text == []) && decide (0 ≤ x.ref) && (decide (x.kind = 6) || decide (x.ref < n))
  else false
/-- a value that a machine can hold -/
def Va.wf (x : Va) : Prop := x.num < 18446744073709551616 ∧ x.text.length ≤ 1000000000
/-- an own property -/
def Ob.own (x : Ob) (key : List UInt8) : Va × Bool :=
  if x.kind = 2 ∧ key = lenKey then (⟨3, floatOfInt .f64 x.items.length, [], 0⟩, true)
  else match (if x.kind = 2 then index key else none) with
    | some n => (x.items[n]?.getD Va.zero, decide (n < x.items.length))
    | none => ((x.props key).getD Va.zero, (x.props key).isSome)
def Hd.own (d : Hd) (i : Int) (key : List UInt8) : Va × Bool :=
  match d.obj i with
  | none => (Va.zero, false)
  | some x => x.own key
/-- the object at which a key is found; -1: none -/
def Hd.holder (d : Hd) (key : List UInt8) : Nat → Int → Int
  | 0, _ => -1
  | n + 1, i => match d.obj i with
    | none => -1
    | some x => if (x.own key).2 = true then i else d.holder key n x.proto
def Hd.get (d : Hd) (i : Int) (key : List UInt8) : Va × Bool := d.own (d.holder key (d.xs.length + 1) i) key
/-- the number of an object turned into another one -/
def Hd.turn (d : Hd) (i : Int) (x : Ob) (left : Int) : Hd := ⟨left, d.xs.set i.toNat x⟩
def Ob.resize (x : Ob) (n : Nat) : Ob := { x with items := if n < x.items.length then x.items.take n else x.items ++ List.replicate (n - x.items.length) Va.zero }
def Hd.resize (d : Hd) (i : Int) (x : Ob) (n : Nat) : Int × Hd := if d.left < (n : Int) - x.items.length then (112, d) else (0, d.turn i (x.resize n) (d.left - ((n : Int) - x.items.length)))
def Ob.item (x : Ob) (n : Nat) (v : Va) : Ob := { x with items := x.items.set n v }
def Ob.prop (x : Ob) (key : List UInt8) (v : Va) : Ob := { x with keys := if (x.props key).isSome then x.keys else x.keys ++ [key], props := upd x.props key (some v) }
/-- a number cut toward 0 -/
def wholeB (x : Nat) : Nat := if nanB x then 0 else FloatKind.f64.encode ((FloatKind.f64.decode x).integral .zero)
def ltB (x y : Nat) : Bool := FloatKind.f64.format.order x y == some Ordering.lt
def gtB (x y : Nat) : Bool := FloatKind.f64.format.order x y == some Ordering.gt
/-- the length that a value says -/
def lenOf (v : Va) : Option Nat := if v.kind = 3 ∧ eqB (wholeB v.num) v.num = true ∧ ltB v.num 0 = false ∧ gtB v.num 4746794007244308480 = false then some (((FloatKind.f64.decode v.num).toInt .zero).getD 0).toNat else none
def Hd.put (d : Hd) (i : Int) (key : List UInt8) (v : Va) : Int × Hd :=
  match d.obj i with
  | none => (3, d)
  | some x =>
    if v.right d.xs.length = false then (1, d)
    else if x.kind = 2 ∧ key = lenKey then
      match lenOf v with
      | none => (1, d)
      | some n => d.resize i x n
    else match (if x.kind = 2 then index key else none) with
      | some n =>
        if x.items.length ≤ n then
          (if d.left < (n : Int) + 1 - x.items.length then (112, d) else (0, d.turn i ((x.resize (n + 1)).item n v) (d.left - ((n : Int) + 1 - x.items.length))))
        else (0, d.turn i (x.item n v) d.left)
      | none =>
        if (x.props key).isSome = true then (0, d.turn i (x.prop key v) d.left)
        else if d.left < 1 then (112, d) else (0, d.turn i (x.prop key v) (d.left - 1))
theorem sum_set {x x' : Ob} : ∀ (xs : List Ob) (i : Nat), xs[i]? = some x → ((xs.set i x').map Ob.cost).sum + x.cost = (xs.map Ob.cost).sum + x'.cost
  | [], i, h => by simp at h
  | y :: r, 0, h => by
    obtain rfl : y = x := by simpa using h
    simp only [List.set_cons_zero, List.map_cons, List.sum_cons]
    omega
  | y :: r, i + 1, h => by
    have := sum_set (x' := x') r i (by simpa using h)
    simp only [List.set_cons_succ, List.map_cons, List.sum_cons]
    omega
theorem Hd.Ok.turn {G : Nat} {d : Hd} (h : d.Ok G) {i : Int} {x x' : Ob} {left : Int} (hx : d.obj i = some x) (hl : 0 ≤ left) (hc : left + x'.cost = d.left + x.cost) (hok : x'.Ok i.toNat) : (d.turn i x' left).Ok G := by
  obtain ⟨-, h6, h7, h8⟩ := Hd.obj_mem hx
  obtain ⟨h2, h3, h4, h5⟩ := h
  have := sum_set (x' := x') d.xs i.toNat h8
  refine ⟨hl, ?_, h4, fun j y hy => ?_⟩
  · simp only [Hd.taken, Hd.turn] at h3 ⊢
    omega
  · simp only [Hd.turn] at hy
    by_cases hj : j = i.toNat
    · subst hj
      rw [List.getElem?_set_self (by omega)] at hy
      cases hy
      exact hok
    · rw [List.getElem?_set_ne (fun e => hj e.symm)] at hy
      exact h5 j y hy
theorem Hd.Ok.at {G : Nat} {d : Hd} (h : d.Ok G) {i : Int} {x : Ob} (hx : d.obj i = some x) : x.Ok i.toNat := h.2.2.2 _ _ (Hd.obj_mem hx).2.2.2
theorem Hd.Ok.resize {G : Nat} {d : Hd} (h : d.Ok G) {i : Int} {x : Ob} (hx : d.obj i = some x) (n : Nat) : (d.resize i x n).2.Ok G := by
  unfold Hd.resize
  split
  · exact h
  · have hk := h.at hx
    refine h.turn hx (by omega) ?_ hk
    unfold Ob.resize Ob.cost
    split <;> simp <;> omega
theorem Ob.prop_ok {n : Nat} {x : Ob} (h : x.Ok n) (key : List UInt8) (v : Va) : (x.prop key v).Ok n := by
  obtain ⟨h1, h2, h3⟩ := h
  refine ⟨h1, ?_, fun k => ?_⟩
  · unfold Ob.prop
    simp only
    split
    · exact h2
    · next hn =>
      have : key ∉ x.keys := fun hm => hn ((h3 key).1 hm)
      rw [List.nodup_append]
      exact ⟨h2, by simp, fun a ha b hb e => this (by simp at hb; rw [← hb, ← e]; exact ha)⟩
  · unfold Ob.prop upd
    simp only
    by_cases hk : k = key
    · subst hk
      rw [if_pos rfl]
      split
      · next hs => simp [(h3 k).2 hs]
      · simp
    · rw [if_neg hk]
      split
      · exact h3 k
      · simp [hk, h3 k]
theorem Hd.Ok.put {G : Nat} {d : Hd} (h : d.Ok G) (i : Int) (key : List UInt8) (v : Va) : (d.put i key v).2.Ok G := by
  unfold Hd.put
  split
  · exact h
  · next x hx =>
    have hk := h.at hx
    have hb := h.bounds
    split
    · exact h
    · split
      · split
        · exact h
        · exact h.resize hx _
      · split
        · next n _ =>
          split
          · split
            · exact h
            · refine h.turn hx (by omega) ?_ hk
              unfold Ob.item Ob.resize Ob.cost
              simp only [List.length_set]
              split <;> simp <;> omega
          · refine h.turn hx hb.1 ?_ hk
            unfold Ob.item Ob.cost
            simp only [List.length_set]
        · split
          · next hs =>
            refine h.turn hx hb.1 ?_ (Ob.prop_ok hk _ _)
            unfold Ob.prop Ob.cost
            simp only [hs, if_true]
          · next hs =>
            split
            · exact h
            · refine h.turn hx (by omega) ?_ (Ob.prop_ok hk _ _)
              unfold Ob.prop Ob.cost
              simp only [hs]
              simp
              omega
end Go.Proofs.YtfophnmnehpenaaDoor
namespace Go.Proofs.YtfophnmnehpenaaDoor
open Go Go.RowKit
set_option linter.all false
theorem at_none {w : World} {s : Hs} (h : HpAt w s) (i : Int) : s.at i = none ↔ s.d.obj i = none := by
  unfold Hs.at Hd.obj Hs.d
  by_cases h1 : i < 0
  · simp [h1]
  · by_cases h2 : (s.ps.length : Int) ≤ i
    · have : s.xs.length ≤ i.toNat := by rw [h.len]; omega
      simp [h1, h2, List.getElem?_eq_none this]
    · have h3 : i.toNat < s.ps.length := by omega
      have h4 : i.toNat < s.xs.length := by rw [h.len]; exact h3
      simp [h1, h2, List.getElem?_eq_getElem h3, List.getElem?_eq_getElem h4]
/-- a call that turns nothing old -/
theorem Step.pur {w w' : World} {s : Hs} (h : Pur w w') : Step w s w' s :=
  ⟨⟨h.os, h.tape, h.output, h.size, fun k hk _ => h.block k hk⟩, rfl, fun _ hb => .inl hb⟩
/-- add, behind a new object -/
theorem add_new (s : Hs) (x : Ob) (kv iv mv : Value) (c : Int) (w w1 : World) (o : Nat) (hp : Pur w w1) (hlo : w.heap.size ≤ o) (h : HpAt w s)
    (ho : w1.heap[o]? = some (.cells #[.int .i64 x.kind, .int .i64 x.proto, .int .i64 x.a, .int .i64 x.b, .int .i64 x.scope, kv, mv, iv] 78 (0, 0)))
    (hk : x.keys = []) (hkv : kv = .slice none 0 0) (hpp : x.props = fun _ => none)
    (hiv : w1.ownsRow w.heap.size 33 4 iv x.items.length (x.items.flatMap Va.cells)) (hiv1 : iv.ownBlock ≠ some o) (hc : 0 ≤ c) {G : Nat} (hok : s.d.Ok G) :
    Calls Tryd.prog 38 #[.pointer (some ⟨s.h, 0, none⟩), .pointer (some ⟨o, 0, none⟩), .int .i64 c] w1 fun e w' =>
      e = .returned (.tuple #[.int .i64 (s.d.add x c).1.1, .int .i64 (s.d.add x c).1.2]) ∧ ∃ s', HpAt w' s' ∧ Step w s w' s' ∧ s'.d = (s.d.add x c).2 := by
  have hb := hok.bounds
  have hl := h.len
  simp only [Hs.d] at hb
  have hos : ∀ b, w.heap.size ≤ b → b ∉ s.blocks := fun b hb hm => by have := h.lt b hm; omega
  have hiv0 : w1.ownsRow 0 33 4 iv x.items.length (x.items.flatMap Va.cells) := by
    refine ⟨hiv.1, ?_⟩
    rcases hiv.2 with h2 | ⟨g, cap, cur, rfl, h1, h2, h3⟩
    · exact .inl h2
    · exact .inr ⟨g, cap, cur, rfl, Nat.zero_le _, h2, h3⟩
  refine (add_any s o x kv iv mv c w1 (h.pur hp) ho (hos o hlo) hk hkv hpp hiv0 hiv1 (fun b hb => hos b (hiv.lt b hb).1) hc hb.1 hb.2.1 (by omega)).mono ?_
  rintro e w' (⟨h1, rfl, rfl⟩ | ⟨h1, rfl, v', h2, h3, h4⟩)
  · have e1 : s.d.add x c = ((0, 112), s.d) := by unfold Hd.add; rw [if_pos (by simpa [Hs.d] using h1)]
    rw [e1]
    exact ⟨rfl, s, h.pur hp, Step.pur hp, rfl⟩
  · have e1 : s.d.add x c = (((s.xs.length : Int), 0), ⟨s.left - c, s.xs ++ [x]⟩) := by unfold Hd.add; rw [if_neg (by simp only [Hs.d]; omega)]; rfl
    rw [e1]
    refine ⟨by rw [hl], _, h2, ⟨⟨h3.os.trans hp.os, h3.tape.trans hp.tape, h3.output.trans hp.output, Nat.le_trans hp.size h3.size, fun k hk hn => ?_⟩, rfl, fun b hb => ?_⟩, rfl⟩
    · refine (h3.block k (Nat.lt_of_lt_of_le hk hp.size) ?_).trans (hp.block k hk)
      simp only [List.mem_cons, not_or]
      exact ⟨by omega, hn⟩
    · have hsz := hp.size
      unfold Hs.blocks at hb
      simp only [Hs.push, List.flatMap_append, List.flatMap_cons, List.flatMap_nil, List.append_nil] at hb
      rcases List.mem_cons.1 hb with rfl | hb
      · exact .inl (by simp [Hs.blocks])
      rcases List.mem_append.1 hb with hb | hb
      · rcases h4 with e | e
        · rw [e] at hb; exact .inl (by unfold Hs.blocks; exact List.mem_cons_of_mem _ (List.mem_append_left _ hb))
        · rw [e] at hb; simp at hb; exact .inr (by omega)
      rcases List.mem_append.1 hb with hb | hb
      · exact .inl (by unfold Hs.blocks; exact List.mem_cons_of_mem _ (List.mem_append_right _ hb))
      · unfold Pl.blocks at hb
        rcases List.mem_cons.1 hb with rfl | hb
        · exact .inr hlo
        rcases List.mem_cons.1 hb with rfl | hb
        · exact .inr hsz
        rw [hkv] at hb
        have hb' : iv.ownBlock = some b := by simpa [show (Value.slice none 0 0).ownBlock = none from rfl] using hb
        exact .inr (hiv.lt b hb').1
set_option maxRecDepth 100000 in
set_option maxHeartbeats 2000000 in
theorem plain_any (s : Hs) (p : Int) (w : World) (h : HpAt w s) {G : Nat} (hok : s.d.Ok G) :
    Calls Tryd.prog 21 #[.pointer (some ⟨s.h, 0, none⟩), .int .i64 p] w fun e w' =>
      e = .returned (.tuple #[.int .i64 (s.d.plain p).1.1, .int .i64 (s.d.plain p).1.2]) ∧ ∃ s', HpAt w' s' ∧ Step w s w' s' ∧ s'.d = (s.d.plain p).2 := by
  have AT := at_any s p w h
  have AD := add_new s (Ob.fresh 1 p 0 0 0 []) (.slice none 0 0) (.slice none 0 0) (.map none) 1 w (w.alloc (.cells #[.int .i64 1, .int .i64 p, .int .i64 0, .int .i64 0, .int .i64 0, .slice none 0 0, .map none, .slice none 0 0] 78)) w.heap.size ((Pur.refl w).alloc _) (Nat.le_refl _) h (bk_new _ _) rfl rfl rfl (World.ownsRow_nil _ _ _ _) (by simp [Value.ownBlock]) (by decide) hok
  have hat := at_none h p
  unfold Hd.plain
  by_cases h1 : p = -1
  · subst h1
    rw [if_neg (fun hc => hc.1 rfl)]
    generalize s.d.add _ _ = R at *
    clear h hat hok
    go_enter Tryd.func21, Tryd.ntmps21
    go_wp2_with fail
    refine AD.mono ?_
    rintro e w' ⟨rfl, hw⟩
    go_wp2
    go_ret2
    exact ⟨rfl, hw⟩
  · by_cases h2 : s.d.obj p = none
    · rw [if_pos ⟨h1, h2⟩]
      rw [hat.2 h2] at AT
      have hfin : ∃ s', HpAt w s' ∧ Step w s w s' ∧ s'.d = s.d := ⟨s, h, Step.refl w s, rfl⟩
      clear h hat hok AD
      go_enter Tryd.func21, Tryd.ntmps21
      go_wp2_with fail
      refine AT.mono ?_
      rintro e w' ⟨rfl, rfl⟩
      go_wp2
      go_ret2
      exact ⟨rfl, hfin⟩
    · rw [if_neg (fun hc => h2 hc.2)]
      obtain ⟨ad, had⟩ : ∃ ad, s.at p = some ad := Option.ne_none_iff_exists'.1 (fun e => h2 (hat.1 e))
      rw [had] at AT
      generalize s.d.add _ _ = R at *
      clear h hat hok
      go_enter Tryd.func21, Tryd.ntmps21
      go_wp2_with fail
      refine AT.mono ?_
      rintro e w' ⟨rfl, rfl⟩
      go_wp2_with fail
      refine AD.mono ?_
      rintro e w' ⟨rfl, hw⟩
      go_wp2
      go_ret2
      exact ⟨rfl, hw⟩
end Go.Proofs.YtfophnmnehpenaaDoor
namespace Go.Proofs.YtfophnmnehpenaaDoor
open Go Go.RowKit
set_option linter.all false
@[go_sem] theorem run_store_flt {P : Program} (w : World) (a : Addr) (m : Mode) (k : FloatKind) (x : Nat) : (store a (.float k x) m).run P w = stored P w a (.float k x) m := run_store P w a _ m rfl
/-- a slice reads as a list of values -/
def VRead (w : World) (v : Value) (vs : List Va) : Prop :=
  (v = .slice none 0 0 ∧ vs = []) ∨ ∃ b o c, v = .slice (some ⟨b, o, none⟩) vs.length c ∧ b < w.heap.size ∧ ∀ (j : Nat) u, (vs.flatMap Va.cells)[j]? = some u → w.cell? ⟨b, o + j, none⟩ = some u
theorem VRead.same {w w' : World} {v : Value} {vs : List Va} (h : VRead w v vs) (hs : w.heap.size ≤ w'.heap.size) (e : ∀ b, v.ownBlock = some b → w'.heap[b]? = w.heap[b]?) : VRead w' v vs := by
  rcases h with h | ⟨b, o, c, rfl, hb, hc⟩
  · exact .inl h
  · refine .inr ⟨b, o, c, rfl, Nat.lt_of_lt_of_le hb hs, fun j u hu => ?_⟩
    rw [← hc j u hu]
    exact World.cell?_of_block (e b rfl)
theorem VRead.pur {w w' : World} {v : Value} {vs : List Va} (h : VRead w v vs) (hp : Pur w w') : VRead w' v vs := by
  refine h.same hp.size fun b hb => hp.block b ?_
  rcases h with ⟨rfl, -⟩ | ⟨b', o, c, rfl, hb', -⟩
  · simp [Value.ownBlock] at hb
  · simp [Value.ownBlock] at hb; omega
theorem VRead.of_own {w : World} {B : Nat} {e : TypeId} {v : Value} {vs : List Va} (h : w.ownsRow B e 4 v vs.length (vs.flatMap Va.cells)) : VRead w v vs := by
  rcases h.2 with ⟨rfl, h0⟩ | ⟨g, cap, cur, rfl, hb, hg, _⟩
  · exact .inl ⟨rfl, List.length_eq_zero_iff.1 h0⟩
  · refine .inr ⟨g, 0, cap, rfl, (Array.getElem?_eq_some_iff.1 hg).1, fun j u hu => ?_⟩
    have := h.cells (g := g) rfl j u hu
    rw [← this, Nat.zero_add]
    unfold Addr.add
    split <;> simp_all
theorem va_len (vs : List Va) : (vs.flatMap Va.cells).length = vs.length * 4 := by
  induction vs with
  | nil => rfl
  | cons x r ih => rw [List.flatMap_cons, List.length_append, ih, List.length_cons]; simp [Va.cells]; omega
theorem va_at : ∀ (vs : List Va) (j : Nat) (x : Va), vs[j]? = some x → ∀ (i : Nat) u, x.cells[i]? = some u → (vs.flatMap Va.cells)[j * 4 + i]? = some u
  | [], j, x, h, i, u, hu => by simp at h
  | g :: vs, 0, x, h, i, u, hu => by
    obtain rfl : g = x := by simpa using h
    have hi := (List.getElem?_eq_some_iff.1 hu).1
    rw [List.flatMap_cons, Nat.zero_mul, Nat.zero_add, List.getElem?_append_left hi, hu]
  | g :: vs, j + 1, x, h, i, u, hu => by
    have := va_at vs j x (by simpa using h) i u hu
    have hl : g.cells.length = 4 := rfl
    rw [List.flatMap_cons, List.getElem?_append_right (by rw [hl, Nat.succ_mul]; omega), hl]
    rw [show (j + 1) * 4 + i - 4 = j * 4 + i by rw [Nat.succ_mul]; omega]
    exact this
theorem row_low {w : World} {B B' : Nat} {e : TypeId} {k : Nat} {v : Value} {n : Nat} {xs : List Value} (h : w.ownsRow B e k v n xs) (hB : B' ≤ B) : w.ownsRow B' e k v n xs := by
  refine ⟨h.1, ?_⟩
  rcases h.2 with h2 | ⟨g, cap, cur, rfl, h1, h2⟩
  · exact .inl h2
  · exact .inr ⟨g, cap, cur, rfl, Nat.le_trans hB h1, h2⟩
theorem va_one {vs : List Va} {u : Value} (h : u ∈ vs.flatMap Va.cells) : u.oneCell' = true := by
  obtain ⟨x, -, hx⟩ := List.mem_flatMap.1 h
  simp [Va.cells] at hx
  rcases hx with rfl | rfl | rfl | rfl <;> rfl
theorem va_info : (Tryd.prog.info? 33).map (fun i => (i.zero.map (·.cells.size), i.size, i.bytes)) = some (some 4, 4, 40) := by kernel_rfl
set_option maxRecDepth 100000 in
theorem clone_any (v : Value) (vs : List Va) (w : World) (h : VRead w v vs) (hn : vs.length ≤ 1000000) :
    Calls Tryd.prog 39 #[v] w fun e w' => ∃ v', e = .returned v' ∧ Pur w w' ∧ w'.ownsRow w.heap.size 33 4 v' vs.length (vs.flatMap Va.cells) := by
  obtain ⟨i0, hi, hz⟩ := Option.map_eq_some_iff.1 va_info
  simp only [Prod.mk.injEq] at hz
  obtain ⟨hz0, hz1, hz2⟩ := hz
  obtain ⟨z0, hz0, hzs⟩ := Option.map_eq_some_iff.1 hz0
  rcases h with ⟨rfl, rfl⟩ | ⟨b, o, c, rfl, hb, hc⟩
  · have he : ∀ w : World, (binOp .eql 30 (.slice none 0 0) (.slice none 0 0)).run Tryd.prog w = .ok (.bool true) w := fun _ => rfl
    go_enter Tryd.func39, Tryd.ntmps39
    go_wp2_with fail
    go_ret
    exact ⟨_, rfl, Pur.refl _, World.ownsRow_nil _ _ _ _⟩
  · have hc' : ∀ (j : Nat) u, (vs.flatMap Va.cells)[j]? = some u → (w.alloc (.cells #[] 33)).cell? ((⟨b, o, none⟩ : Addr).add j) = some u := fun j u hu => by
      have e : (⟨b, o, none⟩ : Addr).add j = ⟨b, o + j, none⟩ := by unfold Addr.add; split <;> simp_all
      rw [e]
      exact (((Pur.refl w).alloc _).cell (p := ⟨b, o + j, none⟩) hb).trans (hc j u hu)
    have hm := World.ownsRow_made (base := w.heap.size) (e := 33) (size := 4) w #[] 0 (Nat.le_refl _) (by decide) rfl
    have hlen := va_len vs
    have hsz := ((Pur.refl w).alloc (.cells #[] 33)).size
    have hn1 : 0 + vs.length ≤ maxLen := by unfold maxLen; omega
    have hn2 : (0 + vs.length) * 40 ≤ 140737488355328 := by omega
    have he : ∀ w : World, (binOp .eql 30 (.slice (some ⟨b, o, none⟩) vs.length c) (.slice none 0 0)).run Tryd.prog w = .ok (.bool false) w := fun _ => rfl
    go_enter Tryd.func39, Tryd.ntmps39
    go_wp2_with (at_builtin; refine wpList_append_own_at _ rfl _ _ 30 rfl w.heap.size 33 i0 z0 4 40 Tryd.underlying30 hi hz0 hz1 hz2 hzs (by decide) _ _ _ rfl hm ⟨b, o, none⟩ vs.length c (vs.flatMap Va.cells) rfl hlen hc' (fun u hu => va_one hu) hn1 hn2 hsz ?_)
    intro v5 w5 hown5 hgrow _ hid
    have hp : Pur w w5 := ((Pur.refl w).alloc (.cells #[] 33)).grown hgrow hsz (fun k hk => (hm.lt k hk).1)
    clear hm hc hc' hgrow hid
    go_wp2
    go_ret
    exact ⟨_, rfl, hp, hown5⟩
end Go.Proofs.YtfophnmnehpenaaDoor
