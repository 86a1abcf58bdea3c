/- The document's heap, for its shape alone: where it lies. Layer 9: a heap of the program and one of the document's, side by side; what a row of steps is. The document's heap, for its shape alone: New, Add, Plain, Function. The document's heap, for its shape alone: Resize by one, Put behind an array's last item. The document's heap, for its shape alone: Resize by one: the walk. -/
import Derived.Test.YtapgibcdbggpkaaGreatDoorHaD
import Derived.Test.YtapgibcdbggpkaaGreatDoorTbE
import Derived.Deep.AppendLies
import Derived.Test.YtapgibcdbggpkaaGreatDoorApX
namespace Go.Proofs.YtapgibcdbggpkaaGreatDoor
open Go Go.RowKit
set_option linter.all false
namespace Cv
/-- an object of the document's -/
structure RO where
  kind : Int
  proto : Int
  a : Int
  b : Int
  scope : Int
  iv : Value
  vs : List Va
def RO.cells (o : RO) : List Value := [.int .i64 o.kind, .int .i64 o.proto, .int .i64 o.a, .int .i64 o.b, .int .i64 o.scope, .slice none 0 0, o.iv]
def RO.bl (o : RO) : List Nat := o.iv.ownBlock.toList
/-- a heap of the document's -/
structure Rf where
  g : Nat
  ov : Value
  left : Int
  os : List RO
def Rf.blocks (r : Rf) : List Nat := r.g :: (r.ov.ownBlock.toList ++ r.os.flatMap RO.bl)
structure RfAt (w : World) (r : Rf) : Prop where
  own : w.heap[r.g]? = some (.cells #[r.ov, .int .i64 r.left] 72 (0, 0))
  row : w.ownsRow 0 69 7 r.ov r.os.length (r.os.flatMap RO.cells)
  each : ∀ (i : Nat) o, r.os[i]? = some o → w.ownsRow 0 25 4 o.iv o.vs.length (o.vs.flatMap Va.cells)
  apart : r.blocks.Nodup
  lo : 0 ≤ r.left
  n : r.os.length + r.left ≤ 2000
  room : ∀ (i : Nat) o, r.os[i]? = some o → o.vs.length + r.left ≤ 2000
structure RStep (w : World) (r : Rf) (w' : World) (r' : Rf) : Prop where
  chg : Chg r.blocks w w'
  g : r'.g = r.g
  new : ∀ b ∈ r'.blocks, b ∈ r.blocks ∨ w.heap.size ≤ b
theorem RStep.pur {w w' : World} {r : Rf} (h : Pur w w') : RStep w r w' r := ⟨.of_pur h, rfl, fun _ h => .inl h⟩
theorem RStep.trans {w w1 w2 : World} {s s1 s2 : Rf} (h : RStep w s w1 s1) (k : RStep w1 s1 w2 s2) : RStep w s w2 s2 :=
  ⟨h.chg.next k.chg h.new, k.g.trans h.g, fun b hb => (k.new b hb).elim (h.new b) (fun hm => .inr (Nat.le_trans h.chg.size hm))⟩
theorem bl_mem {r : Rf} {i : Nat} {o : RO} (ho : r.os[i]? = some o) {b : Nat} (hb : o.iv.ownBlock = some b) : b ∈ r.blocks :=
  List.mem_cons_of_mem _ (List.mem_append_right _ (List.mem_flatMap.2 ⟨o, List.mem_of_getElem? ho, by simp [RO.bl, hb]⟩))
theorem ov_mem {r : Rf} {b : Nat} (hb : r.ov.ownBlock = some b) : b ∈ r.blocks := List.mem_cons_of_mem _ (List.mem_append_left _ (by simp [hb]))
theorem RfAt.same {w w' : World} {r : Rf} (h : RfAt w r) (e : ∀ b ∈ r.blocks, w'.heap[b]? = w.heap[b]?) : RfAt w' r :=
  ⟨(e r.g (by simp [Rf.blocks])).trans h.own, row_same h.row (fun g hg => e g (ov_mem hg)), fun i o ho => row_same (h.each i o ho) (fun g hg => e g (bl_mem ho hg)), h.apart, h.lo, h.n, h.room⟩
theorem RfAt.lt {w : World} {r : Rf} (h : RfAt w r) : ∀ b ∈ r.blocks, b < w.heap.size := by
  intro b hb
  unfold Rf.blocks at hb
  rcases List.mem_cons.1 hb with rfl | hb
  · exact bk_lt h.own
  rcases List.mem_append.1 hb with hb | hb
  · exact (h.row.lt b (by simpa using hb)).2
  · obtain ⟨o, ho, hb⟩ := List.mem_flatMap.1 hb
    obtain ⟨i, hi⟩ := List.mem_iff_getElem?.1 ho
    exact ((h.each i o hi).lt b (by simpa [RO.bl] using hb)).2
theorem RfAt.pur {w w' : World} {r : Rf} (h : RfAt w r) (hp : Pur w w') : RfAt w' r := h.same fun b hb => hp.block b (h.lt b hb)
theorem RfAt.kept {w w' : World} {r : Rf} {S : List Nat} (h : RfAt w r) (hc : Chg S w w') (hd : ∀ b ∈ r.blocks, b ∉ S) : RfAt w' r := h.same fun b hb => hc.block b (h.lt b hb) (hd b hb)
theorem flat_apart {α : Type} {f : α → List Nat} : ∀ (l : List α) (i j : Nat) (a b : α) (x : Nat), (l.flatMap f).Nodup → l[i]? = some a → l[j]? = some b → i ≠ j → x ∈ f a → x ∈ f b → False
  | [], i, j, a, b, x, _, hi, _, _, _, _ => by simp at hi
  | c :: l, i, j, a, b, x, hn, hi, hj, hij, ha, hb => by
    rw [List.flatMap_cons, List.nodup_append] at hn
    obtain ⟨n1, n2, n3⟩ := hn
    cases i with
    | zero =>
      obtain rfl : c = a := by simpa using hi
      cases j with
      | zero => exact hij rfl
      | succ j => exact n3 x ha x (List.mem_flatMap.2 ⟨b, List.mem_of_getElem? (by simpa using hj), hb⟩) rfl
    | succ i =>
      cases j with
      | zero =>
        obtain rfl : c = b := by simpa using hj
        exact n3 x hb x (List.mem_flatMap.2 ⟨a, List.mem_of_getElem? (by simpa using hi), ha⟩) rfl
      | succ j => exact flat_apart l i j a b x n2 (by simpa using hi) (by simpa using hj) (fun e => hij (by rw [e])) ha hb
/-- one object turned -/
theorem RfAt.turn {w w' : World} {r : Rf} (h : RfAt w r) {i : Nat} {o o' : RO} (ho : r.os[i]? = some o) {left' : Int}
    (hc : Chg (r.g :: (r.ov.ownBlock.toList ++ o.bl)) w w')
    (hown : w'.heap[r.g]? = some (.cells #[r.ov, .int .i64 left'] 72 (0, 0)))
    (hrow : w'.ownsRow 0 69 7 r.ov r.os.length ((r.os.set i o').flatMap RO.cells))
    (hit : w'.ownsRow 0 25 4 o'.iv o'.vs.length (o'.vs.flatMap Va.cells))
    (hid : ∀ b, o'.iv.ownBlock = some b → o.iv.ownBlock = some b ∨ w.heap.size ≤ b) (hlo : 0 ≤ left') (hle : left' ≤ r.left) (hroom : o'.vs.length + left' ≤ 2000) :
    RfAt w' ⟨r.g, r.ov, left', r.os.set i o'⟩ ∧ RStep w r w' ⟨r.g, r.ov, left', r.os.set i o'⟩ := by
  have hap := h.apart
  have hlt := h.lt
  have hl := (List.getElem?_eq_some_iff.1 ho).1
  unfold Rf.blocks at hap
  rw [List.nodup_cons, List.nodup_append] at hap
  obtain ⟨a1, a2, a3, a4⟩ := hap
  have hnew : ∀ b ∈ (Rf.mk r.g r.ov left' (r.os.set i o')).blocks, b ∈ r.blocks ∨ w.heap.size ≤ b := by
    intro b hb
    unfold Rf.blocks at hb
    rcases List.mem_cons.1 hb with rfl | hb
    · exact .inl (by simp [Rf.blocks])
    rcases List.mem_append.1 hb with hb | hb
    · exact .inl (ov_mem (by simpa using hb))
    · obtain ⟨x, hx, hb⟩ := List.mem_flatMap.1 hb
      obtain ⟨j, hj⟩ := List.mem_iff_getElem?.1 hx
      have hb' : x.iv.ownBlock = some b := by simpa [RO.bl] using hb
      by_cases hij : i = j
      · subst hij
        rw [List.getElem?_set_self hl] at hj
        cases hj
        rcases hid b hb' with e | e
        · exact .inl (bl_mem ho e)
        · exact .inr e
      · rw [List.getElem?_set_ne hij] at hj
        exact .inl (bl_mem hj hb')
  refine ⟨⟨hown, by rw [List.length_set]; exact hrow, fun j x hj => ?_, ?_, hlo, by rw [List.length_set]; have := h.n; simp only; omega, fun j x hj => ?_⟩, ⟨hc.mono fun b hb => .inl ?_, rfl, hnew⟩⟩
  · simp only at hj
    by_cases hij : i = j
    · subst hij
      rw [List.getElem?_set_self hl] at hj
      cases hj
      exact hit
    · rw [List.getElem?_set_ne hij] at hj
      refine row_chg (h.each j x hj) hc fun g hg hm => ?_
      have hm' : g ∈ r.os.flatMap RO.bl := List.mem_flatMap.2 ⟨x, List.mem_of_getElem? hj, by simp [RO.bl, hg]⟩
      rcases List.mem_cons.1 hm with rfl | hm
      · exact a1 (List.mem_append_right _ hm')
      rcases List.mem_append.1 hm with hm | hm
      · exact a4 g hm g hm' rfl
      · exact flat_apart r.os i j o x g a3 ho hj hij hm (by simp [RO.bl, hg])
  · obtain ⟨A, B, hA, hB⟩ := set_split r.os i o o' ho
    have e2 : (Rf.mk r.g r.ov left' (r.os.set i o')).blocks = (r.g :: r.ov.ownBlock.toList) ++ (A.flatMap RO.bl ++ (o'.bl ++ B.flatMap RO.bl)) := by
      unfold Rf.blocks; simp only; rw [hB]; simp
    have e1 : r.blocks = (r.g :: r.ov.ownBlock.toList) ++ (A.flatMap RO.bl ++ (o.bl ++ B.flatMap RO.bl)) := by
      unfold Rf.blocks; rw [hA]; simp
    have hap := h.apart
    rw [e1] at hap
    rw [e2]
    refine nodup_turn hap (by unfold RO.bl; cases o'.iv.ownBlock <;> simp) fun b hb => ?_
    have hb' : o'.iv.ownBlock = some b := by simpa [RO.bl] using hb
    rcases hid b hb' with e | e
    · exact .inl (by simp [RO.bl, e])
    · exact .inr (by rw [← e1]; exact fun hm => by have := hlt b hm; omega)
  · simp only at hj
    by_cases hij : i = j
    · subst hij
      rw [List.getElem?_set_self hl] at hj
      cases hj
      exact hroom
    · rw [List.getElem?_set_ne hij] at hj
      have := h.room j x hj
      simp only
      omega
  · rcases List.mem_cons.1 hb with rfl | hb
    · simp [Rf.blocks]
    rcases List.mem_append.1 hb with hb | hb
    · exact ov_mem (by simpa using hb)
    · exact bl_mem ho (by simpa [RO.bl] using hb)
/-- one object more -/
theorem RfAt.push {w w' : World} {r : Rf} (h : RfAt w r) {ov' : Value} {c : Int} {o : RO}
    (hc : Chg (r.g :: r.ov.ownBlock.toList) w w')
    (hown : w'.heap[r.g]? = some (.cells #[ov', .int .i64 (r.left - c)] 72 (0, 0)))
    (hrow : w'.ownsRow 0 69 7 ov' (r.os.length + 1) (r.os.flatMap RO.cells ++ o.cells))
    (hv : ov'.ownBlock = r.ov.ownBlock ∨ ∃ k, ov'.ownBlock = some k ∧ w.heap.size ≤ k)
    (hit : w.ownsRow 0 25 4 o.iv o.vs.length (o.vs.flatMap Va.cells)) (hid : ∀ b, o.iv.ownBlock = some b → b ∉ r.blocks)
    (hc1 : 1 ≤ c) (hc2 : c ≤ r.left) (hroom : o.vs.length + 1 ≤ c) :
    RfAt w' ⟨r.g, ov', r.left - c, r.os ++ [o]⟩ ∧ ∀ b ∈ (Rf.mk r.g ov' (r.left - c) (r.os ++ [o])).blocks, b ∈ r.blocks ∨ o.iv.ownBlock = some b ∨ w.heap.size ≤ b := by
  have hap := h.apart
  have hlt := h.lt
  have hn := h.n
  unfold Rf.blocks at hap
  rw [List.nodup_cons, List.nodup_append] at hap
  obtain ⟨a1, a2, a3, a4⟩ := hap
  have hil : ∀ b, o.iv.ownBlock = some b → b < w.heap.size := fun b hb => (hit.lt b hb).2
  refine ⟨⟨hown, ?_, fun j x hj => ?_, ?_, by simp only; omega, by simp only [List.length_append, List.length_singleton]; omega, fun j x hj => ?_⟩, fun b hb => ?_⟩
  · simp only [List.length_append, List.length_singleton, List.flatMap_append, List.flatMap_cons, List.flatMap_nil, List.append_nil]
    exact hrow
  · simp only at hj
    by_cases hjl : j < r.os.length
    · rw [List.getElem?_append_left hjl] at hj
      refine row_chg (h.each j x hj) hc fun g hg hm => ?_
      have hm' : g ∈ r.os.flatMap RO.bl := List.mem_flatMap.2 ⟨x, List.mem_of_getElem? hj, by simp [RO.bl, hg]⟩
      rcases List.mem_cons.1 hm with rfl | hm
      · exact a1 (List.mem_append_right _ hm')
      · exact a4 g hm g hm' rfl
    · rw [List.getElem?_append_right (by omega)] at hj
      obtain ⟨hj0, rfl⟩ : j - r.os.length = 0 ∧ o = x := by
        cases hk : j - r.os.length with
        | zero => rw [hk] at hj; exact ⟨rfl, by simpa using hj⟩
        | succ k => rw [hk] at hj; simp at hj
      refine row_chg hit hc fun g hg hm => hid g hg ?_
      rcases List.mem_cons.1 hm with rfl | hm
      · simp [Rf.blocks]
      · exact ov_mem (by simpa using hm)
  · unfold Rf.blocks
    simp only [List.flatMap_append, List.flatMap_cons, List.flatMap_nil, List.append_nil]
    have hap := h.apart
    unfold Rf.blocks at hap
    refine nodup_push hap (by unfold RO.bl; cases o.iv.ownBlock <;> simp) (fun b hb => hid b (by simpa [RO.bl] using hb)) ?_
    rcases hv with e | ⟨k, e, hk⟩
    · exact .inl (by rw [e])
    · refine .inr ⟨k, by rw [e]; rfl, fun hm => ?_, fun hm => ?_⟩
      · have := hlt k hm; omega
      · have := hil k (by simpa [RO.bl] using hm); omega
  · simp only at hj
    by_cases hjl : j < r.os.length
    · rw [List.getElem?_append_left hjl] at hj
      have := h.room j x hj
      simp only
      omega
    · rw [List.getElem?_append_right (by omega)] at hj
      obtain ⟨hj0, rfl⟩ : j - r.os.length = 0 ∧ o = x := by
        cases hk : j - r.os.length with
        | zero => rw [hk] at hj; exact ⟨rfl, by simpa using hj⟩
        | succ k => rw [hk] at hj; simp at hj
      simp only
      omega
  · unfold Rf.blocks at hb
    simp only [List.flatMap_append, List.flatMap_cons, List.flatMap_nil, List.append_nil] at hb
    rcases List.mem_cons.1 hb with rfl | hb
    · exact .inl (by simp [Rf.blocks])
    rcases List.mem_append.1 hb with hb | hb
    · rcases hv with e | ⟨k, e, hk⟩
      · exact .inl (ov_mem (by rw [← e]; simpa using hb))
      · rw [e] at hb
        obtain rfl : b = k := by simpa using hb
        exact .inr (.inr hk)
    rcases List.mem_append.1 hb with hb | hb
    · exact .inl (List.mem_cons_of_mem _ (List.mem_append_right _ hb))
    · exact .inr (.inl (by simpa [RO.bl] using hb))
theorem ro_at : ∀ (os : List RO) (i : Nat) (o : RO), os[i]? = some o → ∀ (k : Nat) u, o.cells[k]? = some u → (os.flatMap RO.cells)[i * 7 + k]? = some u
  | [], i, o, h, k, u, hu => by simp at h
  | x :: r, 0, o, h, k, u, hu => by
    obtain rfl : x = o := by simpa using h
    have hk := (List.getElem?_eq_some_iff.1 hu).1
    rw [List.flatMap_cons, Nat.zero_mul, Nat.zero_add, List.getElem?_append_left hk]
    exact hu
  | x :: r, i + 1, o, h, k, u, hu => by
    have hl : x.cells.length = 7 := rfl
    rw [List.flatMap_cons, List.getElem?_append_right (by omega), hl, show (i + 1) * 7 + k - 7 = i * 7 + k by omega]
    exact ro_at r i o (by simpa using h) k u hu
theorem ro_set (o : RO) (v' : Value) (vs' : List Va) : ∀ (os : List RO) (i : Nat), os[i]? = some o → (os.flatMap RO.cells).set (i * 7 + 6) v' = (os.set i { o with iv := v', vs := vs' }).flatMap RO.cells
  | [], i, h => by simp at h
  | x :: r, 0, h => by
    obtain rfl : x = o := by simpa using h
    simp [RO.cells]
  | x :: r, i + 1, h => by
    have ih := ro_set o v' vs' r i (by simpa using h)
    have hl : x.cells.length = 7 := rfl
    rw [List.set_cons_succ, List.flatMap_cons, List.flatMap_cons, ← ih, List.set_append_right _ _ (by omega), hl, show (i + 1) * 7 + 6 - 7 = i * 7 + 6 by omega]
theorem RfAt.cell0 {w : World} {r : Rf} (h : RfAt w r) : w.cell? ⟨r.g, 0, none⟩ = some r.ov := bk_cell h.own 0 _ rfl
theorem RfAt.cell1 {w : World} {r : Rf} (h : RfAt w r) : w.cell? ⟨r.g, 1, none⟩ = some (.int .i64 r.left) := bk_cell h.own 1 _ rfl
/-- the objects' row, as a slice, and its cells -/
theorem RfAt.rows {w : World} {r : Rf} (h : RfAt w r) : ∃ a c, r.ov = .slice a r.os.length c ∧ ∀ (i : Nat) (o : RO), r.os[i]? = some o → ∃ G, a = some ⟨G, 0, none⟩ ∧ ∀ (k : Nat) u, o.cells[k]? = some u → w.cell? ⟨G, i * 7 + k, none⟩ = some u := by
  have hr := h.row
  rcases hr.2 with ⟨e, h0⟩ | ⟨g, cap, cur, e, _⟩
  · rw [h0]
    exact ⟨none, 0, e, fun i p hp => by rw [List.length_eq_zero_iff.1 h0] at hp; simp at hp⟩
  · refine ⟨some ⟨g, 0, none⟩, cap, e, fun i o ho => ⟨g, rfl, fun k u hu => ?_⟩⟩
    have := hr.cells (g := g) (by rw [e]; rfl) (i * 7 + k) u (ro_at r.os i o ho k u hu)
    rw [← this]
    unfold Addr.add
    split <;> simp_all
def Rf.obj (r : Rf) (i : Int) : Option RO := if i < 0 then none else r.os[i.toNat]?
theorem RfAt.short {w : World} {r : Rf} (h : RfAt w r) : r.os.length ≤ 2000 := by
  have h1 := h.n
  have h2 := h.lo
  omega
theorem obj_some {r : Rf} {i : Int} {o : RO} (h : r.obj i = some o) : ∃ n : Nat, i = n ∧ n < r.os.length ∧ r.os[n]? = some o := by
  unfold Rf.obj at h
  split at h
  · cases h
  · exact ⟨i.toNat, by omega, (List.getElem?_eq_some_iff.1 h).1, h⟩
theorem obj_none {r : Rf} {i : Int} (h : r.obj i = none) : i < 0 ∨ (r.os.length : Int) ≤ i := by
  unfold Rf.obj at h
  split at h
  · exact .inl ‹_›
  · have := List.getElem?_eq_none_iff.1 h
    exact .inr (by omega)
set_option maxRecDepth 100000 in
theorem has_any (r : Rf) (i : Int) (w : World) (h : RfAt w r) : Calls Tryz.prog 34 #[.pointer (some ⟨r.g, 0, none⟩), .int .i64 i] w fun e w' => e = .returned (.bool (r.obj i).isSome) ∧ w = w' := by
  have c0 := h.cell0
  obtain ⟨a, c, hov, -⟩ := h.rows
  rw [hov] at c0
  have hs := h.short
  cases ho : r.obj i with
  | none =>
    have hh := obj_none ho
    by_cases h1 : i < 0
    · have d1 : decide ((0 : Int) ≤ i) = false := decide_eq_false (by omega)
      clear h hov ho
      go_enter Tryz.func34, Tryz.ntmps34
      go_wp2
      go_ret
      exact ⟨rfl, rfl⟩
    · have h2 : (r.os.length : Int) ≤ i := by omega
      have d1 : decide ((0 : Int) ≤ i) = true := decide_eq_true (by omega)
      have d2 : decide (i < (r.os.length : Int)) = false := decide_eq_false (by omega)
      clear h hov ho hh
      go_enter Tryz.func34, Tryz.ntmps34
      go_wp2
      go_ret
      exact ⟨rfl, rfl⟩
  | some o =>
    obtain ⟨n, rfl, hn, -⟩ := obj_some ho
    have d1 : decide ((0 : Int) ≤ n) = true := decide_eq_true (by omega)
    have d2 : decide ((n : Int) < (r.os.length : Int)) = true := decide_eq_true (by omega)
    clear h hov ho
    go_enter Tryz.func34, Tryz.ntmps34
    go_wp2
    go_ret
    exact ⟨rfl, rfl⟩
set_option maxRecDepth 100000 in
theorem rkind_any (r : Rf) (i : Int) (w : World) (h : RfAt w r) : Calls Tryz.prog 30 #[.pointer (some ⟨r.g, 0, none⟩), .int .i64 i] w fun e w' => e = .returned (.int .i64 (((r.obj i).map RO.kind).getD 0)) ∧ w = w' := by
  have H := has_any r i w h
  have c0 := h.cell0
  obtain ⟨a, c, hov, hC⟩ := h.rows
  rw [hov] at c0
  have hs := h.short
  cases ho : r.obj i with
  | none =>
    rw [ho] at H
    clear h hov ho hC
    go_enter Tryz.func30, Tryz.ntmps30
    go_wp2_with fail
    refine H.mono ?_
    rintro e w' ⟨rfl, rfl⟩
    go_wp2
    go_ret
    exact ⟨rfl, rfl⟩
  | some o =>
    rw [ho] at H
    obtain ⟨n, rfl, hn, ho2⟩ := obj_some ho
    obtain ⟨G, rfl, hk⟩ := hC n o ho2
    have k0 := hk 0 _ rfl
    have h1 : (0 : Int) ≤ n := by omega
    have h2 : (n : Int) < (r.os.length : Int) := by omega
    simp only [Nat.add_zero] at k0
    clear h hov ho hC hk ho2
    go_enter Tryz.func30, Tryz.ntmps30
    go_wp2_with fail
    refine H.mono ?_
    rintro e w' ⟨rfl, rfl⟩
    go_wp2
    go_ret
    exact ⟨rfl, rfl⟩
theorem RfAt.ne {w : World} {r : Rf} (h : RfAt w r) {b : Nat} (hb : r.ov.ownBlock = some b) : b ≠ r.g := fun e => by
  have := h.apart
  unfold Rf.blocks at this
  rw [List.nodup_cons] at this
  exact this.1 (List.mem_append_left _ (by rw [← e, hb]; simp))
theorem RfAt.ne2 {w : World} {r : Rf} (h : RfAt w r) {i : Nat} {o : RO} (ho : r.os[i]? = some o) {b : Nat} (hb : o.iv.ownBlock = some b) : b ≠ r.g ∧ r.ov.ownBlock ≠ some b := by
  have := h.apart
  unfold Rf.blocks at this
  rw [List.nodup_cons, List.nodup_append] at this
  have hm : b ∈ r.os.flatMap RO.bl := List.mem_flatMap.2 ⟨o, List.mem_of_getElem? ho, by simp [RO.bl, hb]⟩
  exact ⟨fun e => this.1 (List.mem_append_right _ (e ▸ hm)), fun e => this.2.2.2 b (by simp [e]) b hm rfl⟩
end Cv
end Go.Proofs.YtapgibcdbggpkaaGreatDoor
namespace Go.Proofs.YtapgibcdbggpkaaGreatDoor
open Go Go.RowKit
set_option linter.all false
theorem VRead2.slice {w : World} {v : Value} {vs : List Va} (h : VRead2 w v vs) : ∃ a c, v = .slice a vs.length c := by
  rcases h with hv | ⟨a, c, e, e2⟩
  · obtain ⟨a, c, e, -⟩ := hv.each
    exact ⟨a, c, e⟩
  · exact ⟨some a, c, by rw [e, e2]; rfl⟩
theorem VRead2.each {w : World} {v : Value} {vs : List Va} (h : VRead2 w v vs) : ∃ a c, v = .slice a vs.length c ∧ ∀ (n : Nat) x, vs[n]? = some x → ∃ b o, a = some ⟨b, o, none⟩ ∧ b < w.heap.size ∧ ∀ (i : Nat) u, x.cells[i]? = some u → w.cell? ⟨b, o + n * 4 + i, none⟩ = some u := by
  rcases h with hv | ⟨a, c, rfl, rfl⟩
  · exact hv.each
  · exact ⟨some a, c, rfl, fun n x hx => by simp at hx⟩
theorem VRead2.feeds {w : World} {v : Value} {vs : List Va} (h : VRead2 w v vs) : ∃ a c, v = .slice a vs.length c ∧ Feeds w 4 a vs.length (vs.flatMap Va.cells) := by
  rcases h with (⟨rfl, rfl⟩ | ⟨b, o, c, rfl, hb, hc⟩) | ⟨a, c, rfl, rfl⟩
  · exact ⟨none, 0, rfl, by simp, fun h => by simp at h⟩
  · refine ⟨some ⟨b, o, none⟩, c, rfl, va_len vs, fun _ => ⟨_, rfl, fun j u hu => ?_⟩⟩
    have := hc j u hu
    rw [← this]
    unfold Addr.add
    split <;> simp_all
  · exact ⟨some a, c, rfl, by simp, fun h => by simp at h⟩
namespace Cv
/-- a step, as a statement's argument has it -/
structure Sp where
  kind : Nat
  on : Int
  items : List Va
  iv : Value
def Sp.cells (c : Sp) : List Value := [.int .u8 c.kind, .int .i64 c.on, c.iv]
def SFine (w : World) (c : Sp) : Prop := c.kind < 256 ∧ VRead2 w c.iv c.items ∧ c.items.length ≤ 1000000000 ∧ ∀ x ∈ c.items, x.wf
theorem SFine.pur {w w' : World} {c : Sp} (h : SFine w c) (hp : Pur w w') : SFine w' c := ⟨h.1, h.2.1.pur hp, h.2.2⟩
theorem At.other {w0 w w' : World} {hh G : Nat} {K K' : Nat → Prop} {d : Hd} {S : List Nat} (h : Go.Proofs.YtapgibcdbggpkaaGreatDoor.At w0 hh G K w d) (hc : Chg S w w') (hS : ∀ b ∈ S, K b) (low : ∀ b ∈ S, w0.heap.size ≤ b)
    (hK : ∀ b, K' b → (K b ∨ w.heap.size ≤ b) ∧ b < w'.heap.size) : Go.Proofs.YtapgibcdbggpkaaGreatDoor.At w0 hh G K' w' d := by
  obtain ⟨s, h1, h2, h3, h4, h5⟩ := h.ex
  refine ⟨⟨s, h1.kept hc fun b hb hm => (h5 b (hS b hm)).2 hb, h2, h3, h4, fun b hb => ⟨(hK b hb).2, fun hm => ?_⟩⟩, h.ok, ?_⟩
  · rcases (hK b hb).1 with e | e
    · exact (h5 b e).2 hm
    · have := h1.lt b hm; omega
  · have hp := h.pur
    exact ⟨hc.os.trans hp.os, hc.tape.trans hp.tape, hc.output.trans hp.output, Nat.le_trans hp.size hc.size, fun i hi => (hc.block i (Nat.lt_of_lt_of_le hi hp.size) (fun hm => by have := low i hm; omega)).trans (hp.block i hi)⟩
/-- both heaps, made behind w0; blocks of X are not theirs -/
structure Two (w0 : World) (hh G g : Nat) (X : Nat → Prop) (w : World) (d : Hd) : Prop where
  ex : ∃ r : Rf, RfAt w r ∧ r.g = g ∧ (∀ b ∈ r.blocks, w0.heap.size ≤ b) ∧ (∀ b, X b → b ∉ r.blocks) ∧ Go.Proofs.YtapgibcdbggpkaaGreatDoor.At w0 hh G (fun b => b ∈ r.blocks ∨ X b) w d
  wf : ∀ x ∈ d.xs, ∀ v ∈ x.items, v.wf
theorem Two.pur {w0 w w' : World} {hh G g : Nat} {X : Nat → Prop} {d : Hd} (h : Two w0 hh G g X w d) (hp : Pur w w') : Two w0 hh G g X w' d := by
  obtain ⟨r, h1, h2, h3, h5, h4⟩ := h.ex
  exact ⟨⟨r, h1.pur hp, h2, h3, h5, (h4.pure hp).1⟩, h.wf⟩
theorem Two.below {w0 w : World} {hh G g : Nat} {X : Nat → Prop} {d : Hd} (h : Two w0 hh G g X w d) : Pur w0 w := by
  obtain ⟨r, h1, h2, h3, h5, h4⟩ := h.ex
  exact h4.pur
theorem Two.sub {w0 w : World} {hh G g : Nat} {X X' : Nat → Prop} {d : Hd} (h : Two w0 hh G g X w d) (hx : ∀ b, X' b → X b) : Two w0 hh G g X' w d := by
  obtain ⟨r, h1, h2, h3, h5, h4⟩ := h.ex
  exact ⟨⟨r, h1, h2, h3, fun b hb => h5 b (hx b hb), h4.sub fun b hb => hb.imp id (hx b)⟩, h.wf⟩
/-- one block more that is not theirs -/
theorem Two.keep {w0 w w' : World} {hh G g : Nat} {X : Nat → Prop} {d : Hd} (h : Two w0 hh G g X w d) (hp : Pur w w') (b : Nat) (hb : w.heap.size ≤ b) (hb' : b < w'.heap.size) : Two w0 hh G g (fun k => X k ∨ k = b) w' d := by
  obtain ⟨r, h1, h2, h3, h5, h4⟩ := h.ex
  refine ⟨⟨r, h1.pur hp, h2, h3, fun k hk hm => ?_, (h4.keep hp b hb hb').sub fun k hk => ?_⟩, h.wf⟩
  · rcases hk with hk | rfl
    · exact h5 k hk hm
    · have := h1.lt k hm; omega
  · rcases hk with hk | hk | hk
    · exact .inl (.inl hk)
    · exact .inl (.inr hk)
    · exact .inr hk
/-- the program's heap goes on -/
theorem two_prog {P : Program} {f : FuncId} {vl : Array Value} {w0 w : World} {hh G g : Nat} {X : Nat → Prop} {d d' : Hd} {v : Value} (h : Two w0 hh G g X w d) (hwf : ∀ x ∈ d'.xs, ∀ v ∈ x.items, v.wf)
    (C : ∀ K, Go.Proofs.YtapgibcdbggpkaaGreatDoor.At w0 hh G K w d → Calls P f vl w fun e w' => e = .returned v ∧ Go.Proofs.YtapgibcdbggpkaaGreatDoor.At w0 hh G K w' d' ∧ Kept K w w') :
    Calls P f vl w fun e w' => e = .returned v ∧ Two w0 hh G g X w' d' ∧ Kept X w w' := by
  obtain ⟨r, h1, h2, h3, h5, h4⟩ := h.ex
  refine (C _ h4).mono ?_
  rintro e w' ⟨rfl, k1, k2⟩
  exact ⟨rfl, ⟨⟨r, h1.same fun b hb => k2 b (.inl hb), h2, h3, h5, k1⟩, hwf⟩, fun b hb => k2 b (.inr hb)⟩
/-- the document's heap goes on -/
theorem two_ref1 {P : Program} {f : FuncId} {vl : Array Value} {w0 w : World} {hh G : Nat} {X : Nat → Prop} {d : Hd} {Q : Ending → Prop} {r : Rf} (h1 : RfAt w r) (h3 : ∀ b ∈ r.blocks, w0.heap.size ≤ b) (h5 : ∀ b, X b → b ∉ r.blocks)
    (h4 : Go.Proofs.YtapgibcdbggpkaaGreatDoor.At w0 hh G (fun b => b ∈ r.blocks ∨ X b) w d) (hwf : ∀ x ∈ d.xs, ∀ v ∈ x.items, v.wf)
    (C : Calls P f vl w fun e w' => Q e ∧ ∃ r', RfAt w' r' ∧ RStep w r w' r') :
    Calls P f vl w fun e w' => Q e ∧ Two w0 hh G r.g X w' d ∧ Kept X w w' := by
  refine C.mono ?_
  rintro e w' ⟨hq, r', k1, k2⟩
  have hw := h4.pur.size
  have hX : ∀ b, X b → b < w.heap.size := fun b hb => by
    obtain ⟨s, s1, s2, s3, s4, s5⟩ := h4.ex
    exact (s5 b (.inr hb)).1
  refine ⟨hq, ⟨⟨r', k1, k2.g, fun b hb => ?_, fun b hb hm => ?_, At.other h4 k2.chg (fun b hb => .inl hb) h3 fun b hb => ?_⟩, hwf⟩, fun b hb => k2.chg.block b (hX b hb) (h5 b hb)⟩
  · rcases k2.new b hb with e | e
    · exact h3 b e
    · omega
  · rcases k2.new b hm with e | e
    · exact h5 b hb e
    · have := hX b hb; omega
  · rcases hb with hb | hb
    · exact ⟨(k2.new b hb).imp .inl id, k1.lt b hb⟩
    · exact ⟨.inl (.inr hb), Nat.lt_of_lt_of_le (hX b hb) k2.chg.size⟩
theorem two_ref {P : Program} {f : FuncId} {vl : Array Value} {w0 w : World} {hh G g : Nat} {X : Nat → Prop} {d : Hd} {Q : Ending → Prop} (h : Two w0 hh G g X w d)
    (C : ∀ r, RfAt w r → r.g = g → Calls P f vl w fun e w' => Q e ∧ ∃ r', RfAt w' r' ∧ RStep w r w' r') :
    Calls P f vl w fun e w' => Q e ∧ Two w0 hh G g X w' d ∧ Kept X w w' := by
  obtain ⟨r, h1, rfl, h3, h5, h4⟩ := h.ex
  exact two_ref1 h1 h3 h5 h4 h.wf (C r h1 rfl)
/-! values stay such as a machine holds -/
def Wf (d : Hd) : Prop := ∀ x ∈ d.xs, ∀ v ∈ x.items, v.wf
theorem wf_add {d : Hd} (h : Wf d) (x : Ob) (c : Int) (hx : ∀ v ∈ x.items, v.wf) : Wf (d.add x c).2 := by
  unfold Hd.add
  split
  · exact h
  · intro y hy
    rcases List.mem_append.1 hy with hy | hy
    · exact h y hy
    · rw [List.mem_singleton.1 hy]; exact hx
theorem wf_plain {d : Hd} (h : Wf d) (p : Int) : Wf (d.plain p).2 := by
  unfold Hd.plain
  split
  · exact h
  · exact wf_add h _ _ (fun v hv => by simp [Ob.fresh] at hv)
theorem wf_func {d : Hd} (h : Wf d) (a b p : Int) : Wf (d.func a b p).2 := by
  unfold Hd.func
  split
  · exact h
  · exact wf_add h _ _ (fun v hv => by simp [Ob.fresh] at hv)
theorem wf_array {d : Hd} (h : Wf d) (vs : List Va) (hv : ∀ v ∈ vs, v.wf) : Wf (d.array vs).2 := by
  unfold Hd.array
  split
  · exact wf_add h _ _ hv
  · exact h
theorem wf_turn {d : Hd} (h : Wf d) (i : Int) (x : Ob) (c : Int) (hx : ∀ v ∈ x.items, v.wf) : Wf (d.turn i x c) := by
  intro y hy
  rcases List.mem_or_eq_of_mem_set hy with hy | rfl
  · exact h y hy
  · exact hx
theorem wf_zero : Va.zero.wf := ⟨show (0 : Nat) < 18446744073709551616 by decide, by simp [Va.zero]⟩
theorem wf_resize {x : Ob} (h : ∀ v ∈ x.items, v.wf) (n : Nat) : ∀ v ∈ (x.resize n).items, v.wf := by
  unfold Ob.resize
  simp only
  split
  · exact fun v hv => h v (List.mem_of_mem_take hv)
  · intro v hv
    rcases List.mem_append.1 hv with hv | hv
    · exact h v hv
    · rw [(List.mem_replicate.1 hv).2]; exact wf_zero
theorem wf_item {x : Ob} (h : ∀ v ∈ x.items, v.wf) (n : Nat) (u : Va) (hu : u.wf) : ∀ v ∈ (x.item n u).items, v.wf := by
  intro v hv
  rcases List.mem_or_eq_of_mem_set hv with hv | rfl
  · exact h v hv
  · exact hu
theorem wf_put {d : Hd} (h : Wf d) (i : Int) (key : List UInt8) (u : Va) (hu : u.wf) : Wf (d.put i key u).2 := by
  unfold Hd.put
  cases hx : d.obj i with
  | none => exact h
  | some x =>
    have hxi : ∀ v ∈ x.items, v.wf := h x (Hd.obj_mem hx).1
    simp only
    split
    · exact h
    split
    · split
      · exact h
      · unfold Hd.resize
        split
        · exact h
        · exact wf_turn h _ _ _ (wf_resize hxi _)
    · split
      · split
        · split
          · exact h
          · exact wf_turn h _ _ _ (wf_item (wf_resize hxi _) _ _ hu)
        · exact wf_turn h _ _ _ (wf_item hxi _ _ hu)
      · split
        · exact wf_turn h _ _ _ hxi
        · split
          · exact h
          · exact wf_turn h _ _ _ hxi
end Cv
end Go.Proofs.YtapgibcdbggpkaaGreatDoor
namespace Go.Proofs.YtapgibcdbggpkaaGreatDoor
open Go Go.RowKit
set_option linter.all false
namespace Cv
theorem robj_info : (Tryz.prog.info? 69).map (fun i => (i.zero.map (·.cells.size), i.size, i.bytes)) = some (some 7, 7, 88) := by kernel_rfl
set_option maxRecDepth 100000 in
theorem rnew_at (w : World) : Calls Tryz.prog 21 #[.int .i64 2000] w fun e w' => ∃ r, e = .returned (.pointer (some ⟨r.g, 0, none⟩)) ∧ RfAt w' r ∧ Pur w w' ∧ ∀ b ∈ r.blocks, w.heap.size ≤ b := by
  have hfin : RfAt (w.alloc (.cells #[.slice none 0 0, .int .i64 2000] 72)) ⟨w.heap.size, .slice none 0 0, 2000, []⟩ :=
    ⟨bk_new _ _, World.ownsRow_nil _ _ _ _, fun i o ho => by simp at ho, by simp [Rf.blocks, Value.ownBlock], by simp, by simp, fun i o ho => by simp at ho⟩
  go_enter Tryz.func21, Tryz.ntmps21
  go_wp2
  go_ret
  exact ⟨_, rfl, hfin, (Pur.refl w).alloc _, fun b hb => by simp [Rf.blocks, Value.ownBlock] at hb; omega⟩
set_option maxRecDepth 100000 in
set_option maxHeartbeats 8000000 in
theorem radd_any (r : Rf) (o : RO) (c : Int) (w : World) (h : RfAt w r) (hit : w.ownsRow 0 25 4 o.iv o.vs.length (o.vs.flatMap Va.cells)) (hid : ∀ b, o.iv.ownBlock = some b → b ∉ r.blocks) (hc1 : 1 ≤ c) (hc3 : c ≤ 1000000000000) (hroom : o.vs.length + 1 ≤ c) :
    Calls Tryz.prog 46 #[.pointer (some ⟨r.g, 0, none⟩), .agg #[.int .i64 o.kind, .int .i64 o.proto, .int .i64 o.a, .int .i64 o.b, .int .i64 o.scope, .slice none 0 0, o.iv], .int .i64 c] w fun e w' => (∃ x y : Int, e = .returned (.tuple #[.int .i64 x, .int .i64 y])) ∧
      ∃ r', RfAt w' r' ∧ r'.g = r.g ∧ Chg r.blocks w w' ∧ ∀ b ∈ r'.blocks, b ∈ r.blocks ∨ o.iv.ownBlock = some b ∨ w.heap.size ≤ b := by
  obtain ⟨i0, hi0, hz⟩ := Option.map_eq_some_iff.1 robj_info
  simp only [Prod.mk.injEq] at hz
  obtain ⟨hz0, hz1, hz2⟩ := hz
  obtain ⟨z0, hz0, hzs⟩ := Option.map_eq_some_iff.1 hz0
  have hsh := h.short
  have hlo := h.lo
  have hn := h.n
  obtain ⟨oa, oc, hov⟩ := row_shape h.row
  obtain ⟨ia, ic, hiv⟩ := row_shape hit
  have PU := fun w' ov' => RfAt.push (w' := w') (ov' := ov') (c := c) h (o := o)
  obtain ⟨ok, op, oa', ob, osc, iv, vs⟩ := o
  simp only at hiv hit hid hroom PU ⊢
  subst hiv
  obtain ⟨g, ov, left, os⟩ := r
  simp only at hov hsh hlo hn PU ⊢
  subst hov
  have P1 : Pur w (w.alloc (.cells #[.int .i64 ok, .int .i64 op, .int .i64 oa', .int .i64 ob, .int .i64 osc, .slice none 0 0, .slice ia vs.length ic] 69)) := (Pur.refl w).alloc _
  have h1 := h.pur P1
  have c1 := h1.cell1
  simp only at c1
  by_cases hlt : left < c
  · have d1 : decide (left < c) = true := decide_eq_true hlt
    clear PU h hit hid hz0 hz1 hz2 hzs hi0
    go_enter Tryz.func46, Tryz.ntmps46
    go_wp2
    go_ret2
    exact ⟨⟨_, _, rfl⟩, _, h1, rfl, .of_pur P1, fun b hb => .inl hb⟩
  have d1 : decide (left < c) = false := decide_eq_false hlt
  have wr1 : IntKind.i64.wrap (left - c) = left - c := IntWalk.i64_in _ (by omega)
  have f1 := bk_free h1.own 1
  have hgw : g < w.heap.size := bk_lt h.own
  have K2 := bk_alloc (bk_set h.own 1 (.int .i64 (left - c))) (.cells #[.int .i64 ok, .int .i64 op, .int .i64 oa', .int .i64 ob, .int .i64 osc, .slice none 0 0, .slice ia vs.length ic] 69)
  have hS1 : (w.setCell ⟨g, 1, none⟩ (.int .i64 (left - c))).heap.size = w.heap.size := by simp [World.setCell]
  have X2 := bk_new (w.setCell ⟨g, 1, none⟩ (.int .i64 (left - c))) (.cells #[.int .i64 ok, .int .i64 op, .int .i64 oa', .int .i64 ob, .int .i64 osc, .slice none 0 0, .slice ia vs.length ic] 69)
  rw [hS1] at X2
  have hgn : ∀ b, (Value.slice oa os.length oc).ownBlock = some b → b ≠ g := fun b hb => h.ne hb
  have R2 := (row_chg h.row (Chg.set w ⟨g, 1, none⟩ (.int .i64 (left - c))) (fun b hb hm => by simp at hm; exact hgn b hb hm)).alloc (.cells #[.int .i64 ok, .int .i64 op, .int .i64 oa', .int .i64 ob, .int .i64 osc, .slice none 0 0, .slice ia vs.length ic] 69)
  have G2 : Chg [g] w ((w.setCell ⟨g, 1, none⟩ (.int .i64 (left - c))).alloc (.cells #[.int .i64 ok, .int .i64 op, .int .i64 oa', .int .i64 ob, .int .i64 osc, .slice none 0 0, .slice ia vs.length ic] 69)) := ((Chg.refl [g] w).setCell (.inl (by simp)) _).alloc _
  have hS2 : ((w.setCell ⟨g, 1, none⟩ (.int .i64 (left - c))).alloc (.cells #[.int .i64 ok, .int .i64 op, .int .i64 oa', .int .i64 ob, .int .i64 osc, .slice none 0 0, .slice ia vs.length ic] 69)).heap.size = w.heap.size + 1 := by rw [← hS1]; exact Array.size_push _
  simp only at R2
  have hrl : ∀ b, (Value.slice oa os.length oc).ownBlock = some b → b < w.heap.size := fun b hb => (h.row.lt b hb).2
  clear h h1
  go_enter Tryz.func46, Tryz.ntmps46
  go_wp2_with fail
  clear c1 f1 wr1 d1
  generalize (w.setCell ⟨g, 1, none⟩ (.int .i64 (left - c))).alloc (.cells #[.int .i64 ok, .int .i64 op, .int .i64 oa', .int .i64 ob, .int .i64 osc, .slice none 0 0, .slice ia vs.length ic] 69) = wc at *
  have Pd : Pur wc (wc.alloc (.cells #[.int .i64 ok, .int .i64 op, .int .i64 oa', .int .i64 ob, .int .i64 osc, .slice none 0 0, .slice ia vs.length ic] 69)).drew := ((Pur.refl wc).alloc _).drew
  have NB : (wc.alloc (.cells #[.int .i64 ok, .int .i64 op, .int .i64 oa', .int .i64 ob, .int .i64 osc, .slice none 0 0, .slice ia vs.length ic] 69)).drew.heap[wc.heap.size]? = some (.cells #[.int .i64 ok, .int .i64 op, .int .i64 oa', .int .i64 ob, .int .i64 osc, .slice none 0 0, .slice ia vs.length ic] 69 (0, 0)) := bk_new wc _
  rw [hS2] at NB
  have KA := bk_pur K2 Pd
  have XA := bk_pur X2 Pd
  have RA := R2.alloc (.cells #[.int .i64 ok, .int .i64 op, .int .i64 oa', .int .i64 ob, .int .i64 osc, .slice none 0 0, .slice ia vs.length ic] 69)
  have RB := RA.drew
  have Pdr : Pur wc wc.drew := (Pur.refl wc).drew
  have k0 := bk_cell (bk_pur K2 Pdr) 0 _ rfl
  have x0 := bk_cell (bk_pur X2 Pdr) 0 _ rfl
  have x1 := bk_cell (bk_pur X2 Pdr) 1 _ rfl
  have x2 := bk_cell (bk_pur X2 Pdr) 2 _ rfl
  have x3 := bk_cell (bk_pur X2 Pdr) 3 _ rfl
  have x4 := bk_cell (bk_pur X2 Pdr) 4 _ rfl
  have x5 := bk_cell (bk_pur X2 Pdr) 5 _ rfl
  have x6 := bk_cell (bk_pur X2 Pdr) 6 _ rfl
  refine wp_region_until (T := fun w' => w'.cell? ⟨g, 0, none⟩ = some (.slice oa os.length oc) ∧ w'.cell? ⟨w.heap.size, 0, none⟩ = some (.int .i64 ok) ∧ w'.cell? ⟨w.heap.size, 1, none⟩ = some (.int .i64 op) ∧ w'.cell? ⟨w.heap.size, 2, none⟩ = some (.int .i64 oa') ∧ w'.cell? ⟨w.heap.size, 3, none⟩ = some (.int .i64 ob) ∧ w'.cell? ⟨w.heap.size, 4, none⟩ = some (.int .i64 osc) ∧ w'.cell? ⟨w.heap.size, 5, none⟩ = some (.slice none 0 0) ∧ w'.cell? ⟨w.heap.size, 6, none⟩ = some (.slice ia vs.length ic)) 8 (by kernel_rfl) ⟨k0, x0, x1, x2, x3, x4, x5, x6⟩ (fun hT => ?_)
  clear k0 x0 x1 x2 x3 x4 x5 x6
  refine wpAnyU_take (i := 0) (v := ?vu1) rfl (by kernel_rfl) (by kernel_rfl) (by kernel_rfl) (by kernel_rfl) (by kernel_rfl) (fun _ _ _ h => h) (Or.inl ⟨by rfl, ?hu1⟩) (by assumption) ?ru1
  case hu1 => (intro w9 hSw; (try dsimp only at hSw); go_simp; (try with_reducible rfl))
  simp only [Act.put, List.setIfInBounds_toArray, List.set_cons_zero, List.set_cons_succ]
  refine wpAnyU_take (i := 1) (v := ?vu2) rfl (by kernel_rfl) (by kernel_rfl) (by kernel_rfl) (by kernel_rfl) (by kernel_rfl) (fun _ _ _ h => h) (Or.inl ⟨by rfl, ?hu2⟩) (by assumption) ?ru2
  case hu2 => (intro w9 hSw; (try dsimp only at hSw); go_simp; (try with_reducible rfl))
  simp only [Act.put, List.setIfInBounds_toArray, List.set_cons_zero, List.set_cons_succ]
  refine wpAnyU_take (i := 2) (v := ?vu3) rfl (by kernel_rfl) (by kernel_rfl) (by kernel_rfl) (by kernel_rfl) (by kernel_rfl) (fun _ _ _ h => h) (Or.inl ⟨by rfl, ?hu3⟩) (by assumption) ?ru3
  case hu3 => (intro w9 hSw; (try dsimp only at hSw); go_simp; (try with_reducible rfl))
  simp only [Act.put, List.setIfInBounds_toArray, List.set_cons_zero, List.set_cons_succ]
  refine wpAnyU_take (i := 3) (v := ?vu4) rfl (by kernel_rfl) (by kernel_rfl) (by kernel_rfl) (by kernel_rfl) (by kernel_rfl) (fun _ _ _ h => h) (Or.inl ⟨by rfl, ?hu4⟩) (by assumption) ?ru4
  case hu4 => (intro w9 hSw; (try dsimp only at hSw); go_simp; (try with_reducible rfl))
  simp only [Act.put, List.setIfInBounds_toArray, List.set_cons_zero, List.set_cons_succ]
  refine wpAnyU_take (i := 4) (v := ?vu5) rfl (by kernel_rfl) (by kernel_rfl) (by kernel_rfl) (by kernel_rfl) (by kernel_rfl) (fun _ _ _ h => h) (Or.inl ⟨by rfl, ?hu5⟩) (by assumption) ?ru5
  case hu5 => (intro w9 hSw; (try dsimp only at hSw); go_simp; (try with_reducible rfl))
  simp only [Act.put, List.setIfInBounds_toArray, List.set_cons_zero, List.set_cons_succ]
  refine wpAnyU_take (i := 5) (v := ?vu6) rfl (by kernel_rfl) (by kernel_rfl) (by kernel_rfl) (by kernel_rfl) (by kernel_rfl) (fun _ _ _ h => h) (Or.inl ⟨by rfl, ?hu6⟩) (by assumption) ?ru6
  case hu6 => (intro w9 hSw; (try dsimp only at hSw); go_simp; (try with_reducible rfl))
  simp only [Act.put, List.setIfInBounds_toArray, List.set_cons_zero, List.set_cons_succ]
  refine wpAnyU_next (i := 6) (by kernel_rfl) rfl (fun K hK => ?_)
  go_simp
  refine hK.out _ _ ?_ (fun hT => ?_)
  clear hK K
  try simp only [Act.put, List.setIfInBounds_toArray, List.set_cons_zero, List.set_cons_succ]
  · exact ⟨bk_cell KA 0 _ rfl, bk_cell XA 0 _ rfl, bk_cell XA 1 _ rfl, bk_cell XA 2 _ rfl, bk_cell XA 3 _ rfl, bk_cell XA 4 _ rfl, bk_cell XA 5 _ rfl, bk_cell XA 6 _ rfl⟩
  refine wpAnyU_next (i := 7) (by kernel_rfl) rfl (fun K hK => ?_)
  refine step_append_lies _ (by rfl) _ _ _ (by rfl) 0 69 i0 z0 7 88 Tryz.underlying70 hi0 hz0 hz1 hz2 hzs (by omega) (.slice oa os.length oc) os.length (os.flatMap RO.cells) (by rfl) RB ⟨w.heap.size + 1, 0, none⟩ 1 1 [.int .i64 ok, .int .i64 op, .int .i64 oa', .int .i64 ob, .int .i64 osc, .slice none 0 0, .slice ia vs.length ic] (by rfl) (by rfl) (World.news_of_block (cs := #[.int .i64 ok, .int .i64 op, .int .i64 oa', .int .i64 ob, .int .i64 osc, .slice none 0 0, .slice ia vs.length ic]) (t := 69) (fr := (0, 0)) NB) (by simp [Value.oneCell']) (by omega) (by unfold maxLen; omega) (by omega) (Nat.zero_le _) (wc.heap.size + 1) (by simp) ?_
  intro gg cap w11 hown11 hgrow hat hlt11
  have hgs : g < wc.heap.size := by omega
  have hne1 : (Value.slice oa os.length oc).ownBlock ≠ some g := fun e => hgn g e rfl
  have hne2 : (Value.slice oa os.length oc).ownBlock ≠ some w.heap.size := fun e => by have := hrl _ e; omega
  have K11 := (hgrow.block g (Nat.lt_of_lt_of_le hgs Pd.size) (fun e => hne1 e.symm)).trans KA
  have X11 := (hgrow.block w.heap.size (Nat.lt_of_lt_of_le (by omega) Pd.size) (fun e => hne2 e.symm)).trans XA
  refine hK.out _ _ ?_ (fun hT => ?_)
  clear hK K
  try simp only [Act.put, List.setIfInBounds_toArray, List.set_cons_zero, List.set_cons_succ]
  · exact ⟨bk_cell K11 0 _ rfl, bk_cell X11 0 _ rfl, bk_cell X11 1 _ rfl, bk_cell X11 2 _ rfl, bk_cell X11 3 _ rfl, bk_cell X11 4 _ rfl, bk_cell X11 5 _ rfl, bk_cell X11 6 _ rfl⟩
  refine wpAnyU_tail 8 (by kernel_rfl) ?_
  simp only [List.drop_succ_cons, List.drop_zero]
  have q8 := bk_free K11 0
  have q9 := bk_cell K11 0 _ rfl
  have K12 := bk_set K11 0 (.slice (some ⟨gg, 0, none⟩) (os.length + 1) cap)
  have k12 := bk_cell K12 0 _ rfl
  have hgp : gg ≠ g := by
    rcases hat with hat | hat
    · exact hgn gg hat
    · omega
  have G11 : Chg (g :: (Value.slice oa os.length oc).ownBlock.toList) w w11 := ((G2.mono (fun b hb => .inl (by simp at hb; simp [hb]))).pur Pd).grown hgrow (fun b hb => .inl (by simp [hb]))
  have G12 : Chg (g :: (Value.slice oa os.length oc).ownBlock.toList) w (w11.setCell ⟨g, 0, none⟩ (.slice (some ⟨gg, 0, none⟩) (os.length + 1) cap)) := G11.setCell (.inl (by simp)) _
  have R12 := row_chg hown11 (Chg.set w11 ⟨g, 0, none⟩ (.slice (some ⟨gg, 0, none⟩) (os.length + 1) cap)) (fun b hb hm => by simp [Value.ownBlock] at hb; subst hb; simp at hm; exact hgp hm)
  have HF := Lib.hid (PU _ _ G12 K12 R12 (by
    rcases hat with e | e
    · exact .inl e.symm
    · exact .inr ⟨gg, rfl, by omega⟩) hit hid hc1 (by omega) hroom)
  have G13 := Lib.hid (G12.mono (S' := (Rf.mk g (.slice oa os.length oc) left os).blocks) (fun b hb => .inl (by
    rcases List.mem_cons.1 hb with rfl | hb
    · simp [Rf.blocks]
    · exact ov_mem (r := Rf.mk g (.slice oa os.length oc) left os) (by simpa using hb))))
  clear hT KA XA RA RB NB Pd X11 K11 K12 G11 G12 R12 PU hown11 hgrow hat hit hid K2 X2 R2 G2
  go_wp2
  go_ret2
  exact ⟨⟨_, _, rfl⟩, _, HF.out.1, rfl, G13.out, HF.out.2⟩
theorem RStep.add {w w' : World} {r r' : Rf} (h1 : r'.g = r.g) (h2 : Chg r.blocks w w') (h3 : ∀ b ∈ r'.blocks, b ∈ r.blocks ∨ (Value.slice none 0 0).ownBlock = some b ∨ w.heap.size ≤ b) : RStep w r w' r' :=
  ⟨h2, h1, fun b hb => by
    rcases h3 b hb with e | e | e
    · exact .inl e
    · cases e
    · exact .inr e⟩
set_option maxRecDepth 100000 in
theorem rplain_any (r : Rf) (w : World) (h : RfAt w r) :
    Calls Tryz.prog 24 #[.pointer (some ⟨r.g, 0, none⟩), .int .i64 (-1)] w fun e w' => (∃ x y : Int, e = .returned (.tuple #[.int .i64 x, .int .i64 y])) ∧ ∃ r', RfAt w' r' ∧ RStep w r w' r' := by
  have A := radd_any r ⟨1, -1, 0, 0, 0, .slice none 0 0, []⟩ 1 w h (World.ownsRow_nil _ _ _ _) (fun b hb => by cases hb) (by decide) (by decide) (by decide)
  simp only at A
  clear h
  go_enter Tryz.func24, Tryz.ntmps24
  go_wp2_with fail
  refine A.mono ?_
  rintro e w' ⟨⟨x, y, rfl⟩, r', k1, k2, k3, k4⟩
  have HF := Lib.hid (And.intro k1 (RStep.add k2 k3 k4))
  clear k1 k2 k3 k4 A
  go_wp2
  go_ret2
  exact ⟨⟨_, _, rfl⟩, _, HF.out⟩
set_option maxRecDepth 100000 in
theorem rfunc_any (r : Rf) (w : World) (h : RfAt w r) :
    Calls Tryz.prog 26 #[.pointer (some ⟨r.g, 0, none⟩), .int .i64 0, .int .i64 0, .int .i64 (-1)] w fun e w' => (∃ x y : Int, e = .returned (.tuple #[.int .i64 x, .int .i64 y])) ∧ ∃ r', RfAt w' r' ∧ RStep w r w' r' := by
  have A := radd_any r ⟨3, -1, 0, 0, -1, .slice none 0 0, []⟩ 1 w h (World.ownsRow_nil _ _ _ _) (fun b hb => by cases hb) (by decide) (by decide) (by decide)
  simp only at A
  clear h
  go_enter Tryz.func26, Tryz.ntmps26
  go_wp2_with fail
  refine A.mono ?_
  rintro e w' ⟨⟨x, y, rfl⟩, r', k1, k2, k3, k4⟩
  have HF := Lib.hid (And.intro k1 (RStep.add k2 k3 k4))
  clear k1 k2 k3 k4 A
  go_wp2
  go_ret2
  exact ⟨⟨_, _, rfl⟩, _, HF.out⟩
end Cv
end Go.Proofs.YtapgibcdbggpkaaGreatDoor
namespace Go.Proofs.YtapgibcdbggpkaaGreatDoor
open Go Go.RowKit
set_option linter.all false
namespace Cv
/-- cells are taken -/
theorem RfAt.less {w : World} {r : Rf} (h : RfAt w r) (c : Int) (h0 : 0 ≤ c) (hc : c ≤ r.left) : RfAt (w.setCell ⟨r.g, 1, none⟩ (.int .i64 c)) ⟨r.g, r.ov, c, r.os⟩ ∧ RStep w r (w.setCell ⟨r.g, 1, none⟩ (.int .i64 c)) ⟨r.g, r.ov, c, r.os⟩ := by
  have hc1 := Chg.set w ⟨r.g, 1, none⟩ (.int .i64 c)
  refine ⟨⟨bk_set h.own 1 _, row_chg h.row hc1 (fun b hb hm => h.ne hb (by simpa using hm)), fun i o ho => row_chg (h.each i o ho) hc1 (fun b hb hm => (h.ne2 ho hb).1 (by simpa using hm)), h.apart, h0, by have := h.n; simp only; omega, fun i o ho => by have := h.room i o ho; simp only; omega⟩, ⟨hc1.mono fun b hb => .inl ?_, rfl, fun b hb => .inl hb⟩⟩
  simp at hb
  simp [Rf.blocks, hb]
/-- an array's items, turned to another row -/
theorem RfAt.slot {w : World} {r : Rf} (h : RfAt w r) {i : Nat} {o : RO} (ho : r.os[i]? = some o) {G cap : Nat} (hG : r.ov = .slice (some ⟨G, 0, none⟩) r.os.length cap) {v' : Value} {vs' : List Va}
    (hv : w.ownsRow 0 25 4 v' vs'.length (vs'.flatMap Va.cells)) (hapv : ∀ b, v'.ownBlock = some b → b ∉ r.blocks) (hroom : vs'.length + r.left ≤ 2000) :
    w.frozen? ⟨G, i * 7 + 6, none⟩ = false ∧ RfAt (w.setCell ⟨G, i * 7 + 6, none⟩ v') ⟨r.g, r.ov, r.left, r.os.set i { o with iv := v', vs := vs' }⟩ ∧ Chg r.blocks w (w.setCell ⟨G, i * 7 + 6, none⟩ v') ∧ ∀ b ∈ (Rf.mk r.g r.ov r.left (r.os.set i { o with iv := v', vs := vs' })).blocks, b ∈ r.blocks ∨ v'.ownBlock = some b := by
  have hov : r.ov.ownBlock = some G := by rw [hG]; rfl
  have R0 := h.row
  rw [hG] at R0
  obtain ⟨R1, G1⟩ := R0.stored (i * 7 + 6) v'
  rw [ro_set o v' vs' r.os i ho, ← hG] at R1
  have hc1 := Chg.set w ⟨G, i * 7 + 6, none⟩ v'
  have hgG := h.ne hov
  have hl := (List.getElem?_eq_some_iff.1 ho).1
  refine ⟨R0.frozenAt _, ⟨(G1.block _ (bk_lt h.own) (fun e => hgG (by simpa using e.symm))).trans h.own, by rw [List.length_set]; exact R1, fun j x hj => ?_, ?_, h.lo, by rw [List.length_set]; exact h.n, fun j x hj => ?_⟩, hc1.mono fun b hb => .inl (by simp at hb; subst hb; exact ov_mem hov), fun b hb => ?_⟩
  · simp only at hj
    by_cases hij : i = j
    · subst hij
      rw [List.getElem?_set_self hl] at hj
      cases hj
      exact row_chg hv hc1 (fun b hb hm => hapv b hb (by simp at hm; subst hm; exact ov_mem hov))
    · rw [List.getElem?_set_ne hij] at hj
      exact row_chg (h.each j x hj) hc1 (fun b hb hm => (h.ne2 hj hb).2 (by simp at hm; subst hm; exact hov))
  · obtain ⟨A, B, hA, hB⟩ := set_split r.os i o { o with iv := v', vs := vs' } ho
    have e2 : (Rf.mk r.g r.ov r.left (r.os.set i { o with iv := v', vs := vs' })).blocks = (r.g :: r.ov.ownBlock.toList) ++ (A.flatMap RO.bl ++ (v'.ownBlock.toList ++ B.flatMap RO.bl)) := by
      unfold Rf.blocks; simp only; rw [hB]; simp [RO.bl]
    have e1 : r.blocks = (r.g :: r.ov.ownBlock.toList) ++ (A.flatMap RO.bl ++ (o.bl ++ B.flatMap RO.bl)) := by
      unfold Rf.blocks; rw [hA]; simp
    have hap := h.apart
    rw [e1] at hap
    rw [e2]
    refine nodup_turn hap (by cases v'.ownBlock <;> simp) fun b hb => .inr (by rw [← e1]; exact hapv b (by simpa using hb))
  · simp only at hj
    by_cases hij : i = j
    · subst hij
      rw [List.getElem?_set_self hl] at hj
      cases hj
      exact hroom
    · rw [List.getElem?_set_ne hij] at hj
      exact h.room j x hj
  · unfold Rf.blocks at hb
    rcases List.mem_cons.1 hb with rfl | hb
    · exact .inl (by simp [Rf.blocks])
    rcases List.mem_append.1 hb with hb | hb
    · exact .inl (ov_mem (by simpa using hb))
    · obtain ⟨x, hx, hb⟩ := List.mem_flatMap.1 hb
      obtain ⟨j, hj⟩ := List.mem_iff_getElem?.1 hx
      have hb' : x.iv.ownBlock = some b := by simpa [RO.bl] using hb
      by_cases hij : i = j
      · subst hij
        simp only at hj
        rw [List.getElem?_set_self hl] at hj
        cases hj
        exact .inr hb'
      · simp only at hj
        rw [List.getElem?_set_ne hij] at hj
        exact .inl (bl_mem hj hb')
theorem set_same {α : Type} (l : List α) (i : Nat) (a : α) (h : l[i]? = some a) : l.set i a = l := by
  apply List.ext_getElem?
  intro j
  by_cases hj : i = j
  · subst hj
    rw [List.getElem?_set_self (List.getElem?_eq_some_iff.1 h).1, h]
  · rw [List.getElem?_set_ne hj]
/-- one item is put -/
theorem RfAt.item {w : World} {r : Rf} (h : RfAt w r) {i : Nat} {o : RO} (ho : r.os[i]? = some o) {g2 cap m : Nat} (hiv : o.iv = .slice (some ⟨g2, 0, none⟩) o.vs.length cap) (hm : m < o.vs.length) (v : Va) :
    (w.frozen? ⟨g2, m * 4, none⟩ = false ∧ ∃ u, w.cell? ⟨g2, m * 4, none⟩ = some u) ∧
    ((w.setCell ⟨g2, m * 4, none⟩ (.int .i64 v.kind)).frozen? ⟨g2, m * 4 + 1, none⟩ = false ∧ ∃ u, (w.setCell ⟨g2, m * 4, none⟩ (.int .i64 v.kind)).cell? ⟨g2, m * 4 + 1, none⟩ = some u) ∧
    (((w.setCell ⟨g2, m * 4, none⟩ (.int .i64 v.kind)).setCell ⟨g2, m * 4 + 1, none⟩ (.float .f64 v.num)).frozen? ⟨g2, m * 4 + 2, none⟩ = false ∧ ∃ u, ((w.setCell ⟨g2, m * 4, none⟩ (.int .i64 v.kind)).setCell ⟨g2, m * 4 + 1, none⟩ (.float .f64 v.num)).cell? ⟨g2, m * 4 + 2, none⟩ = some u) ∧
    ((((w.setCell ⟨g2, m * 4, none⟩ (.int .i64 v.kind)).setCell ⟨g2, m * 4 + 1, none⟩ (.float .f64 v.num)).setCell ⟨g2, m * 4 + 2, none⟩ (.string ⟨v.text.toArray⟩)).frozen? ⟨g2, m * 4 + 3, none⟩ = false ∧ ∃ u, (((w.setCell ⟨g2, m * 4, none⟩ (.int .i64 v.kind)).setCell ⟨g2, m * 4 + 1, none⟩ (.float .f64 v.num)).setCell ⟨g2, m * 4 + 2, none⟩ (.string ⟨v.text.toArray⟩)).cell? ⟨g2, m * 4 + 3, none⟩ = some u) ∧
    ∃ r', RfAt (put4 w g2 m v) r' ∧ RStep w r (put4 w g2 m v) r' := by
  have R0 := h.each i o ho
  rw [hiv] at R0
  obtain ⟨R1, G1⟩ := R0.stored (m * 4) (.int .i64 v.kind)
  obtain ⟨R2, G2⟩ := R1.stored (m * 4 + 1) (.float .f64 v.num)
  obtain ⟨R3, G3⟩ := R2.stored (m * 4 + 2) (.string ⟨v.text.toArray⟩)
  obtain ⟨R4, G4⟩ := R3.stored (m * 4 + 3) (.int .i64 v.ref)
  refine ⟨own_has R0 _ (by omega), own_has R1 _ (by omega), own_has R2 _ (by omega), own_has R3 _ (by omega), ?_⟩
  have G := G1.trans (G2.trans (G3.trans G4))
  have hb : o.iv.ownBlock = some g2 := by rw [hiv]; rfl
  have hl : (o.vs.set m v).length = o.vs.length := List.length_set
  rw [flat_set v o.vs m hm] at R4
  have hC : Chg (r.g :: (r.ov.ownBlock.toList ++ o.bl)) w (put4 w g2 m v) := (Chg.grownS G).mono fun b hb2 => .inl (by simp at hb2; subst hb2; simp [RO.bl, hb])
  have hown := (G.block r.g (bk_lt h.own) (fun e => (h.ne2 ho hb).1 (by simpa using e.symm))).trans h.own
  have hrow : (put4 w g2 m v).ownsRow 0 69 7 r.ov r.os.length ((r.os.set i { o with iv := o.iv, vs := o.vs.set m v }).flatMap RO.cells) := by
    have e : (r.os.set i { o with iv := o.iv, vs := o.vs.set m v }).flatMap RO.cells = r.os.flatMap RO.cells := by
      rw [← ro_set o o.iv (o.vs.set m v) r.os i ho]
      exact set_same _ _ _ (ro_at r.os i o ho 6 _ rfl)
    rw [e]
    exact row_same h.row (fun b hb3 => G.block b (h.row.lt b hb3).2 (fun e => (h.ne2 ho hb).2 (by rw [hb3]; simpa using e)))
  have := h.turn ho (o' := { o with iv := o.iv, vs := o.vs.set m v }) (left' := r.left) hC hown hrow (by rw [hl]; rw [hiv]; exact R4) (fun b hb => .inl hb) h.lo (Int.le_refl _) (by rw [hl]; exact h.room i o ho)
  exact ⟨_, this⟩
end Cv
end Go.Proofs.YtapgibcdbggpkaaGreatDoor
namespace Go.Proofs.YtapgibcdbggpkaaGreatDoor
open Go Go.RowKit
set_option linter.all false
namespace Cv
theorem va_take {vs : List Va} {n : Nat} {x : Va} (h : vs[n]? = some x) : (vs.take (n + 1)).flatMap Va.cells = (vs.take n).flatMap Va.cells ++ x.cells := by
  rw [List.take_add_one, h, List.flatMap_append]
  simp
set_option maxRecDepth 100000 in
set_option maxHeartbeats 16000000 in
theorem rresize_any (r : Rf) (i : Nat) (o : RO) (w : World) (h : RfAt w r) (ho : r.os[i]? = some o) :
    Calls Tryz.prog 54 #[.pointer (some ⟨r.g, 0, none⟩), .int .i64 i, .int .i64 (o.vs.length + 1)] w fun e w' => (e = .returned (.int .i64 112) ∧ Pur w w') ∨
      (e = .returned (.int .i64 0) ∧ ∃ v', RfAt w' ⟨r.g, r.ov, r.left - 1, r.os.set i { o with iv := v', vs := o.vs ++ [Va.zero] }⟩ ∧ RStep w r w' ⟨r.g, r.ov, r.left - 1, r.os.set i { o with iv := v', vs := o.vs ++ [Va.zero] }⟩) := by
  obtain ⟨i0, hi0, hz⟩ := Option.map_eq_some_iff.1 va_info
  simp only [Prod.mk.injEq] at hz
  obtain ⟨hz0, hz1, hz2⟩ := hz
  obtain ⟨z0, hz0, hzs⟩ := Option.map_eq_some_iff.1 hz0
  have hsh := h.short
  have hlo := h.lo
  have hroom := h.room i o ho
  have hil := (List.getElem?_eq_some_iff.1 ho).1
  obtain ⟨a, c, hov, hC⟩ := h.rows
  obtain ⟨G, rfl, hk⟩ := hC i o ho
  obtain ⟨ia, ic, hiv⟩ := row_shape (h.each i o ho)
  obtain ⟨m, hm⟩ : ∃ m, o.vs.length = m := ⟨_, rfl⟩
  rw [hm] at hiv ⊢
  have hmr : (m : Int) + r.left ≤ 2000 := by rw [← hm]; exact hroom
  have k6 := hk 6 (.slice ia m ic) (by rw [← hiv]; rfl)
  have c0 := h.cell0
  rw [hov] at c0
  have c1 := h.cell1
  have hi1 : (0 : Int) ≤ i := by omega
  have hi2 : (i : Int) < r.os.length := by omega
  have wr1 : IntKind.i64.wrap ((m : Int) + 1 - m) = (m : Int) + 1 - m := IntWalk.i64_in _ (by omega)
  have HC := Lib.hid (show r.left - ((m : Int) + 1 - m) = r.left - 1 by omega)
  by_cases hlt : r.left < 1
  · have d1 : decide (r.left < (m : Int) + 1 - m) = true := decide_eq_true (by omega)
    clear h hC hk hz0 hz1 hz2 hzs hi0
    go_enter Tryz.func54, Tryz.ntmps54
    go_wp2
    go_ret
    exact .inl ⟨rfl, Pur.refl _⟩
  have d1 : decide (r.left < (m : Int) + 1 - m) = false := decide_eq_false (by omega)
  have wr2 : IntKind.i64.wrap (r.left - ((m : Int) + 1 - m)) = r.left - ((m : Int) + 1 - m) := IntWalk.i64_in _ (by omega)
  have f1 := bk_free h.own 1
  obtain ⟨H1, S1⟩ := h.less (r.left - ((m : Int) + 1 - m)) (by omega) (by omega)
  clear hC hk
  go_enter Tryz.func54, Tryz.ntmps54
  go_wp2_with fail
  generalize w.setCell ⟨r.g, 1, none⟩ (.int .i64 (r.left - ((m : Int) + 1 - m))) = w1 at *
  clear c0 c1 k6 f1 wr1 wr2 d1
  have FX : ∀ wr, Pur w1 wr → wr.cell? ⟨r.g, 0, none⟩ = some (.slice (some ⟨G, 0, none⟩) r.os.length c) ∧ wr.cell? ⟨G, i * 7 + 6, none⟩ = some (.slice ia m ic) ∧ ∀ (n : Nat) x, o.vs[n]? = some x → ∃ gi, ia = some ⟨gi, 0, none⟩ ∧ ∀ (j : Nat) u, x.cells[j]? = some u → wr.cell? ⟨gi, n * 4 + j, none⟩ = some u := fun wr hp => by
    have H := H1.pur hp
    have hc0 := H.cell0
    simp only at hc0
    rw [hov] at hc0
    obtain ⟨a2, c2, e2, hC2⟩ := H.rows
    simp only at e2 hC2
    rw [hov] at e2
    simp only [Value.slice.injEq, true_and] at e2
    obtain ⟨rfl, rfl⟩ := e2
    obtain ⟨G2, e3, hk2⟩ := hC2 i o ho
    simp only [Option.some.injEq, Addr.mk.injEq, and_true] at e3
    subst e3
    refine ⟨hc0, hk2 6 _ (by rw [← hiv]; rfl), fun n x hx => ?_⟩
    have R := H.each i o ho
    obtain ⟨b, oo, cc, e4, hb4, hc4⟩ := item_cell (VRead.of_own R) hx
    rw [hm] at e4
    rw [hiv] at e4
    simp only [Value.slice.injEq] at e4
    obtain ⟨rfl, -, -⟩ := e4
    have hz4 : oo = 0 := by
      rcases R.2 with ⟨e5, h0⟩ | ⟨g5, cap5, cur5, e5, _⟩
      · have := (List.getElem?_eq_some_iff.1 hx).1; omega
      · rw [hiv] at e5
        simp only [Value.slice.injEq, Option.some.injEq, Addr.mk.injEq] at e5
        exact e5.1.2.1
    subst hz4
    exact ⟨b, rfl, fun j u hu => by have := hc4 j u hu; rw [Nat.zero_add] at this; exact this⟩
  have hVS : ∀ n, n < m → ∃ x, o.vs[n]? = some x := fun n hn => ⟨_, List.getElem?_eq_getElem (by omega)⟩
  have TK := fun n x (hx : o.vs[n]? = some x) => (show ((o.vs ++ [Va.zero]).take (n + 1)).flatMap Va.cells = ((o.vs ++ [Va.zero]).take n).flatMap Va.cells ++ x.cells from va_take (by rw [List.getElem?_append_left (List.getElem?_eq_some_iff.1 hx).1]; exact hx))
  have TZ : ((o.vs ++ [Va.zero]).take (m + 1)).flatMap Va.cells = o.vs.flatMap Va.cells ++ Va.zero.cells := by rw [List.take_of_length_le (by simp [hm]), List.flatMap_append]; simp
  have TF : ((o.vs ++ [Va.zero]).take (m + 1)) = o.vs ++ [Va.zero] := List.take_of_length_le (by simp [hm])
  have HFX := Lib.hid FX
  clear FX
  go_loopw [8, 9] (fun lv k wr => ∃ n : Nat, n ≤ m + 1 ∧ k = .int .i64 n ∧ Pur w1 wr ∧ wr.ownsRow w1.heap.size 25 4 lv n (((o.vs ++ [Va.zero]).take n).flatMap Va.cells)) (fun _ k _ => m + 2 - (intOf k).toNat)
  case atStart => exact ⟨0, by omega, rfl, Pur.refl _, by rw [List.take_zero]; exact World.ownsRow_nil _ _ _ _⟩
  case round =>
    obtain ⟨n, hnl, rfl, hpr, hrow⟩ := hrel
    obtain ⟨la, lc, hlv⟩ := row_shape hrow
    subst hlv
    by_cases hlt2 : n < m + 1
    · have e1 : decide ((n : Int) < (m : Int) + 1) = true := decide_eq_true (by omega)
      have wr3 : IntKind.i64.wrap ((n : Int) + 1) = n + 1 := IntWalk.i64_in _ (by omega)
      have PZ : Pur wr (wr.alloc (.cells #[.int .i64 0, .float .f64 0, .string ⟨#[]⟩, .int .i64 0] 25)) := (Pur.refl wr).alloc _
      by_cases hnm : n < m
      · have e2 : decide ((n : Int) < m) = true := decide_eq_true (by omega)
        obtain ⟨x, hx⟩ := hVS n hnm
        obtain ⟨z0', z6, zx⟩ := HFX.out _ (hpr.trans PZ)
        obtain ⟨gi, rfl, zc⟩ := zx n x hx
        have HTK := Lib.hid (TK n x hx)
        have y0 := zc 0 _ rfl
        have y1 := zc 1 _ rfl
        have y2 := zc 2 _ rfl
        have y3 := zc 3 _ rfl
        rw [Nat.add_zero] at y0
        have n0 : (0 : Int) ≤ n := by omega
        have n1 : (n : Int) < m := by omega
        obtain ⟨xk, xn, xt, xr⟩ := x
        have BZ : (wr.alloc (.cells #[.int .i64 0, .float .f64 0, .string ⟨#[]⟩, .int .i64 0] 25)).heap[wr.heap.size]? = some (.cells Va.zero.cells.toArray 25 (0, 0)) := bk_new _ _
        obtain ⟨⟨s0, s1⟩, ⟨s2, s3⟩, ⟨s4, s5⟩, ⟨s6, s7⟩⟩ := st4_steps (x := ⟨xk, xn, xt, xr⟩) BZ
        simp only at s0 s1 s2 s3 s4 s5 s6 s7
        have PX : Pur w1 ((wr.alloc (.cells #[.int .i64 xk, .float .f64 xn, .string ⟨xt.toArray⟩, .int .i64 xr] 25)).alloc (.cells #[.int .i64 xk, .float .f64 xn, .string ⟨xt.toArray⟩, .int .i64 xr] 25)) := (hpr.alloc _).alloc _
        have HRow := Lib.hid ((hrow.alloc (.cells #[.int .i64 xk, .float .f64 xn, .string ⟨xt.toArray⟩, .int .i64 xr] 25)).alloc (.cells #[.int .i64 xk, .float .f64 xn, .string ⟨xt.toArray⟩, .int .i64 xr] 25))
        have hsx : (wr.alloc (.cells #[.int .i64 xk, .float .f64 xn, .string ⟨xt.toArray⟩, .int .i64 xr] 25)).heap.size = wr.heap.size + 1 := Array.size_push _
        have NBX := bk_new (wr.alloc (.cells #[.int .i64 xk, .float .f64 xn, .string ⟨xt.toArray⟩, .int .i64 xr] 25)) (.cells #[.int .i64 xk, .float .f64 xn, .string ⟨xt.toArray⟩, .int .i64 xr] 25)
        rw [hsx] at NBX
        have HFe : Hid (Feeds ((wr.alloc (.cells #[.int .i64 xk, .float .f64 xn, .string ⟨xt.toArray⟩, .int .i64 xr] 25)).alloc (.cells #[.int .i64 xk, .float .f64 xn, .string ⟨xt.toArray⟩, .int .i64 xr] 25)) 4 (some ⟨wr.heap.size + 1, 0, none⟩) 1 [.int .i64 xk, .float .f64 xn, .string ⟨xt.toArray⟩, .int .i64 xr]) := Lib.hid ⟨rfl, fun _ => ⟨_, rfl, World.news_of_block (cs := #[.int .i64 xk, .float .f64 xn, .string ⟨xt.toArray⟩, .int .i64 xr]) (t := 25) (fr := (0, 0)) NBX⟩⟩
        have HLT := Lib.hid hrow.lt
        clear TK TZ TF hVS zc h ho hx hrow NBX hsx BZ HFX
        go_wp2_with (at_builtin; refine wpList_append_feeds rfl _ _ 42 rfl w1.heap.size 25 i0 z0 4 40 Tryz.underlying42 hi0 hz0 hz1 hz2 hzs (by decide) _ _ _ rfl HRow.out _ _ _ [.int .i64 xk, .float .f64 xn, .string ⟨xt.toArray⟩, .int .i64 xr] rfl HFe.out (by simp [Value.oneCell']) ?c3 ?c4 PX.size ?_)
        case c3 => unfold maxLen; omega
        case c4 => omega
        intro v5 w5 hown5 hgrow
        have hp5 : Pur w1 w5 := Below.grown PX hgrow PX.size (fun k hk => (HLT.out k hk).1)
        have HO := Lib.hid (show w5.ownsRow w1.heap.size 25 4 v5 (n + 1) (((o.vs ++ [Va.zero]).take (n + 1)).flatMap Va.cells) by rw [HTK.out]; exact hown5)
        clear hgrow hown5 HRow HFe PX HLT
        go_wp2
        go_roundw
        case rel => exact ⟨n + 1, by omega, by go_num, hp5, HO.out⟩
        case measure => first | (simp [intOf]; done) | (simp [intOf]; omega)
      · obtain rfl : n = m := by omega
        have e2 : decide ((n : Int) < n) = false := decide_eq_false (by omega)
        have HTZ := Lib.hid TZ
        have PX : Pur w1 ((wr.alloc (.cells #[.int .i64 0, .float .f64 0, .string ⟨#[]⟩, .int .i64 0] 25)).alloc (.cells #[.int .i64 0, .float .f64 0, .string ⟨#[]⟩, .int .i64 0] 25)) := (hpr.alloc _).alloc _
        have HRow := Lib.hid ((hrow.alloc (.cells #[.int .i64 0, .float .f64 0, .string ⟨#[]⟩, .int .i64 0] 25)).alloc (.cells #[.int .i64 0, .float .f64 0, .string ⟨#[]⟩, .int .i64 0] 25))
        have hsx : (wr.alloc (.cells #[.int .i64 0, .float .f64 0, .string ⟨#[]⟩, .int .i64 0] 25)).heap.size = wr.heap.size + 1 := Array.size_push _
        have NBX := bk_new (wr.alloc (.cells #[.int .i64 0, .float .f64 0, .string ⟨#[]⟩, .int .i64 0] 25)) (.cells #[.int .i64 0, .float .f64 0, .string ⟨#[]⟩, .int .i64 0] 25)
        rw [hsx] at NBX
        have HFe : Hid (Feeds ((wr.alloc (.cells #[.int .i64 0, .float .f64 0, .string ⟨#[]⟩, .int .i64 0] 25)).alloc (.cells #[.int .i64 0, .float .f64 0, .string ⟨#[]⟩, .int .i64 0] 25)) 4 (some ⟨wr.heap.size + 1, 0, none⟩) 1 [.int .i64 0, .float .f64 0, .string ⟨#[]⟩, .int .i64 0]) := Lib.hid ⟨rfl, fun _ => ⟨_, rfl, World.news_of_block (cs := #[.int .i64 0, .float .f64 0, .string ⟨#[]⟩, .int .i64 0]) (t := 25) (fr := (0, 0)) NBX⟩⟩
        have HLT := Lib.hid hrow.lt
        clear TK TZ TF hVS h ho hrow NBX hsx HFX
        go_wp2_with (at_builtin; refine wpList_append_feeds rfl _ _ 42 rfl w1.heap.size 25 i0 z0 4 40 Tryz.underlying42 hi0 hz0 hz1 hz2 hzs (by decide) _ _ _ rfl HRow.out _ _ _ [.int .i64 0, .float .f64 0, .string ⟨#[]⟩, .int .i64 0] rfl HFe.out (by simp [Value.oneCell']) ?c3 ?c4 PX.size ?_)
        case c3 => unfold maxLen; omega
        case c4 => omega
        intro v5 w5 hown5 hgrow
        have hp5 : Pur w1 w5 := Below.grown PX hgrow PX.size (fun k hk => (HLT.out k hk).1)
        have HO := Lib.hid (show w5.ownsRow w1.heap.size 25 4 v5 (n + 1) (((o.vs ++ [Va.zero]).take (n + 1)).flatMap Va.cells) by rw [HTZ.out]; exact hown5)
        clear hgrow hown5 HRow HFe PX HLT
        go_wp2
        go_roundw
        case rel => exact ⟨n + 1, by omega, by go_num, hp5, HO.out⟩
        case measure => first | (simp [intOf]; done) | (simp [intOf]; omega)
    · obtain rfl : n = m + 1 := by omega
      have e1 : decide (((m + 1 : Nat) : Int) < (m : Int) + 1) = false := decide_eq_false (by omega)
      have RW := H1.pur hpr
      have hl : (o.vs ++ [Va.zero]).length = m + 1 := by simp [hm]
      rw [TF, ← hl] at hrow
      have hrow2 := row_low hrow (Nat.zero_le _)
      obtain ⟨f6, R7, C7, N7⟩ := RfAt.slot RW (i := i) (o := o) ho (G := G) (cap := c) hov (v' := .slice la (o.vs ++ [Va.zero]).length lc) (vs' := o.vs ++ [Va.zero]) hrow2 (fun b hb hm2 => by
        have h1 := (hrow.lt b hb).1
        have h2 := H1.lt b hm2
        omega) (by simp only [List.length_append, List.length_singleton]; omega)
      obtain ⟨z0', z6, -⟩ := HFX.out _ hpr
      have S7 : RStep w r (wr.setCell ⟨G, i * 7 + 6, none⟩ (.slice la (o.vs ++ [Va.zero]).length lc)) ⟨r.g, r.ov, r.left - ((m : Int) + 1 - m), r.os.set i { o with iv := .slice la (o.vs ++ [Va.zero]).length lc, vs := o.vs ++ [Va.zero] }⟩ := by
        refine RStep.trans S1 ⟨(Chg.of_pur hpr).trans C7, rfl, fun b hb => ?_⟩
        rcases N7 b hb with e | e
        · exact .inl e
        · have h1 := (hrow.lt b e).1
          exact .inr h1
      simp only at R7 C7
      rw [HC.out] at R7 S7
      rw [hl] at R7 S7
      have HF := Lib.hid (And.intro R7 S7)
      clear R7 S7 C7 N7 hrow hrow2 HFX TK TZ TF hVS h H1 S1 RW
      go_wp2
      go_ret
      exact .inr ⟨rfl, _, HF.out⟩
end Cv
end Go.Proofs.YtapgibcdbggpkaaGreatDoor
