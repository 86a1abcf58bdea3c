/- Laws of mine that lean on no program: strings as lists of bytes (index, cut, join, compare), and the class of worlds in which nothing old has turned. -/
import Derived.WalkKit
import Derived.WalkLawsBesides
import Derived.WalkSpells
import Derived.Deep.QuietTactic
import Derived.BigQuiet
import Derived.Outline
import Derived.Lib.Hide
namespace Go.Proofs.YtigfcchblfnnbaaGreatDoor
open Go Go.RowKit
set_option linter.all false
/-- byte number i of a string, 0 beyond its end -/
def by8 (l : List UInt8) (i : Nat) : Nat := (l.getD i 0).toNat
theorem by8_lt (l : List UInt8) (i : Nat) : by8 l i < 256 := by unfold by8; exact UInt8.toNat_lt _
/-- the part of a list from place a up to place b -/
def sub (l : List UInt8) (a b : Nat) : List UInt8 := (l.drop a).take (b - a)
@[go_sem] theorem length_sub (l : List UInt8) (a b : Nat) : (sub l a b).length = min b l.length - a := by
  unfold sub; simp only [List.length_take, List.length_drop]; omega
theorem sub_data (l : List UInt8) (a b : Nat) : (ByteArray.mk l.toArray).extract a b = ⟨(sub l a b).toArray⟩ := by
  rw [ByteArray.extract_mk]; rfl
section
variable {P : Program} (w : World)
@[go_sem high] theorem run_index_str (t : TypeId) (l : List UInt8) (k : IntKind) (i : Int) (h : P.underlying t = some .string) :
    (Instr.index t (.string ⟨l.toArray⟩) (.int k i)).run P w = if 0 ≤ i ∧ i < l.length then .ok (.int .u8 (by8 l i.toNat)) w else (boundsPanic k i l.length .index).run P w := by
  rw [run_index_string w t _ k i h]
  have hz : ((ByteArray.mk l.toArray).size : Int) = l.length := by show ((l.toArray.size : Nat) : Int) = _; simp
  by_cases hi : 0 ≤ i ∧ i < (l.length : Int)
  · rw [dif_pos ⟨hi.1, by rw [hz]; exact hi.2⟩, if_pos hi]
    have h2 : i.toNat < l.length := by omega
    have : (ByteArray.mk l.toArray)[i.toNat]'(by show i.toNat < l.toArray.size; simpa using h2) = l.getD i.toNat 0 := by
      show (l.toArray)[i.toNat]'_ = _
      simp [h2]
    simp only [by8]
    rw [this]
  · rw [dif_neg (by rw [hz]; exact hi), if_neg hi]
    rfl
@[go_sem high] theorem run_str_add (x y : List UInt8) : (Op.stringOp .add ⟨x.toArray⟩ ⟨y.toArray⟩).run P w =
    if x.length + y.length > 9223372036854775807 then .halt (.unsupported (.resourceLimit "string concatenation: a sum of the lengths that is no int")) w else .ok (.string ⟨(x ++ y).toArray⟩) w := by
  rw [run_string_add_if, ByteArray.mk_append_mk]
  show (if x.toArray.size + y.toArray.size > _ then _ else _) = _
  simp only [List.size_toArray]
@[go_sem high] theorem run_str_cut (t : TypeId) (l : List UInt8) (k k' : IntKind) (i j : Int) (h : P.underlying t = some .string) :
    (Instr.slice t (.string ⟨l.toArray⟩) (some (.int k i)) (some (.int k' j)) none).run P w =
      if 0 ≤ j ∧ j ≤ (l.length : Int) then
        (if 0 ≤ i ∧ i ≤ j then .ok (.string ⟨(sub l i.toNat j.toNat).toArray⟩) w
         else ((boundsPanic k i j.toNat .sliceB : Sem Nat).run P w).andThen fun a w' => .ok (.string ⟨(sub l a j.toNat).toArray⟩) w')
      else ((boundsPanic k' j l.length .sliceAlen : Sem Nat).run P w).andThen fun b w' =>
        ((Instr.sliceBound (.int k i) b .sliceB).run P w').andThen fun a w'' => .ok (.string ⟨(sub l a b).toArray⟩) w'' := by
  rw [run_slice_string_if w t _ k k' i j h]
  simp only [sub_data, ByteArray.size_mk', List.size_toArray]
@[go_sem high] theorem run_str_from (t : TypeId) (l : List UInt8) (k : IntKind) (i : Int) (h : P.underlying t = some .string) :
    (Instr.slice t (.string ⟨l.toArray⟩) (some (.int k i)) none none).run P w =
      if 0 ≤ i ∧ i ≤ (l.length : Int) then .ok (.string ⟨(sub l i.toNat l.length).toArray⟩) w else ((boundsPanic k i l.length .sliceB : Sem Nat).run P w).andThen fun a w' => .ok (.string ⟨(sub l a l.length).toArray⟩) w' := by
  rw [run_slice_string_from_if w t _ k i h]
  simp only [sub_data, ByteArray.size_mk', List.size_toArray]
@[go_sem high] theorem run_str_to (t : TypeId) (l : List UInt8) (k : IntKind) (j : Int) (h : P.underlying t = some .string) :
    (Instr.slice t (.string ⟨l.toArray⟩) none (some (.int k j)) none).run P w =
      if 0 ≤ j ∧ j ≤ (l.length : Int) then .ok (.string ⟨(sub l 0 j.toNat).toArray⟩) w else ((boundsPanic k j l.length .sliceAlen : Sem Nat).run P w).andThen fun a w' => .ok (.string ⟨(sub l 0 a).toArray⟩) w' := by
  rw [run_slice_string_to_if w t _ k j h]
  simp only [sub_data, ByteArray.size_mk', List.size_toArray]
@[go_sem high] theorem run_max_two (ts : Array TypeId) (t : TypeId) (k k' : IntKind) (x y : Int) : (Builtin.max_ ts t #[.int k x, .int k' y]).run P w = .ok (.int k (max x y)) w := by
  rw [run_max_int2, Int.max_def]
  congr 2
  by_cases h : x ≤ y <;> by_cases h' : y > x <;> simp [h, h'] <;> omega
@[go_sem high] theorem run_min_two (ts : Array TypeId) (t : TypeId) (k k' : IntKind) (x y : Int) : (Builtin.min_ ts t #[.int k x, .int k' y]).run P w = .ok (.int k (min x y)) w := by
  rw [run_min_int2, Int.min_def]
  congr 2
  by_cases h : x ≤ y <;> by_cases h' : y < x <;> simp [h, h'] <;> omega
end
/-- the byte that a number is cut to -/
def B8 (n : Int) : UInt8 := UInt8.ofNat n.toNat
theorem foldl_push_B8 : ∀ (ns : List Int) (r : ByteArray), ns.foldl (fun r n => r.push (UInt8.ofNat n.toNat)) r = ⟨r.data ++ (ns.map B8).toArray⟩
  | [], r => by simp
  | n :: ns, r => by
    simp only [List.foldl_cons, List.map_cons]
    rw [foldl_push_B8 ns]
    simp [ByteArray.push, B8]
section
variable {P : Program} (w : World)
theorem run_str_of_cells (src dst e : TypeId) (a : Addr) (len cap : Nat) (ns : List Int) (hn : ns.length = len) (hs : P.underlying src = some (.slice e)) (he : P.underlying e = some (.int .u8)) (hd : P.underlying dst = some .string)
    (hc : ∀ j, j < len → w.cell? (a.add j) = some (.int .u8 (ns.getD j 0))) :
    (convert src dst (.slice (some a) len cap)).run P w = .ok (.string ⟨(ns.map B8).toArray⟩) w := by
  subst hn
  rw [run_convert_bytes_string w src dst e (some a) _ cap hs he hd]
  have hl := run_loadCells_list (P := P) w a (ns.map (Value.int .u8)) (fun j v hj => by
    have hj' : j < ns.length := by
      have := (List.getElem?_eq_some_iff.1 hj).1
      simpa using this
    rw [hc j hj']
    simp [List.getElem?_eq_getElem hj'] at hj
    simp [List.getElem?_eq_getElem hj', ← hj])
  simp only [List.length_map] at hl
  rw [run_bytesToString w a ns.length cap _ hl, foldl_push_B8]
  have he0 : ByteArray.empty.data = #[] := rfl
  rw [he0]
  simp
theorem run_str_of_new (src dst e : TypeId) (f : Nat × Nat) (len cap : Nat) (ns : List Int) (hn : ns.length = len) (hs : P.underlying src = some (.slice e)) (he : P.underlying e = some (.int .u8)) (hd : P.underlying dst = some .string) :
    (convert src dst (.slice (some ⟨w.heap.size, 0, none⟩) len cap)).run P (w.alloc (.cells (ns.map (Value.int .u8)).toArray e f)) = .ok (.string ⟨(ns.map B8).toArray⟩) (w.alloc (.cells (ns.map (Value.int .u8)).toArray e f)) := by
  refine run_str_of_cells _ src dst e _ len cap ns hn hs he hd fun j hj => ?_
  have ha : (Addr.mk w.heap.size 0 none).add j = ⟨w.heap.size, j, none⟩ := by
    unfold Addr.add; split <;> simp_all
  rw [ha, World.cell?_alloc_mark]
  subst hn
  simp [hj]
@[go_sem] theorem run_str_new1 (src dst e : TypeId) (a : Int) (f : Nat × Nat) (hs : P.underlying src = some (.slice e)) (he : P.underlying e = some (.int .u8)) (hd : P.underlying dst = some .string) :
    (convert src dst (.slice (some ⟨w.heap.size, 0, none⟩) 1 1)).run P (w.alloc (.cells #[.int .u8 a] e f)) = .ok (.string ⟨[B8 a].toArray⟩) (w.alloc (.cells #[.int .u8 a] e f)) :=
  run_str_of_new w src dst e f 1 1 [a] rfl hs he hd
@[go_sem] theorem run_str_new2 (src dst e : TypeId) (a b : Int) (f : Nat × Nat) (hs : P.underlying src = some (.slice e)) (he : P.underlying e = some (.int .u8)) (hd : P.underlying dst = some .string) :
    (convert src dst (.slice (some ⟨w.heap.size, 0, none⟩) 2 2)).run P (w.alloc (.cells #[.int .u8 a, .int .u8 b] e f)) = .ok (.string ⟨[B8 a, B8 b].toArray⟩) (w.alloc (.cells #[.int .u8 a, .int .u8 b] e f)) :=
  run_str_of_new w src dst e f 2 2 [a, b] rfl hs he hd
@[go_sem] theorem run_str_new3 (src dst e : TypeId) (a b c : Int) (f : Nat × Nat) (hs : P.underlying src = some (.slice e)) (he : P.underlying e = some (.int .u8)) (hd : P.underlying dst = some .string) :
    (convert src dst (.slice (some ⟨w.heap.size, 0, none⟩) 3 3)).run P (w.alloc (.cells #[.int .u8 a, .int .u8 b, .int .u8 c] e f)) = .ok (.string ⟨[B8 a, B8 b, B8 c].toArray⟩) (w.alloc (.cells #[.int .u8 a, .int .u8 b, .int .u8 c] e f)) :=
  run_str_of_new w src dst e f 3 3 [a, b, c] rfl hs he hd
@[go_sem] theorem run_str_new4 (src dst e : TypeId) (a b c d : Int) (f : Nat × Nat) (hs : P.underlying src = some (.slice e)) (he : P.underlying e = some (.int .u8)) (hd : P.underlying dst = some .string) :
    (convert src dst (.slice (some ⟨w.heap.size, 0, none⟩) 4 4)).run P (w.alloc (.cells #[.int .u8 a, .int .u8 b, .int .u8 c, .int .u8 d] e f)) = .ok (.string ⟨[B8 a, B8 b, B8 c, B8 d].toArray⟩) (w.alloc (.cells #[.int .u8 a, .int .u8 b, .int .u8 c, .int .u8 d] e f)) :=
  run_str_of_new w src dst e f 4 4 [a, b, c, d] rfl hs he hd
end
/-- WHAT A CALL THAT WRITES NOTHING OLD LEAVES: every block that lay before it is as it was. -/
def Pur (w w' : World) : Prop := Below w.heap.size w w'
theorem Pur.refl (w : World) : Pur w w := Below.refl _ _
theorem Pur.trans {a b c : World} (h : Pur a b) (k : Pur b c) : Pur a c := Below.trans h (Below.mono k h.size)
theorem Pur.drew {a w : World} (h : Pur a w) : Pur a w.drew := Below.drew h
theorem Pur.alloc {a w : World} (h : Pur a w) (o : Obj) : Pur a (w.alloc o) := Below.alloc h h.size o
theorem Pur.drewN {a : World} (n : Nat) : ∀ {w : World}, Pur a w → Pur a (w.drewN n) := by
  intro w h; exact below_drewN h n
theorem Pur.cell {w w' : World} (h : Pur w w') {p : Addr} (hp : p.block < w.heap.size) : w'.cell? p = w.cell? p := Below.cell h hp
/-- The worlds in which nothing old has turned. -/
def PW (w : World) : Type := { w' : World // Pur w w' }
instance (w : World) : Nonempty (PW w) := ⟨⟨w, Pur.refl w⟩⟩
def PW.to {w : World} (x : PW w) : World := x.1
theorem PW.pur {w : World} (x : PW w) : Pur w x.to := x.2
/-- A REGION THAT DRAWS ITS ORDER, all of whose operations yield one value in every world in which nothing old has turned: one walk in the order of the text. -/
theorem wp_region_pur {P : Program} {id : Nat} {Q : Exit → Act → World → Prop} {a : Act} {w : World} {l : List Oper} (hm : P.follows .mixedOrders = true) (hB : Region.lexB .any l.toArray = true)
    (h : wpQuiet P l.toArray (fun w' => ∃ x : PW w, w' = x.to) (fun a' => ∀ w', Pur w w' → Q .normal a' w') l a) : (Code.region id l.toArray true).wp P Q a w := by
  refine wp_region_quiet (C := fun w' => ∃ x : PW w, w' = x.to) hm hB ⟨⟨_, (Pur.refl w).drew⟩, rfl⟩ ?_
  have : (fun a' => ∀ w', (∃ x : PW w, w' = x.to) → Q .normal a' w') = (fun a' => ∀ w', Pur w w' → Q .normal a' w') := by
    funext a'
    exact propext ⟨fun h w' hw => h w' ⟨⟨w', hw⟩, rfl⟩, fun h w' ⟨x, hx⟩ => h w' (hx ▸ x.pur)⟩
  rw [this]
  simpa using h
theorem quiet_pur {P : Program} {f : FuncId} {args : Array Value} {w : World} {x : PW w} {v : Value}
    (h : Calls P f args x.to fun e w' => e = .returned v ∧ Pur x.to w') : Calls P f args x.to fun e w'' => e = .returned v ∧ ∃ y : PW w, w'' = y.to :=
  h.mono fun _ w'' ⟨he, hm⟩ => ⟨he, ⟨w'', x.pur.trans hm⟩, rfl⟩
/-- A call that gives back the very world that it got, in such a region. -/
theorem quiet_eq {P : Program} {f : FuncId} {args : Array Value} {w : World} {x : PW w} {v : Value}
    (h : Calls P f args x.to fun e w' => e = .returned v ∧ x.to = w') : Calls P f args x.to fun e w'' => e = .returned v ∧ ∃ y : PW w, w'' = y.to :=
  h.mono fun _ _ ⟨he, hm⟩ => ⟨he, x, hm.symm⟩
theorem B8_toNat (b : UInt8) : B8 ((b.toNat : Nat) : Int) = b := by unfold B8; simp
/-- BLOCK B OF THE WORLD IS A ROW WHOSE FIRST CELLS ARE THE BYTES l, and these may be written. -/
def BRow (w : World) (B : Nat) (e : TypeId) (l : List UInt8) : Prop :=
  ∃ (C : Array Value) (f : Nat × Nat), w.heap[B]? = some (.cells C e f) ∧ l.length ≤ C.size ∧ l.length ≤ f.1 ∧ ∀ j, j < l.length → C[j]? = some (.int .u8 (by8 l j))
theorem BRow.lt {w : World} {B : Nat} {e : TypeId} {l : List UInt8} (h : BRow w B e l) : B < w.heap.size := by
  obtain ⟨C, f, h1, _⟩ := h
  exact (Array.getElem?_eq_some_iff.1 h1).1
theorem BRow.pur {w w' : World} {B : Nat} {e : TypeId} {l : List UInt8} (h : BRow w B e l) (hp : Pur w w') : BRow w' B e l := by
  have hl := h.lt
  obtain ⟨C, f, h1, h2⟩ := h
  exact ⟨C, f, (hp.block B hl).trans h1, h2⟩
theorem BRow.cell {w : World} {B : Nat} {e : TypeId} {l : List UInt8} (h : BRow w B e l) (j : Nat) (hj : j < l.length) : w.cell? ⟨B, j, none⟩ = some (.int .u8 (by8 l j)) := by
  obtain ⟨C, f, h1, _, _, h2⟩ := h
  simp only [World.cell?, h1]
  exact h2 j hj
theorem BRow.free {w : World} {B : Nat} {e : TypeId} {l : List UInt8} (h : BRow w B e l) (j : Nat) (hj : j < l.length) : w.frozen? ⟨B, j, none⟩ = false := by
  obtain ⟨C, ⟨lo, hi⟩, h1, _, h3, _⟩ := h
  simp only [World.frozen?, h1]
  simp only at h3
  simp; omega
theorem by8_set (l : List UInt8) (j k : Nat) (b : UInt8) (hj : j < l.length) : by8 (l.set j b) k = if j = k then b.toNat else by8 l k := by
  unfold by8
  by_cases h : j = k
  · subst h; simp [hj]
  · simp [h]
theorem BRow.store {w : World} {B : Nat} {e : TypeId} {l : List UInt8} (h : BRow w B e l) (j : Nat) (hj : j < l.length) (b : UInt8) : BRow (w.setCell ⟨B, j, none⟩ (.int .u8 b.toNat)) B e (l.set j b) := by
  obtain ⟨C, f, h1, h2, h3, h4⟩ := h
  refine ⟨C.setIfInBounds j (.int .u8 b.toNat), f, ?_, by simpa using h2, by simpa using h3, fun k hk => ?_⟩
  · simp [World.setCell, Array.getElem?_modify, h1]
  · rw [List.length_set] at hk
    rw [by8_set l j k b hj, Array.getElem?_setIfInBounds]
    by_cases hjk : j = k
    · subst hjk; simp; omega
    · simp only [hjk, if_false]; exact h4 k hk
theorem Pur.setCell {a w : World} (h : Pur a w) {p : Addr} (hp : a.heap.size ≤ p.block) (u : Value) : Pur a (w.setCell p u) := Below.setCell h hp u
section
variable {P : Program}
/-- '[]byte(s)': a new row of the call's own that holds the bytes. -/
theorem wpList_bytes {ops : Array Oper} {rest : List Oper} {o : Oper} {a : Act} {Q : Exit → Act → World → Prop} {w : World} (hgd : o.guard = none) (x : Operand) (src dst e : TypeId)
    (ho : o.op = .convert src dst x) (l : List UInt8) (hx : a.eval x = .string ⟨l.toArray⟩) (hs : P.underlying src = some .string) (hd : P.underlying dst = some (.slice e)) (he : P.underlying e = some (.int .u8))
    (h : ∀ cap w', Pur w w' → BRow w' w.heap.size e l → l.length ≤ cap → wpList P ops Q rest (a.put o.dst (.slice (some ⟨w.heap.size, 0, none⟩) l.length cap)) w') : wpList P ops Q (o :: rest) a w := by
  refine wpList_plain hgd fun K hK => ?_
  unfold Oper.wp
  have hr : (execOp a.eval o).run P w = .ok (.value (.slice (some ⟨w.heap.size, 0, none⟩) l.length (grownCap w l.length 0 e)))
      (w.drew.alloc (.cells (bytesRow ⟨l.toArray⟩ (grownCap w l.length 0 e)) e ((bytesRow ⟨l.toArray⟩ (grownCap w l.length 0 e)).size, (bytesRow ⟨l.toArray⟩ (grownCap w l.length 0 e)).size + 1))) := by
    have hb := run_bytes_of_string (P := P) w src dst e ⟨l.toArray⟩ hs hd he
    simp only [ByteArray.size_mk', List.size_toArray] at hb
    obtain ⟨dst', op, ty, pos, aft, g⟩ := o
    simp only at ho
    subst ho
    simp [execOp, hx, hb]
  rw [hr]
  have hge := grownCap_ge w l.length 0 e
  have hC1 : l.length ≤ (bytesRow ⟨l.toArray⟩ (grownCap w l.length 0 e)).size := by simp [bytesRow]
  have hC2 : ∀ j, j < l.length → (bytesRow ⟨l.toArray⟩ (grownCap w l.length 0 e))[j]? = some (.int .u8 (by8 l j)) := fun j hj => by simp [bytesRow, Array.getElem?_append, hj, by8]
  generalize bytesRow ⟨l.toArray⟩ (grownCap w l.length 0 e) = C at hC1 hC2
  refine hK _ _ (h _ _ ((Pur.refl w).drew.alloc _) ⟨C, (C.size, C.size + 1), ?_, hC1, hC1, hC2⟩ hge)
  show (w.heap.push _)[w.heap.size]? = _
  simp
end
end Go.Proofs.YtigfcchblfnnbaaGreatDoor
