/- Layer 8: a heap of a law's own, and what its calls leave. Layer 8: awake. -/
import Derived.Test.YtfophnmnehpenaaDoorHA8
import Derived.Test.YtfophnmnehpenaaDoorHA4
import Derived.Test.YtfophnmnehpenaaDoorHp4
namespace Go.Proofs.YtfophnmnehpenaaDoor
open Go Go.RowKit
set_option linter.all false
/-- a heap that was made behind w0, at block hh; the blocks of K are not its own -/
structure At (w0 : World) (hh G : Nat) (K : Nat → Prop) (w : World) (d : Hd) : Prop where
  ex : ∃ s, HpAt w s ∧ s.h = hh ∧ s.d = d ∧ (∀ b ∈ s.blocks, w0.heap.size ≤ b) ∧ ∀ b, K b → b < w.heap.size ∧ b ∉ s.blocks
  ok : d.Ok G
  pur : Pur w0 w
def Kept (K : Nat → Prop) (w w' : World) : Prop := ∀ b, K b → w'.heap[b]? = w.heap[b]?
theorem Kept.trans {K : Nat → Prop} {w w1 w2 : World} (h : Kept K w w1) (k : Kept K w1 w2) : Kept K w w2 := fun b hb => (k b hb).trans (h b hb)
theorem At.pure {w0 w w' : World} {hh G : Nat} {K : Nat → Prop} {d : Hd} (h : At w0 hh G K w d) (hp : Pur w w') : At w0 hh G K w' d ∧ Kept K w w' := by
  obtain ⟨s, h1, h2, h3, h4, h5⟩ := h.ex
  exact ⟨⟨⟨s, h1.pur hp, h2, h3, h4, fun b hb => ⟨Nat.lt_of_lt_of_le (h5 b hb).1 hp.size, (h5 b hb).2⟩⟩, h.ok, h.pur.trans hp⟩, fun b hb => hp.block b (h5 b hb).1⟩
theorem At.next {w0 w w' : World} {hh G : Nat} {K : Nat → Prop} {d d' : Hd} (h : At w0 hh G K w d) (hok : d'.Ok G) {s s' : Hs} (h1 : HpAt w s) (h2 : s.h = hh) (h4 : ∀ b ∈ s.blocks, w0.heap.size ≤ b) (h5 : ∀ b, K b → b < w.heap.size ∧ b ∉ s.blocks)
    (k1 : HpAt w' s') (k2 : Step w s w' s') (k3 : s'.d = d') : At w0 hh G K w' d' ∧ Kept K w w' := by
  refine ⟨⟨⟨s', k1, k2.h.trans h2, k3, fun b hb => ?_, fun b hb => ⟨Nat.lt_of_lt_of_le (h5 b hb).1 k2.chg.size, fun hm => ?_⟩⟩, hok, ?_⟩, fun b hb => k2.chg.block b (h5 b hb).1 (h5 b hb).2⟩
  · rcases k2.new b hb with hb | hb
    · exact h4 b hb
    · exact Nat.le_trans h.pur.size hb
  · rcases k2.new b hm with hm | hm
    · exact (h5 b hb).2 hm
    · have := (h5 b hb).1; omega
  · have hc := k2.chg
    exact ⟨hc.os.trans h.pur.os, hc.tape.trans h.pur.tape, hc.output.trans h.pur.output, Nat.le_trans h.pur.size hc.size, fun k hk => (hc.block k (Nat.lt_of_lt_of_le hk h.pur.size) (fun hm => by have := h4 k hm; omega)).trans (h.pur.block k hk)⟩
/-- one more block that is not the heap's -/
theorem At.keep {w0 w w' : World} {hh G : Nat} {K : Nat → Prop} {d : Hd} (h : At w0 hh G K w d) (hp : Pur w w') (b : Nat) (hb : w.heap.size ≤ b) (hb' : b < w'.heap.size) : At w0 hh G (fun k => K k ∨ k = b) w' d := by
  obtain ⟨s, h1, h2, h3, h4, h5⟩ := h.ex
  refine ⟨⟨s, h1.pur hp, h2, h3, h4, fun k hk => ?_⟩, h.ok, h.pur.trans hp⟩
  rcases hk with hk | rfl
  · exact ⟨Nat.lt_of_lt_of_le (h5 k hk).1 hp.size, (h5 k hk).2⟩
  · exact ⟨hb', fun hm => by have := h1.lt _ hm; omega⟩
theorem At.sub {w0 w : World} {hh G : Nat} {K K' : Nat → Prop} {d : Hd} (h : At w0 hh G K w d) (hk : ∀ b, K' b → K b) : At w0 hh G K' w d := by
  obtain ⟨s, h1, h2, h3, h4, h5⟩ := h.ex
  exact ⟨⟨s, h1, h2, h3, h4, fun b hb => h5 b (hk b hb)⟩, h.ok, h.pur⟩
theorem plain_st {w0 w : World} {hh G : Nat} {K : Nat → Prop} {d : Hd} (h : At w0 hh G K w d) (p : Int) :
    Calls Tryd.prog 21 #[.pointer (some ⟨hh, 0, none⟩), .int .i64 p] w fun e w' => e = .returned (.tuple #[.int .i64 (d.plain p).1.1, .int .i64 (d.plain p).1.2]) ∧ At w0 hh G K w' (d.plain p).2 ∧ Kept K w w' := by
  obtain ⟨s, h1, h2, h3, h4, h5⟩ := h.ex
  subst h2 h3
  refine (plain_any s p w h1 h.ok).mono ?_
  rintro e w' ⟨rfl, s', k1, k2, k3⟩
  exact ⟨rfl, h.next (h.ok.plain p) h1 rfl h4 h5 k1 k2 k3⟩
theorem array_st {w0 w : World} {hh G : Nat} {K : Nat → Prop} {d : Hd} (h : At w0 hh G K w d) (v : Value) (vs : List Va) (hv : VRead w v vs) (hwf : ∀ x ∈ vs, x.wf) (hn : vs.length ≤ 1000000) :
    Calls Tryd.prog 15 #[.pointer (some ⟨hh, 0, none⟩), v] w fun e w' => e = .returned (.tuple #[.int .i64 (d.array vs).1.1, .int .i64 (d.array vs).1.2]) ∧ At w0 hh G K w' (d.array vs).2 ∧ Kept K w w' := by
  obtain ⟨s, h1, h2, h3, h4, h5⟩ := h.ex
  subst h2 h3
  refine (array_any s v vs w h1 hv hwf hn h.ok).mono ?_
  rintro e w' ⟨rfl, s', k1, k2, k3⟩
  exact ⟨rfl, h.next (h.ok.array vs) h1 rfl h4 h5 k1 k2 k3⟩
theorem put_st {w0 w : World} {hh G : Nat} {K : Nat → Prop} {d : Hd} (h : At w0 hh G K w d) (i : Int) (key : List UInt8) (v : Va) (hvw : v.wf) (hkl : key.length ≤ 1000000) :
    Calls Tryd.prog 16 #[.pointer (some ⟨hh, 0, none⟩), .int .i64 i, .string ⟨key.toArray⟩, v.v] w fun e w' => e = .returned (.int .i64 (d.put i key v).1) ∧ At w0 hh G K w' (d.put i key v).2 ∧ Kept K w w' := by
  obtain ⟨s, h1, h2, h3, h4, h5⟩ := h.ex
  subst h2 h3
  refine (put_any s i key v w h1 h.ok hvw hkl).mono ?_
  rintro e w' ⟨rfl, s', k1, k2, k3, -⟩
  exact ⟨rfl, h.next (h.ok.put i key v) h1 rfl h4 h5 k1 k2 k3⟩
theorem get_st {w0 w : World} {hh G : Nat} {K : Nat → Prop} {d : Hd} (h : At w0 hh G K w d) (i : Int) (key : List UInt8) (hkl : key.length ≤ 1000000) :
    Calls Tryd.prog 22 #[.pointer (some ⟨hh, 0, none⟩), .int .i64 i, .string ⟨key.toArray⟩] w fun e w' => e = .returned (.tuple #[(d.get i key).1.v, .bool (d.get i key).2]) ∧ Pur w w' := by
  obtain ⟨s, h1, h2, h3, h4, h5⟩ := h.ex
  subst h2 h3
  exact get_any s i key w h1 h.ok hkl
theorem own_st {w0 w : World} {hh G : Nat} {K : Nat → Prop} {d : Hd} (h : At w0 hh G K w d) (i : Int) (key : List UInt8) (hkl : key.length ≤ 1000000) :
    Calls Tryd.prog 20 #[.pointer (some ⟨hh, 0, none⟩), .int .i64 i, .string ⟨key.toArray⟩] w fun e w' => e = .returned (.tuple #[(d.own i key).1.v, .bool (d.own i key).2]) ∧ Pur w w' := by
  obtain ⟨s, h1, h2, h3, h4, h5⟩ := h.ex
  subst h2 h3
  exact own_any s i key w h1 h.ok hkl
def cellsOf (c : Int) : Nat := (min (max c 0) 10000).toNat
def Hd.new (c : Int) : Hd := ⟨cellsOf c, []⟩
set_option maxRecDepth 100000 in
theorem new_st (c : Int) (w : World) : Calls Tryd.prog 13 #[.int .i64 c] w fun e w' => ∃ hh, e = .returned (.pointer (some ⟨hh, 0, none⟩)) ∧ At w hh (cellsOf c) (fun _ => False) w' (Hd.new c) := by
  have hfin : At w w.heap.size (cellsOf c) (fun _ => False) (w.alloc (.cells #[.slice none 0 0, .int .i64 (min (max c 0) 10000)] 72)) (Hd.new c) := by
    have e : ((cellsOf c : Nat) : Int) = min (max c 0) 10000 := by unfold cellsOf; omega
    refine ⟨⟨⟨w.heap.size, .slice none 0 0, [], min (max c 0) 10000, []⟩, ⟨bk_new _ _, World.ownsRow_nil _ _ _ _, rfl, fun i p x hp => by simp at hp, by simp [Hs.blocks, Value.ownBlock]⟩, rfl, ?_, ?_, fun b hb => hb.elim⟩, ?_, (Pur.refl w).alloc _⟩
    · simp [Hs.d, Hd.new, e]
    · intro b hb
      simp [Hs.blocks, Value.ownBlock] at hb
      omega
    · refine ⟨by simp [Hd.new], by simp [Hd.new, Hd.taken], by unfold cellsOf; omega, fun i x hx => by simp [Hd.new] at hx⟩
  go_enter Tryd.func13, Tryd.ntmps13
  go_wp2
  go_ret
  exact ⟨_, rfl, hfin⟩
def Va.num' (x : Nat) : Va := ⟨3, x, [], 0⟩
theorem num_any (x : Nat) (w : World) : Calls Tryd.prog 14 #[.float .f64 x] w fun e w' => e = .returned (.agg #[.int .i64 3, .float .f64 x, .string ⟨#[]⟩, .int .i64 0]) ∧ Pur w w' := by
  go_enter Tryd.func14, Tryd.ntmps14
  go_wp2_with fail
  refine bodyPost_ret (v := .agg #[.int .i64 3, .float .f64 x, .string ⟨#[]⟩, .int .i64 0]) (by simp [results, Tryd.results14, go_sem]) rfl ⟨rfl, ?_⟩
  repeat (first | exact Pur.refl _ | with_reducible refine Pur.setCell ?_ (Nat.le_refl _) _ | with_reducible refine Pur.alloc ?_ _)
end Go.Proofs.YtfophnmnehpenaaDoor
namespace Go.Proofs.YtfophnmnehpenaaDoor
open Go Go.RowKit
set_option linter.all false
def kKey : List UInt8 := wide8 [107]
def awP0 : Ob := Ob.fresh 1 (-1) 0 0 0 []
def awP1 : Ob := Ob.fresh 1 0 0 0 0 []
def aw1F : Nat := 4607182418800017408
def aw2F : Nat := 4611686018427387904
def aw5F : Nat := 4617315517961601024
def awA : Ob := Ob.fresh 2 (-1) 0 0 0 [Va.num' aw1F, Va.num' aw2F]
def awP0' : Ob := ⟨1, -1, 0, 0, 0, [kKey], upd (fun _ => none) kKey (some (Va.num' aw5F)), []⟩
theorem aw_e1 : (Hd.new 7).plain (-1) = ((0, 0), ⟨6, [awP0]⟩) := by
  simp [Hd.plain, Hd.add, Hd.new, cellsOf, awP0]
  rw [show max (min (max (7 : Int) 0) 10000) 0 = 7 by decide]
  rfl
theorem aw_e2 : (Hd.mk 6 [awP0]).plain 0 = ((1, 0), ⟨5, [awP0, awP1]⟩) := by
  simp [Hd.plain, Hd.add, Hd.obj, awP1]
theorem aw_e3 : (Hd.mk 5 [awP0, awP1]).array [Va.num' aw1F, Va.num' aw2F] = ((2, 0), ⟨2, [awP0, awP1, awA]⟩) := by
  simp [Hd.array, Hd.add, Va.right, Va.num', awA]
theorem aw_e4 : (Hd.mk 2 [awP0, awP1, awA]).put 0 kKey (Va.num' aw5F) = (0, ⟨1, [awP0', awP1, awA]⟩) := by
  simp [Hd.put, Hd.obj, awP0, Ob.fresh, Va.right, Va.num', Hd.turn, Ob.prop, awP0']
theorem aw_e5 : (Hd.mk 1 [awP0', awP1, awA]).get 1 kKey = (Va.num' aw5F, true) := by
  simp [Hd.get, Hd.holder, Hd.own, Hd.obj, Ob.own, awP1, Ob.fresh, awP0', upd, kKey]
theorem aw_e6 : (Hd.mk 1 [awP0', awP1, awA]).own 2 lenKey = (Va.num' (floatOfInt .f64 2), true) := by
  simp [Hd.own, Hd.obj, Ob.own, awA, Ob.fresh, Va.num']
theorem aw_e7 : (Hd.mk 1 [awP0', awP1, awA]).array [Va.num' aw1F] = ((0, 112), ⟨1, [awP0', awP1, awA]⟩) := by
  simp [Hd.array, Hd.add, Va.right, Va.num']
theorem aw_two : floatOfInt .f64 2 = aw2F := by kernel_rfl
theorem aw_wide : wide8 [108, 101, 110, 103, 116, 104] = lenKey := rfl
theorem vread_new (w : World) (vs : List Va) (cs : Array Value) (t : TypeId) (h : cs = (vs.flatMap Va.cells).toArray) : VRead (w.alloc (.cells cs t)) (.slice (some ⟨w.heap.size, 0, none⟩) vs.length vs.length) vs := by
  refine .inr ⟨w.heap.size, 0, _, rfl, by simp, fun j u hu => ?_⟩
  rw [Nat.zero_add]
  exact bk_cell (bk_new w (.cells cs t)) j u (by rw [h]; simpa using hu)
set_option maxRecDepth 100000 in
set_option maxHeartbeats 8000000 in
theorem awake_any (w : World) : Calls Tryd.prog 8 #[] w fun e w' => e = .returned (.bool true) ∧ Pur w w' := by
  have N7 := new_st 7 w
  have n1 : ∀ w, _ := fun w => num_any 4607182418800017408 w
  have n2 : ∀ w, _ := fun w => num_any 4611686018427387904 w
  have n5 : ∀ w, _ := fun w => num_any 4617315517961601024 w
  have o1 := fun w => of_any [107] w (by decide)
  have o2 := fun w => of_any [108, 101, 110, 103, 116, 104] w (by decide)
  have wf1 : (Va.num' aw1F).wf := by constructor <;> decide
  have wf2 : (Va.num' aw2F).wf := by constructor <;> decide
  have wf5 : (Va.num' aw5F).wf := by constructor <;> decide
  go_enter Tryd.func8, Tryd.ntmps8
  go_wp2_with fail
  refine N7.mono ?_
  rintro e w1 ⟨hh, rfl, A1⟩
  have P1 := plain_st A1 (-1)
  rw [aw_e1] at P1
  clear N7
  go_wp2_with fail
  refine P1.mono ?_
  rintro e w2 ⟨rfl, A2, -⟩
  have P2 := plain_st A2 0
  rw [aw_e2] at P2
  clear P1 A1
  go_wp2_with fail
  refine P2.mono ?_
  rintro e w3 ⟨rfl, A3, -⟩
  clear P2 A2
  go_wp2_with fail
  refine (n1 _).mono ?_
  rintro e w4 ⟨rfl, h4⟩
  go_wp2_with fail
  refine (n2 _).mono ?_
  rintro e w5 ⟨rfl, h5⟩
  have A5 := (A3.pure ((h4.trans h5).alloc (.cells #[.int .i64 3, .float .f64 4607182418800017408, .string ⟨#[]⟩, .int .i64 0, .int .i64 3, .float .f64 4611686018427387904, .string ⟨#[]⟩, .int .i64 0] 33))).1
  have R5 := array_st A5 _ [Va.num' aw1F, Va.num' aw2F] (vread_new w5 _ _ _ rfl) (by simp [wf1, wf2]) (by decide)
  rw [aw_e3] at R5
  clear A3 h4 h5 A5
  go_wp2_with fail
  refine R5.mono ?_
  rintro e w6 ⟨rfl, A6, -⟩
  clear R5
  go_wp2_with fail
  refine (o1 _).mono ?_
  rintro e w7 ⟨rfl, h7⟩
  go_wp2_with fail
  refine (n5 _).mono ?_
  rintro e w8 ⟨rfl, h8⟩
  have A8 := (A6.pure (h7.trans h8)).1
  have T8 := put_st A8 0 kKey (Va.num' aw5F) wf5 (by decide)
  rw [aw_e4] at T8
  simp only [Va.num', Va.v, Va.cells, aw5F] at T8
  unfold kKey at T8
  clear A6 h7 h8 A8
  go_wp2_with fail
  refine T8.mono ?_
  rintro e w9 ⟨rfl, A9, -⟩
  have G9 := get_st A9 1 kKey (by decide)
  rw [aw_e5] at G9
  simp only [Va.num', Va.v, Va.cells, aw5F] at G9
  unfold kKey at G9
  clear T8
  go_wp2_with fail
  refine G9.mono ?_
  rintro e w10 ⟨rfl, h10⟩
  have A10 := (A9.pure h10).1.keep ((Pur.refl w10).alloc (.cells #[.int .i64 3, .float .f64 4617315517961601024, .string ⟨#[]⟩, .int .i64 0] 33)) w10.heap.size (Nat.le_refl _) (by simp)
  have B10 := bk_new w10 (.cells #[.int .i64 3, .float .f64 4617315517961601024, .string ⟨#[]⟩, .int .i64 0] 33)
  clear G9 A9 h10
  go_wp2_with fail
  refine (o2 _).mono ?_
  rintro e w11 ⟨rfl, h11⟩
  have A11 := (A10.pure h11).1
  have B11 := bk_pur B10 h11
  have O11 := own_st A11 2 lenKey (by decide)
  rw [aw_e6, aw_two] at O11
  simp only [Va.num', Va.v, Va.cells, aw2F] at O11
  rw [← aw_wide] at O11
  clear A10 B10 h11
  go_wp2_with fail
  refine O11.mono ?_
  rintro e w12 ⟨rfl, h12⟩
  have A12 := (A11.pure h12).1.keep ((Pur.refl w12).alloc (.cells #[.int .i64 3, .float .f64 4611686018427387904, .string ⟨#[]⟩, .int .i64 0] 33)) w12.heap.size (Nat.le_refl _) (by simp)
  have B12 := bk_alloc (bk_pur B11 h12) (.cells #[.int .i64 3, .float .f64 4611686018427387904, .string ⟨#[]⟩, .int .i64 0] 33)
  have C12 := bk_new w12 (.cells #[.int .i64 3, .float .f64 4611686018427387904, .string ⟨#[]⟩, .int .i64 0] 33)
  clear O11 A11 B11 h12
  go_wp2_with fail
  refine (n1 _).mono ?_
  rintro e w13 ⟨rfl, h13⟩
  have A13 := (A12.pure (h13.alloc (.cells #[.int .i64 3, .float .f64 4607182418800017408, .string ⟨#[]⟩, .int .i64 0] 33))).1
  have B13 := bk_pur B12 (h13.alloc (.cells #[.int .i64 3, .float .f64 4607182418800017408, .string ⟨#[]⟩, .int .i64 0] 33))
  have C13 := bk_pur C12 (h13.alloc (.cells #[.int .i64 3, .float .f64 4607182418800017408, .string ⟨#[]⟩, .int .i64 0] 33))
  have R13 := array_st A13 _ [Va.num' aw1F] (vread_new w13 _ _ _ rfl) (by simp [wf1]) (by decide)
  rw [aw_e7] at R13
  clear A12 A13 B12 C12 h13
  go_wp2_with fail
  refine R13.mono ?_
  rintro e w14 ⟨rfl, A14, K14⟩
  have q10 := bk_cell ((K14 w10.heap.size (.inl (.inr rfl))).trans B13) 1 _ rfl
  have q12 := bk_cell ((K14 w12.heap.size (.inr rfl)).trans C13) 1 _ rfl
  have hp := A14.pur
  clear R13 A14 K14 B13 C13 n1 n2 n5 o1 o2
  go_wp2
  go_ret
  exact ⟨rfl, hp⟩
end Go.Proofs.YtfophnmnehpenaaDoor
