/- Layer 8: awake. -/
import Derived.Test.YtfophnmnehpenaaDoorHm30
namespace Go.Proofs.YtfophnmnehpenaaDoor
open Go Go.RowKit
set_option linter.all false
def kKey : List UInt8 := wide8 [107]
def awP0 : Ob := Ob.fresh 1 (-1) 0 0 0 []
def awP1 : Ob := Ob.fresh 1 0 0 0 0 []
def aw1F : Nat := 4607182418800017408
def aw2F : Nat := 4611686018427387904
def aw5F : Nat := 4617315517961601024
def awA : Ob := Ob.fresh 2 (-1) 0 0 0 [Va.num' aw1F, Va.num' aw2F]
def awP0' : Ob := ⟨1, -1, 0, 0, 0, [kKey], upd (fun _ => none) kKey (some (Va.num' aw5F)), []⟩
theorem aw_e1 : (Hd.new 7).plain (-1) = ((0, 0), ⟨6, [awP0]⟩) := by
  simp [Hd.plain, Hd.add, Hd.new, cellsOf, awP0]
  rw [show max (min (max (7 : Int) 0) 10000) 0 = 7 by decide]
  rfl
theorem aw_e2 : (Hd.mk 6 [awP0]).plain 0 = ((1, 0), ⟨5, [awP0, awP1]⟩) := by
  simp [Hd.plain, Hd.add, Hd.obj, awP1]
theorem aw_e3 : (Hd.mk 5 [awP0, awP1]).array [Va.num' aw1F, Va.num' aw2F] = ((2, 0), ⟨2, [awP0, awP1, awA]⟩) := by
  simp [Hd.array, Hd.add, Va.right, Va.num', awA]
theorem aw_e4 : (Hd.mk 2 [awP0, awP1, awA]).put 0 kKey (Va.num' aw5F) = (0, ⟨1, [awP0', awP1, awA]⟩) := by
  simp [Hd.put, Hd.obj, awP0, Ob.fresh, Va.right, Va.num', Hd.turn, Ob.prop, awP0']
theorem aw_e5 : (Hd.mk 1 [awP0', awP1, awA]).get 1 kKey = (Va.num' aw5F, true) := by
  simp [Hd.get, Hd.holder, Hd.own, Hd.obj, Ob.own, awP1, Ob.fresh, awP0', upd, kKey]
theorem aw_e6 : (Hd.mk 1 [awP0', awP1, awA]).own 2 lenKey = (Va.num' (floatOfInt .f64 2), true) := by
  simp [Hd.own, Hd.obj, Ob.own, awA, Ob.fresh, Va.num']
theorem aw_e7 : (Hd.mk 1 [awP0', awP1, awA]).array [Va.num' aw1F] = ((0, 112), ⟨1, [awP0', awP1, awA]⟩) := by
  simp [Hd.array, Hd.add, Va.right, Va.num']
theorem aw_two : floatOfInt .f64 2 = aw2F := by kernel_rfl
theorem aw_wide : wide8 [108, 101, 110, 103, 116, 104] = lenKey := rfl
theorem vread_new (w : World) (vs : List Va) (cs : Array Value) (t : TypeId) (h : cs = (vs.flatMap Va.cells).toArray) : VRead (w.alloc (.cells cs t)) (.slice (some ⟨w.heap.size, 0, none⟩) vs.length vs.length) vs := by
  refine .inr ⟨w.heap.size, 0, _, rfl, by simp, fun j u hu => ?_⟩
  rw [Nat.zero_add]
  exact bk_cell (bk_new w (.cells cs t)) j u (by rw [h]; simpa using hu)
set_option maxRecDepth 100000 in
set_option maxHeartbeats 8000000 in
theorem awake_any (w : World) : Calls Tryd.prog 8 #[] w fun e w' => e = .returned (.bool true) ∧ Pur w w' := by
  have N7 := new_st 7 w
  have n1 : ∀ w, _ := fun w => num_any 4607182418800017408 w
  have n2 : ∀ w, _ := fun w => num_any 4611686018427387904 w
  have n5 : ∀ w, _ := fun w => num_any 4617315517961601024 w
  have o1 := fun w => of_any [107] w (by decide)
  have o2 := fun w => of_any [108, 101, 110, 103, 116, 104] w (by decide)
  have wf1 : (Va.num' aw1F).wf := by constructor <;> decide
  have wf2 : (Va.num' aw2F).wf := by constructor <;> decide
  have wf5 : (Va.num' aw5F).wf := by constructor <;> decide
  go_enter Tryd.func8, Tryd.ntmps8
  go_wp2_with fail
  refine N7.mono ?_
  rintro e w1 ⟨hh, rfl, A1⟩
  have P1 := plain_st A1 (-1)
  rw [aw_e1] at P1
  clear N7
  go_wp2_with fail
  refine P1.mono ?_
  rintro e w2 ⟨rfl, A2, -⟩
  have P2 := plain_st A2 0
  rw [aw_e2] at P2
  clear P1 A1
  go_wp2_with fail
  refine P2.mono ?_
  rintro e w3 ⟨rfl, A3, -⟩
  clear P2 A2
  go_wp2_with fail
  refine (n1 _).mono ?_
  rintro e w4 ⟨rfl, h4⟩
  go_wp2_with fail
  refine (n2 _).mono ?_
  rintro e w5 ⟨rfl, h5⟩
  have A5 := (A3.pure ((h4.trans h5).alloc (.cells #[.int .i64 3, .float .f64 4607182418800017408, .string ⟨#[]⟩, .int .i64 0, .int .i64 3, .float .f64 4611686018427387904, .string ⟨#[]⟩, .int .i64 0] 33))).1
  have R5 := array_st A5 _ [Va.num' aw1F, Va.num' aw2F] (vread_new w5 _ _ _ rfl) (by simp [wf1, wf2]) (by decide)
  rw [aw_e3] at R5
  clear A3 h4 h5 A5
  go_wp2_with fail
  refine R5.mono ?_
  rintro e w6 ⟨rfl, A6, -⟩
  clear R5
  go_wp2_with fail
  refine (o1 _).mono ?_
  rintro e w7 ⟨rfl, h7⟩
  go_wp2_with fail
  refine (n5 _).mono ?_
  rintro e w8 ⟨rfl, h8⟩
  have A8 := (A6.pure (h7.trans h8)).1
  have T8 := put_st A8 0 kKey (Va.num' aw5F) wf5 (by decide)
  rw [aw_e4] at T8
  simp only [Va.num', Va.v, Va.cells, aw5F] at T8
  unfold kKey at T8
  clear A6 h7 h8 A8
  go_wp2_with fail
  refine T8.mono ?_
  rintro e w9 ⟨rfl, A9, -⟩
  have G9 := get_st A9 1 kKey (by decide)
  rw [aw_e5] at G9
  simp only [Va.num', Va.v, Va.cells, aw5F] at G9
  unfold kKey at G9
  clear T8
  go_wp2_with fail
  refine G9.mono ?_
  rintro e w10 ⟨rfl, h10⟩
  have A10 := (A9.pure h10).1.keep ((Pur.refl w10).alloc (.cells #[.int .i64 3, .float .f64 4617315517961601024, .string ⟨#[]⟩, .int .i64 0] 33)) w10.heap.size (Nat.le_refl _) (by simp)
  have B10 := bk_new w10 (.cells #[.int .i64 3, .float .f64 4617315517961601024, .string ⟨#[]⟩, .int .i64 0] 33)
  clear G9 A9 h10
  go_wp2_with fail
  refine (o2 _).mono ?_
  rintro e w11 ⟨rfl, h11⟩
  have A11 := (A10.pure h11).1
  have B11 := bk_pur B10 h11
  have O11 := own_st A11 2 lenKey (by decide)
  rw [aw_e6, aw_two] at O11
  simp only [Va.num', Va.v, Va.cells, aw2F] at O11
  rw [← aw_wide] at O11
  clear A10 B10 h11
  go_wp2_with fail
  refine O11.mono ?_
  rintro e w12 ⟨rfl, h12⟩
  have A12 := (A11.pure h12).1.keep ((Pur.refl w12).alloc (.cells #[.int .i64 3, .float .f64 4611686018427387904, .string ⟨#[]⟩, .int .i64 0] 33)) w12.heap.size (Nat.le_refl _) (by simp)
  have B12 := bk_alloc (bk_pur B11 h12) (.cells #[.int .i64 3, .float .f64 4611686018427387904, .string ⟨#[]⟩, .int .i64 0] 33)
  have C12 := bk_new w12 (.cells #[.int .i64 3, .float .f64 4611686018427387904, .string ⟨#[]⟩, .int .i64 0] 33)
  clear O11 A11 B11 h12
  go_wp2_with fail
  refine (n1 _).mono ?_
  rintro e w13 ⟨rfl, h13⟩
  have A13 := (A12.pure (h13.alloc (.cells #[.int .i64 3, .float .f64 4607182418800017408, .string ⟨#[]⟩, .int .i64 0] 33))).1
  have B13 := bk_pur B12 (h13.alloc (.cells #[.int .i64 3, .float .f64 4607182418800017408, .string ⟨#[]⟩, .int .i64 0] 33))
  have C13 := bk_pur C12 (h13.alloc (.cells #[.int .i64 3, .float .f64 4607182418800017408, .string ⟨#[]⟩, .int .i64 0] 33))
  have R13 := array_st A13 _ [Va.num' aw1F] (vread_new w13 _ _ _ rfl) (by simp [wf1]) (by decide)
  rw [aw_e7] at R13
  clear A12 A13 B12 C12 h13
  go_wp2_with fail
  refine R13.mono ?_
  rintro e w14 ⟨rfl, A14, K14⟩
  have q10 := bk_cell ((K14 w10.heap.size (.inl (.inr rfl))).trans B13) 1 _ rfl
  have q12 := bk_cell ((K14 w12.heap.size (.inr rfl)).trans C13) 1 _ rfl
  have hp := A14.pur
  clear R13 A14 K14 B13 C13 n1 n2 n5 o1 o2
  go_wp2
  go_ret
  exact ⟨rfl, hp⟩
end Go.Proofs.YtfophnmnehpenaaDoor
