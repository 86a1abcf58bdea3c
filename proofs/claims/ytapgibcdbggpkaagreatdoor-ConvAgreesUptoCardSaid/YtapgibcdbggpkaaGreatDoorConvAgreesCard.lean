/- THE CARD OF ConvAgrees (the second form): for every input of the bulk that the row names the law returns true, and each argument reads as it did; the listed tables as their text lays them. -/
import Derived.Test.YtapgibcdbggpkaaGreatDoorCvV
import Derived.Test.YtapgibcdbggpkaaGreatDoorCvO
import Derived.Test.YtapgibcdbggpkaaGreatDoorCvF
namespace Go.Proofs.YtapgibcdbggpkaaGreatDoor.lawConvAgrees
open Go Go.RowKit Go.ChangeShapes Go.WideShapes Go.ChangeAt Go.Proofs.YtapgibcdbggpkaaGreatDoor
set_option linter.all false
set_option maxRecDepth 100000 in
theorem contract (H : Type) (enc : TypeId × Value → H) (W : World) (base : Nat) (args : Array Value) (ds gs : List (DataW H)) (before : List MemPlace)
    (hval : ∀ (j : Nat) t v, Tryz.f3.params[j]? = some t → args[j]? = some v → Value.okWide Tryz.prog W .any base t v)
    (hW0 : DataW.Whole enc Tryz.prog Tryz.f3.params.toList Rows.convAgreesSpec.vars false W args.toList ds gs before)
    (_hz : (DataW.weightsEach Tryz.prog (Tryz.f3.params.toList ++ (OpenSpec.ofChange Rows.convAgreesSpec).bare.plain.varTypes Tryz.prog) (ds ++ gs)).all (· ≤ reachBytes) = true) (hSh : W.ShapedOpen Tryz.prog) (hL : laidMetH Tryz.prog Rows.convAgreesUptoRow.laid W) (hk : Rows.uptoSmall H (ds ++ gs) = true) :
    Calls Tryz.prog 3 args W fun e W' => ∃ v, e = .returned v ∧ Rows.convAgreesSpec.post enc Tryz.prog Tryz.f3 false true false false W args v W' := by
  have hW := hW0
  obtain ⟨p, q, hA0, hV, rfl, hfz, hnd⟩ := hW
  have hA : DataW.TrodAll enc Tryz.prog W 0 (fun _ => true) true Tryz.f3.params.toList args.toList ds p := hA0
  rw [Tryz.params3] at hA hval
  obtain ⟨v0, vs0, d0, ds0, p0, q0, hargs, rfl, rfl, h0, r0⟩ := trodAll_cons hA
  obtain ⟨v1, vs1, d1, ds1, p1, q1, rfl, rfl, rfl, h1, r1⟩ := trodAll_cons r0
  obtain ⟨v2, vs2, d2, ds2, p2, q2, rfl, rfl, rfl, h2, r2⟩ := trodAll_cons r1
  obtain ⟨rfl, rfl, rfl⟩ := trodAll_nil r2
  obtain rfl : args = #[v0, v1, v2] := by cases args; simp_all
  obtain ⟨rfl, rfl⟩ := trodVars_none hV
  obtain ⟨c0, hR0, hn0, hf0⟩ := open_steps (hval 0 22 v0 rfl rfl) h0 (by have := bulk_bound hk; simp only [List.append_nil, Rows.uptoBulkAll, Rows.uptoBulk] at this; omega)
  obtain ⟨a1, rfl, ah1, ab1⟩ := open_val (hval 1 25 v1 rfl rfl) h1
  obtain ⟨a2, rfl, ah2, ab2⟩ := open_val (hval 2 25 v2 rfl rfl) h2
  clear hA0 hA
  have walk := Cv.agrees_law v0 c0 a1 a2 W ⟨ah1, (by have := bulk_bound hk; simp only [List.append_nil, Rows.uptoBulkAll, Rows.uptoBulk] at this; omega)⟩ ⟨ah2, (by have := bulk_bound hk; simp only [List.append_nil, Rows.uptoBulkAll, Rows.uptoBulk] at this; omega)⟩ (Ft.cw_of hSh hL) hR0 hf0 (by have := bulk_bound hk; simp only [List.append_nil, Rows.uptoBulkAll, Rows.uptoBulk] at this; omega)
  refine walk.mono fun e W' ⟨he, hg⟩ => ?_
  subst he
  exact ⟨_, rfl, law_post rfl rfl (by kernel_rfl) rfl hW0 hg⟩
noncomputable def world (os : Os) : World := layWorld os
theorem reads (os : Os) {H : Type} (enc : TypeId × Value → H) : ∃ places, DataW.whole enc Tryz.prog ((world os).forCall (fun _ _ => 0) ⟨#[], #[.slice none 0 0, .agg #[.int .i64 0, .float .f64 0, .string ⟨#[]⟩, .int .i64 0], .agg #[.int .i64 0, .float .f64 0, .string ⟨#[]⟩, .int .i64 0]], []⟩).memory Tryz.f3.params.toList Rows.convAgreesSpec.vars false (#[.slice none 0 0, .agg #[.int .i64 0, .float .f64 0, .string ⟨#[]⟩, .int .i64 0], .agg #[.int .i64 0, .float .f64 0, .string ⟨#[]⟩, .int .i64 0]] : Array Value).toList 8 = some ([.nil, .agg [.lit (.int .i64 0), .lit (.float .f64 0), .lit (.string []), .lit (.int .i64 0)], .agg [.lit (.int .i64 0), .lit (.float .f64 0), .lit (.string []), .lit (.int .i64 0)]], [], places) :=
  ⟨[], by kernel_rfl⟩
set_option maxRecDepth 100000 in
theorem lifted (os : Os) (started : os.Started) (H : Type) (enc : TypeId × Value → H) (F : Stop.Interp) :
    ReturnsInHanded {} Tryz.checked os 3 .any ((Rows.OpenSpec.upto Rows.convAgreesSpec).preRow enc Tryz.prog Tryz.f3 Rows.convAgreesUptoRow.domain false Rows.convAgreesUptoRow.laid) (((Rows.OpenSpec.upto Rows.convAgreesSpec).at F).post enc Tryz.prog Tryz.f3 false true false false) := by
  obtain ⟨places, hx⟩ := reads os enc
  refine returnsInHanded_of_row (C := Tryz.checked) (s := (Rows.OpenSpec.upto Rows.convAgreesSpec)) own started (by kernel_rfl) Tryz.func3
    (witness_shape (enc := enc) (C := Tryz.checked) false (world os) #[.slice none 0 0, .agg #[.int .i64 0, .float .f64 0, .string ⟨#[]⟩, .int .i64 0], .agg #[.int .i64 0, .float .f64 0, .string ⟨#[]⟩, .int .i64 0]] (layWorld_os _) (w_shape os _) (by kernel_rfl)
      (OpenSpec.preRow_of_cond 8 hx (by kernel_rfl) (fun k hk => by cases hk; kernel_rfl) (by kernel_rfl) (layWorld_met os _))) ?_
  intro W base args ds gs before hval hW _ hcond hz hL hSh _
  exact contract H enc W base args ds gs before hval hW hz hSh hL (hcond _ rfl)
theorem said : Rows.ConvAgreesUptoSaid :=
  OpenClaim.holds_of_cond 3 Tryz.f3 rfl rfl rfl rfl rfl rfl rfl ⟨rfl, rfl, rfl, rfl, rfl⟩ rfl rfl rfl rfl rfl (by kernel_rfl) Tryz.func3 (by kernel_rfl)
    (of_decide_eq_true (by kernel_rfl)) (by unfold Func.isWrapper; first | (rw [if_pos (by decide +kernel)]; kernel_rfl) | (rw [if_neg (by decide +kernel)]; exact ⟨rfl, rfl⟩))
    (fun os started H enc _ F => by rw [OpenClaim.pre_eq_preRow]; exact lifted os started H enc F)
theorem plain (f : FuncId) (fn : Func) (hf : Tryz.pinned.checked.prog.funcNamed Rows.convAgreesUptoRow.func = some f) (hfn : Tryz.pinned.checked.prog.funcs[f]? = some fn) :
    true = Tryz.pinned.checked.prog.looks [] ∧ ∀ (j : Nat) t, fn.params[j]? = some t → Tryz.pinned.checked.prog.wantsStandIn t = false := by
  obtain rfl : f = 3 := Option.some.inj ((show Tryz.prog.funcNamed Rows.convAgreesUptoRow.func = some 3 by kernel_rfl).symm.trans hf) |>.symm
  obtain rfl : fn = Tryz.f3 := (Option.some.inj (Tryz.func3.symm.trans hfn)).symm
  refine ⟨by kernel_rfl, fun j t ht => ?_⟩
  rw [Tryz.params3] at ht
  have hm : t ∈ [22, 25, 25] := by simpa using Array.mem_of_getElem? ht
  have hall : ([22, 25, 25].all fun u => !Tryz.prog.wantsStandIn u) = true := by kernel_rfl
  exact (show Tryz.prog.wantsStandIn t = false by simpa using List.all_eq_true.1 hall t hm)
theorem card : Rows.ConvAgreesUptoCardSaid :=
  Claim7.holds_tied_plain_at .later [] _ _ _ _ said (fun _ h => by cases h) (by kernel_rfl) (fun _ h => by cases h) convAgreesUpto_row_tie rfl ⟨rfl, rfl⟩ (by kernel_rfl) rfl plain (by kernel_rfl)
#print axioms card
end Go.Proofs.YtapgibcdbggpkaaGreatDoor.lawConvAgrees
