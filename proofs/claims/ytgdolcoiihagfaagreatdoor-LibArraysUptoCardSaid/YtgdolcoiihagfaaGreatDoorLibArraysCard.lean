/- THE CARD OF LibArrays (the second form): for every input of the bulk that the row names the law returns true, and each argument reads as it did; the listed tables as their text lays them. -/
import Derived.Test.YtgdolcoiihagfaaGreatDoorCvV
import Derived.Test.YtgdolcoiihagfaaGreatDoorLiH
import Derived.Test.YtgdolcoiihagfaaGreatDoorLaO
import Derived.Test.YtgdolcoiihagfaaGreatDoorLaLaw
namespace Go.Proofs.YtgdolcoiihagfaaGreatDoor.lawLibArrays
open Go Go.RowKit Go.ChangeShapes Go.WideShapes Go.ChangeAt Go.Proofs.YtgdolcoiihagfaaGreatDoor
set_option linter.all false
set_option maxRecDepth 100000
set_option maxHeartbeats 100000000
theorem contract (H:Type) (enc:TypeId × Value→H) (W:World) (base:Nat) (args:Array Value) (ds gs:List (DataW H)) (before:List MemPlace)
   (hval:∀ (j:Nat) t v,Tryz.f3.params[j]?=some t→args[j]?=some v→Value.okWide Tryz.prog W .any base t v)
   (hW0:DataW.Whole enc Tryz.prog Tryz.f3.params.toList Rows.libArraysSpec.vars false W args.toList ds gs before)
   (_hz:(DataW.weightsEach Tryz.prog (Tryz.f3.params.toList ++ (OpenSpec.ofChange Rows.libArraysSpec).bare.plain.varTypes Tryz.prog) (ds ++ gs)).all (·≤reachBytes)=true) (hSh:W.ShapedOpen Tryz.prog) (hL:laidMetH Tryz.prog Rows.libArraysUptoRow.laid W) (hk:Rows.uptoSmall H (ds ++ gs)=true) :
   Calls Tryz.prog 3 args W fun e W'=>∃ v,e=.returned v∧Rows.libArraysSpec.post enc Tryz.prog Tryz.f3 false true false false W args v W':=by
 have hW:=hW0
 obtain ⟨p,q,hA0,hV,rfl,hfz,hnd⟩:=hW
 have hA:DataW.TrodAll enc Tryz.prog W 0 (fun _=>true) true Tryz.f3.params.toList args.toList ds p:=hA0
 rw [Tryz.params3] at hA hval
 obtain ⟨v0,vs0,d0,ds0,p0,q0,hargs,rfl,rfl,h0,r0⟩:=trodAll_cons hA
 obtain ⟨v1,vs1,d1,ds1,p1,q1,rfl,rfl,rfl,h1,r1⟩:=trodAll_cons r0
 obtain ⟨rfl,rfl,rfl⟩:=trodAll_nil r1
 obtain rfl:args=#[v0,v1]:=by cases args;simp_all
 obtain ⟨rfl,rfl⟩:=trodVars_none hV
 obtain ⟨c0,hR0,hn0⟩:=open_vals (hval 0 22 v0 rfl rfl) h0
 obtain ⟨a1,rfl,ah1,ab1⟩:=open_val (hval 1 25 v1 rfl rfl) h1
 clear hA0 hA
 have walk:=Li.arrays_law v0 c0 a1 W hR0 hn0 ah1 (Li.lb_of hSh hL)
 refine walk.mono fun e W' ⟨he,hg⟩=>?_
 subst he
 exact ⟨_,rfl,law_post rfl rfl (by kernel_rfl) rfl hW0 hg⟩
noncomputable def world (os:Os):World:=layWorld os
theorem reads (os:Os) {H:Type} (enc:TypeId × Value→H):∃ places,DataW.whole enc Tryz.prog ((world os).forCall (fun _ _=>0) ⟨#[],#[.slice none 0 0,.agg #[.int .i64 0,.float .f64 0,.string ⟨#[]⟩,.int .i64 0]],[]⟩).memory Tryz.f3.params.toList Rows.libArraysSpec.vars false (#[.slice none 0 0,.agg #[.int .i64 0,.float .f64 0,.string ⟨#[]⟩,.int .i64 0]]:Array Value).toList 8=some ([.nil,.agg [.lit (.int .i64 0),.lit (.float .f64 0),.lit (.string []),.lit (.int .i64 0)]],[],places) :=
 ⟨[],by kernel_rfl⟩
theorem lifted (os:Os) (started:os.Started) (H:Type) (enc:TypeId × Value→H) (F:Stop.Interp) :
   ReturnsInHanded {} Tryz.checked os 3 .any ((Rows.OpenSpec.upto Rows.libArraysSpec).preRow enc Tryz.prog Tryz.f3 Rows.libArraysUptoRow.domain false Rows.libArraysUptoRow.laid) (((Rows.OpenSpec.upto Rows.libArraysSpec).at F).post enc Tryz.prog Tryz.f3 false true false false):=by
 obtain ⟨places,hx⟩:=reads os enc
 refine returnsInHanded_of_row (C:=Tryz.checked) (s:=(Rows.OpenSpec.upto Rows.libArraysSpec)) own started (by kernel_rfl) Tryz.func3
   (witness_shape (enc:=enc) (C:=Tryz.checked) false (world os) #[.slice none 0 0,.agg #[.int .i64 0,.float .f64 0,.string ⟨#[]⟩,.int .i64 0]] (layWorld_os _) (w_shape os _) (by kernel_rfl)
     (OpenSpec.preRow_of_cond 8 hx (by kernel_rfl) (fun k hk=>by cases hk;kernel_rfl) (by kernel_rfl) (layWorld_met os _))) ?_
 intro W base args ds gs before hval hW _ hcond hz hL hSh _
 exact contract H enc W base args ds gs before hval hW hz hSh hL (hcond _ rfl)
theorem joined:joinedFacts Tryz.pinned.checked.prog 3 Tryz.f3 (Rows.OpenSpec.upto Rows.libArraysSpec).bare Rows.libArraysUptoRow=true:=by
 unfold joinedFacts
 simp only [Bool.and_eq_true]
 repeat' apply And.intro
 all_goals (as_aux_lemma=>kernel_rfl)
theorem said:Rows.LibArraysUptoSaid :=
 OpenClaim.holds_of_cond 3 Tryz.f3 rfl rfl rfl rfl rfl rfl rfl ⟨rfl,rfl,rfl,rfl,rfl⟩ rfl rfl rfl rfl rfl (by kernel_rfl) Tryz.func3 joined
   (of_decide_eq_true (by kernel_rfl)) (by unfold Func.isWrapper;first | (rw [if_pos (by decide +kernel)];kernel_rfl) | (rw [if_neg (by decide +kernel)];exact ⟨rfl,rfl⟩))
   (fun os started H enc _ F=>by rw [OpenClaim.pre_eq_preRow];exact lifted os started H enc F)
theorem plain (f:FuncId) (fn:Func) (hf:Tryz.pinned.checked.prog.funcNamed Rows.libArraysUptoRow.func=some f) (hfn:Tryz.pinned.checked.prog.funcs[f]?=some fn) :
   true=Tryz.pinned.checked.prog.looks []∧∀ (j:Nat) t,fn.params[j]?=some t→Tryz.pinned.checked.prog.wantsStandIn t=false:=by
 obtain rfl:f=3:=Option.some.inj ((show Tryz.prog.funcNamed Rows.libArraysUptoRow.func=some 3 by kernel_rfl).symm.trans hf) |>.symm
 obtain rfl:fn=Tryz.f3:=(Option.some.inj (Tryz.func3.symm.trans hfn)).symm
 refine ⟨by kernel_rfl,fun j t ht=>?_⟩
 rw [Tryz.params3] at ht
 have hm:t∈[22,25]:=by simpa using Array.mem_of_getElem? ht
 have hall:([22,25].all fun u=>!Tryz.prog.wantsStandIn u)=true:=by kernel_rfl
 exact (show Tryz.prog.wantsStandIn t=false by simpa using List.all_eq_true.1 hall t hm)
theorem card:Rows.LibArraysUptoCardSaid :=
 Claim7.holds_tied_plain_at .later [] _ _ _ _ said (fun _ h=>by cases h) (by kernel_rfl) (fun _ h=>by cases h) libArraysUpto_row_tie rfl ⟨rfl,rfl⟩ (by kernel_rfl) rfl plain (by kernel_rfl)
#print axioms card
end Go.Proofs.YtgdolcoiihagfaaGreatDoor.lawLibArrays
