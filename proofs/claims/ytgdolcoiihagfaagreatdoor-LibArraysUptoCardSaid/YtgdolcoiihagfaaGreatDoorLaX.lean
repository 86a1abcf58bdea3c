/- Layer 10, LibArrays: values fitted; rows of the same values. Layer 10, LibArrays: values fitted one by one; rows of the same values. Layer 10, LibArrays: slices.Reverse of a row of values. -/
import Derived.Test.YtgdolcoiihagfaaGreatDoorLiS
import Derived.Test.YtgdolcoiihagfaaGreatDoorLiF
import Derived.Test.YtgdolcoiihagfaaGreatDoorHaA
import Derived.Test.YtgdolcoiihagfaaGreatDoorApX
import Derived.Test.YtgdolcoiihagfaaGreatDoorTbE
namespace Go.Proofs.YtgdolcoiihagfaaGreatDoor
open Go Go.RowKit
set_option linter.all false
set_option maxRecDepth 100000
set_option maxHeartbeats 100000000
namespace Li
theorem and_low (r:Int) (k:Nat) (hk:k≤7):∃ q:Nat,q < 2 ^ k∧bits .and .i64 r ((2 ^ k - 1:Nat):Int)=(q:Int):=by
 have hp:2 ^ k≤2 ^ 7:=Nat.pow_le_pow_right (by decide) hk
 have h0:0 < 2 ^ k:=Nat.pow_pos (by decide)
 rw [show (2:Nat) ^ 7=128 by decide] at hp
 refine ⟨(BitVec.ofInt 64 r).toNat % 2 ^ k,Nat.mod_lt _ h0,?_⟩
 show IntKind.i64.wrap ((BitVec.ofInt 64 r &&& BitVec.ofInt 64 ((2 ^ k - 1:Nat):Int)).toNat:Int)=_
 have e:(BitVec.ofInt 64 ((2 ^ k - 1:Nat):Int)).toNat=2 ^ k - 1:=by
   rw [BitVec.ofInt_natCast,BitVec.toNat_ofNat];exact Nat.mod_eq_of_lt (by omega)
 rw [BitVec.toNat_and,e,Nat.and_two_pow_sub_one_eq_mod]
 have:=Nat.mod_lt (BitVec.ofInt 64 r).toNat h0
 exact IntWalk.i64_in _ (by omega)
/-- what fit makes of a value, where there is one object -/
inductive Fit:Va→Va→Prop
 | obj (v:Va):v.kind=5→Fit v (ob 0)
 | num (v:Va):v.kind=3→Fit v ⟨3,v.num,[],0⟩
 | bool (v:Va) (b:Nat):v.kind=2→(b=0∨b=4607182418800017408)→Fit v ⟨2,b,[],0⟩
 | text (v:Va):v.kind=4→v.text.length % 2=0→v.text.length≤4000→Fit v (tx v.text)
 | null (v:Va):v.kind=1→Fit v ⟨1,0,[],0⟩
 | built (v:Va) (q:Nat):v.kind=6→q < 128→Fit v ⟨6,0,[],(q:Int)⟩
 | none (v:Va):Fit v Va.zero
theorem Fit.right {v x:Va} (h:Fit v x):x.right 1=true:=by
 have e:sameB 0 0=true:=by decide +kernel
 cases h with
 | obj h=>unfold Va.right ob;simp [e]
 | num h=>unfold Va.right;simp
 | bool b h hb =>
   unfold Va.right
   rcases hb with rfl | rfl
   · simp [e]
   · have e2:eqB 4607182418800017408 4607182418800017408=true:=by decide +kernel
     simp [e2]
 | text h h2 h3 =>
   unfold Va.right tx
   simp [e]
   omega
 | null h=>unfold Va.right;simp [e]
 | built q h hq=>unfold Va.right;simp [e]
 | none=>unfold Va.right Va.zero;simp [e]
theorem Fit.wf {v x:Va} (h:Fit v x) (hv:v.num < 18446744073709551616):x.wf:=by
 cases h with
 | obj h=>exact ⟨show (0:Nat) < 18446744073709551616 by decide,by simp [ob]⟩
 | num h=>exact ⟨hv,by simp⟩
 | bool b h hb=>exact ⟨by rcases hb with rfl | rfl <;> decide,by simp⟩
 | text h h2 h3=>exact ⟨show (0:Nat) < 18446744073709551616 by decide,by show v.text.length≤1000000000;omega⟩
 | null h=>exact ⟨show (0:Nat) < 18446744073709551616 by decide,by simp⟩
 | built q h hq=>exact ⟨show (0:Nat) < 18446744073709551616 by decide,by simp⟩
 | none=>exact ⟨show (0:Nat) < 18446744073709551616 by decide,by simp [Va.zero]⟩
theorem two_vals (w:World) (v:Va):∃ W,W=(w.alloc (.cells #[.int .i64 v.kind,.float .f64 v.num,.string ⟨v.text.toArray⟩,.int .i64 v.ref] 25)).alloc (.cells #[.int .i64 0,.float .f64 0,.string ⟨#[]⟩,.int .i64 0] 25)∧Pur w W∧W.heap.size=w.heap.size + 1 + 1 ∧
   W.heap[w.heap.size]?=some (.cells #[.int .i64 v.kind,.float .f64 v.num,.string ⟨v.text.toArray⟩,.int .i64 v.ref] 25 (0,0))∧W.heap[w.heap.size + 1]?=some (.cells Va.zero.cells.toArray 25 (0,0)):=by
 obtain ⟨Wa,hWa⟩:∃ Wa,Wa=w.alloc (.cells #[.int .i64 v.kind,.float .f64 v.num,.string ⟨v.text.toArray⟩,.int .i64 v.ref] 25):=⟨_,rfl⟩
 have sa:Wa.heap.size=w.heap.size + 1:=by rw [hWa];exact Array.size_push _
 refine ⟨_,rfl,((Pur.refl w).alloc _).alloc _,?_,bk_alloc (bk_new w _) _,?_⟩
 · rw [← hWa,← sa];exact Array.size_push _
 · rw [← hWa,← sa];exact bk_new Wa _
theorem two_new (w:World) (o o2:Obj):((w.alloc o).alloc o2).heap[w.heap.size + 1]?=some o2∧Pur w ((w.alloc o).alloc o2):=by
 have sa:(w.alloc o).heap.size=w.heap.size + 1:=Array.size_push _
 exact ⟨by rw [← sa];exact bk_new _ _,((Pur.refl w).alloc _).alloc _⟩
theorem fit_any (v:Va) (w:World):Calls Tryz.prog 12 #[v.v,.int .i64 1] w fun e w'=>∃ x,Fit v x∧e=.returned x.v∧Pur w w':=by
 obtain ⟨W,hW,PA,hsz,B0,NB⟩:=two_vals w v
 obtain ⟨k,n,t,r⟩:=v
 have r0:W.cell? ⟨w.heap.size,0,none⟩=some (.int .i64 k):=bk_cell B0 0 _ rfl
 have r1:W.cell? ⟨w.heap.size,1,none⟩=some (.float .f64 n):=bk_cell B0 1 _ rfl
 have r2:W.cell? ⟨w.heap.size,2,none⟩=some (.string ⟨t.toArray⟩):=bk_cell B0 2 _ rfl
 have r3:W.cell? ⟨w.heap.size,3,none⟩=some (.int .i64 r):=bk_cell B0 3 _ rfl
 simp only [Va.v,Va.cells] at hW ⊢
 have NM:=fun w=>lnum10_any n w
 have hr1:Int.tmod r 1=0:=Int.tmod_one r
 by_cases k5:k=5
 · subst k5
   have HF:=Lib.hid (two_new w (.cells #[.int .i64 5,.float .f64 n,.string ⟨t.toArray⟩,.int .i64 r] 25) (.cells #[.int .i64 5,.float .f64 0,.string ⟨#[]⟩,.int .i64 0] 25))
   clear NB PA
   subst hW
   clear B0 NM
   go_enter Tryz.func12,Tryz.ntmps12
   go_wp2
   refine bodyPost_ret (results_cell_row rfl _ _ (w.heap.size + 1) 25 _ (0,0) _ rfl HF.out.1 Tryz.underlying25 rfl (by kernel_rfl)) rfl ⟨ob 0,.obj _ rfl,rfl,HF.out.2⟩
 by_cases k3:k=3
 · subst k3
   subst hW
   clear hr1
   go_enter Tryz.func12,Tryz.ntmps12
   go_wp2_with fail
   refine (NM _).mono ?_
   rintro e w1 ⟨rfl,p1⟩
   replace NB:=bk_pur NB p1
   replace PA:=PA.trans p1
   clear B0 NM r0 r1 r2 r3 p1
   obtain ⟨⟨s0,s1⟩,⟨s2,s3⟩,⟨s4,s5⟩,⟨s6,s7⟩⟩:=st4_steps (y:=Va.zero) (x:=⟨3,n,[],0⟩) NB
   have R8:=st4_at (y:=Va.zero) (x:=⟨3,n,[],0⟩) NB
   have P8:=st4_pur (b:=w.heap.size + 1) (x:=⟨3,n,[],0⟩) PA (by omega)
   have HF:=Lib.hid (And.intro R8 P8)
   clear R8 P8 NB
   simp only [st4,Va.zero,ob,tx] at s0 s1 s2 s3 s4 s5 s6 s7 HF
   go_wp2
   refine bodyPost_ret (results_cell_row rfl _ _ (w.heap.size + 1) 25 _ (0,0) _ rfl HF.out.1 Tryz.underlying25 rfl (by kernel_rfl)) rfl ⟨⟨3,n,[],0⟩,.num _ rfl,rfl,HF.out.2⟩
 by_cases k2:k=2
 · subst k2
   obtain ⟨q,hq,hb⟩:=and_low r 1 (by decide)
   rw [show (((2 ^ 1 - 1:Nat)):Int)=1 by decide] at hb
   obtain ⟨x,hx⟩:∃ x,floatOfInt .f64 (q:Int)=x:=⟨_,rfl⟩
   have hx2:x=0∨x=4607182418800017408:=by
     rcases (by omega:q=0∨q=1) with rfl | rfl
     · left;rw [← hx];decide
     · right;rw [← hx];decide
   have HX:=Lib.hid hx2
   clear hx2 hq
   have HF:=Lib.hid (two_new w (.cells #[.int .i64 2,.float .f64 n,.string ⟨t.toArray⟩,.int .i64 r] 25) (.cells #[.int .i64 2,.float .f64 x,.string ⟨#[]⟩,.int .i64 0] 25))
   clear NB PA
   subst hW
   clear B0 NM hr1
   go_enter Tryz.func12,Tryz.ntmps12
   go_wp2
   refine bodyPost_ret (results_cell_row rfl _ _ (w.heap.size + 1) 25 _ (0,0) _ rfl HF.out.1 Tryz.underlying25 rfl (by kernel_rfl)) rfl ⟨⟨2,x,[],0⟩,.bool _ x rfl HX.out,rfl,HF.out.2⟩
 by_cases k4:k=4
 · subst k4
   have tl:Int.tmod (t.length:Int) 2=((t.length % 2:Nat):Int):=by rw [Int.tmod_eq_emod_of_nonneg (by omega)];omega
   obtain ⟨ml,hml⟩:∃ m,t.length % 2=m:=⟨_,rfl⟩
   rw [hml] at tl
   by_cases c1:ml=0
   · subst c1
     by_cases c2:t.length≤4000
     · have d2:decide ((t.length:Int)≤4000)=true:=decide_eq_true (by omega)
       have HM:=Lib.hid hml
       have HL:=Lib.hid c2
       have HF:=Lib.hid (two_new w (.cells #[.int .i64 4,.float .f64 n,.string ⟨t.toArray⟩,.int .i64 r] 25) (.cells #[.int .i64 4,.float .f64 0,.string ⟨t.toArray⟩,.int .i64 0] 25))
       clear NB PA
       subst hW
       clear B0 NM hr1 hml
       go_enter Tryz.func12,Tryz.ntmps12
       go_wp2
       refine bodyPost_ret (results_cell_row rfl _ _ (w.heap.size + 1) 25 _ (0,0) _ rfl HF.out.1 Tryz.underlying25 rfl (by kernel_rfl)) rfl ⟨tx t,.text _ rfl HM.out HL.out,rfl,HF.out.2⟩
     · have d2:decide ((t.length:Int)≤4000)=false:=decide_eq_false (by omega)
       have HF:=Lib.hid (two_new w (.cells #[.int .i64 4,.float .f64 n,.string ⟨t.toArray⟩,.int .i64 r] 25) (.cells #[.int .i64 0,.float .f64 0,.string ⟨#[]⟩,.int .i64 0] 25))
       clear NB PA
       subst hW
       clear B0 NM hr1 hml
       go_enter Tryz.func12,Tryz.ntmps12
       go_wp2
       refine bodyPost_ret (results_cell_row rfl _ _ (w.heap.size + 1) 25 _ (0,0) _ rfl HF.out.1 Tryz.underlying25 rfl (by kernel_rfl)) rfl ⟨Va.zero,.none _,rfl,HF.out.2⟩
   · have c1':¬ ((ml:Int)=0):=by omega
     have c1'':((ml:Int) == 0)=false:=beq_eq_false_iff_ne.2 c1'
     have HF:=Lib.hid (two_new w (.cells #[.int .i64 4,.float .f64 n,.string ⟨t.toArray⟩,.int .i64 r] 25) (.cells #[.int .i64 0,.float .f64 0,.string ⟨#[]⟩,.int .i64 0] 25))
     clear NB PA
     subst hW
     clear B0 NM hr1 hml
     go_enter Tryz.func12,Tryz.ntmps12
     go_wp2
     refine bodyPost_ret (results_cell_row rfl _ _ (w.heap.size + 1) 25 _ (0,0) _ rfl HF.out.1 Tryz.underlying25 rfl (by kernel_rfl)) rfl ⟨Va.zero,.none _,rfl,HF.out.2⟩
 by_cases k1:k=1
 · subst k1
   have HF:=Lib.hid (two_new w (.cells #[.int .i64 1,.float .f64 n,.string ⟨t.toArray⟩,.int .i64 r] 25) (.cells #[.int .i64 1,.float .f64 0,.string ⟨#[]⟩,.int .i64 0] 25))
   clear NB PA
   subst hW
   clear B0 NM hr1
   go_enter Tryz.func12,Tryz.ntmps12
   go_wp2
   refine bodyPost_ret (results_cell_row rfl _ _ (w.heap.size + 1) 25 _ (0,0) _ rfl HF.out.1 Tryz.underlying25 rfl (by kernel_rfl)) rfl ⟨⟨1,0,[],0⟩,.null _ rfl,rfl,HF.out.2⟩
 by_cases k6:k=6
 · subst k6
   obtain ⟨q,hq,hb⟩:=and_low r 7 (by decide)
   rw [show (((2 ^ 7 - 1:Nat)):Int)=127 by decide] at hb
   have HQ:=Lib.hid (show q < 128 from hq)
   clear hq
   have HF:=Lib.hid (two_new w (.cells #[.int .i64 6,.float .f64 n,.string ⟨t.toArray⟩,.int .i64 r] 25) (.cells #[.int .i64 6,.float .f64 0,.string ⟨#[]⟩,.int .i64 (q:Int)] 25))
   clear NB PA
   subst hW
   clear B0 NM hr1
   go_enter Tryz.func12,Tryz.ntmps12
   go_wp2
   refine bodyPost_ret (results_cell_row rfl _ _ (w.heap.size + 1) 25 _ (0,0) _ rfl HF.out.1 Tryz.underlying25 rfl (by kernel_rfl)) rfl ⟨⟨6,0,[],(q:Int)⟩,.built _ q rfl HQ.out,rfl,HF.out.2⟩
 have b5:(k == 5)=false:=beq_eq_false_iff_ne.2 k5
 have b3:(k == 3)=false:=beq_eq_false_iff_ne.2 k3
 have b2:(k == 2)=false:=beq_eq_false_iff_ne.2 k2
 have b4:(k == 4)=false:=beq_eq_false_iff_ne.2 k4
 have b1:(k == 1)=false:=beq_eq_false_iff_ne.2 k1
 have b6:(k == 6)=false:=beq_eq_false_iff_ne.2 k6
 have HF:=Lib.hid (two_new w (.cells #[.int .i64 k,.float .f64 n,.string ⟨t.toArray⟩,.int .i64 r] 25) (.cells #[.int .i64 0,.float .f64 0,.string ⟨#[]⟩,.int .i64 0] 25))
 clear NB PA
 subst hW
 clear B0 NM hr1
 go_enter Tryz.func12,Tryz.ntmps12
 go_wp2
 refine bodyPost_ret (results_cell_row rfl _ _ (w.heap.size + 1) 25 _ (0,0) _ rfl HF.out.1 Tryz.underlying25 rfl (by kernel_rfl)) rfl ⟨Va.zero,.none _,rfl,HF.out.2⟩
end Li
namespace Li
def Fits (n:Nat) (us:List Va):Prop:=us.length=n∧∀ u∈us,u.right 1=true∧u.wf
theorem Fits.snoc {n:Nat} {us:List Va} {x:Va} (h:Fits n us) (h1:x.right 1=true) (h2:x.wf):Fits (n + 1) (us ++ [x]):=by
 refine ⟨by rw [List.length_append,h.1];rfl,fun u hu=>?_⟩
 rcases List.mem_append.1 hu with hu | hu
 · exact h.2 u hu
 · simp at hu;subst hu;exact ⟨h1,h2⟩
theorem va_snoc (us:List Va) (x:Va):(us ++ [x]).flatMap Va.cells=us.flatMap Va.cells ++ [.int .i64 x.kind,.float .f64 x.num,.string ⟨x.text.toArray⟩,.int .i64 x.ref]:=by
 rw [List.flatMap_append]
 simp [Va.cells]
/-- a row read value by value -/
def VEach (w:World) (v:Value) (vs:List Va):Prop:=∃ a c,v=.slice a vs.length c∧∀ (n:Nat) x,vs[n]?=some x→∃ b o,a=some ⟨b,o,none⟩∧b < w.heap.size∧∀ (i:Nat) u,x.cells[i]?=some u→w.cell? ⟨b,o + n * 4 + i,none⟩=some u
theorem VEach.pur {w w':World} {v:Value} {vs:List Va} (h:VEach w v vs) (hp:Pur w w'):VEach w' v vs:=by
 obtain ⟨a,c,h1,h2⟩:=h
 refine ⟨a,c,h1,fun n x hx=>?_⟩
 obtain ⟨b,o,h3,h4,h5⟩:=h2 n x hx
 exact ⟨b,o,h3,Nat.lt_of_lt_of_le h4 hp.size,fun i u hu=>(hp.cell h4).trans (h5 i u hu)⟩
theorem fits_any {w:World} (v:Value) (vs:List Va) (hv:VEach w v vs) (hn:vs.length≤100) (hwf:∀ x∈vs,x.num < 18446744073709551616) :
   Calls Tryz.prog 10 #[v,.int .i64 1] w fun e w'=>∃ us v',Fits vs.length us∧e=.returned v'∧Pur w w'∧w'.ownsRow w.heap.size 25 4 v' us.length (us.flatMap Va.cells):=by
 obtain ⟨i0,hi,hz⟩:=Option.map_eq_some_iff.1 va_info
 simp only [Prod.mk.injEq] at hz
 obtain ⟨hz0,hz1,hz2⟩:=hz
 obtain ⟨z0,hz0,hzs⟩:=Option.map_eq_some_iff.1 hz0
 obtain ⟨va,vc,hvs,hve⟩:=hv
 subst hvs
 have FT:=fun x w=>fit_any x w
 go_enter Tryz.func10,Tryz.ntmps10
 go_wp2
 go_loopw [5,10] (fun lv jv wr=>∃ (j:Nat) (us:List Va),j≤vs.length∧jv=.int .i64 (j:Int)∧Fits j us∧Pur w wr∧wr.ownsRow w.heap.size 25 4 lv us.length (us.flatMap Va.cells)) (fun _ jv _=>vs.length + 1 - (intOf jv).toNat)
 case atStart=>exact ⟨0,[],by omega,rfl,⟨rfl,fun u hu=>by cases hu⟩,Pur.refl _,World.ownsRow_nil _ _ _ _⟩
 case round =>
   obtain ⟨j,us,hj,rfl,hF,hpr,hr⟩:=hrel
   obtain ⟨la,lc,hlv⟩:=row_shape hr
   subst hlv
   by_cases hlt:j < vs.length
   · have d1:decide ((j:Int) < vs.length)=true:=decide_eq_true (by omega)
     have j0:(0:Int)≤j:=by omega
     have j1:(j:Int) < vs.length:=by omega
     have wr1:IntKind.i64.wrap ((j:Int) + 1)=j + 1:=IntWalk.i64_in _ (by omega)
     obtain ⟨x,hx⟩:∃ x,vs[j]?=some x:=⟨_,List.getElem?_eq_getElem hlt⟩
     obtain ⟨bb,oo,hva,hbl,hcl⟩:=hve j x hx
     subst hva
     have cl:∀ (i:Nat) u,x.cells[i]?=some u→wr.cell? ⟨bb,oo + j * 4 + i,none⟩=some u:=fun i u hu=>(hpr.cell hbl).trans (hcl i u hu)
     have y0:=cl 0 _ rfl
     have y1:=cl 1 _ rfl
     have y2:=cl 2 _ rfl
     have y3:=cl 3 _ rfl
     rw [Nat.add_zero] at y0
     have hxw:=hwf x (List.mem_of_getElem? hx)
     have FX:=FT x
     have HFW:=Lib.hid (fun (y:Va) (h:Fit x y)=>h.wf hxw)
     obtain ⟨xk,xn,xt,xr⟩:=x
     simp only [Va.v,Va.cells] at FX
     have hus:=Lib.hid hF.1
     clear cl hx hcl hve FT hxw
     go_wp2_with fail
     refine (FX _).mono ?_
     rintro e w3 ⟨⟨uk,un,ut,ur⟩,hfit,rfl,p3⟩
     have HU:=Lib.hid (hF.snoc hfit.right (HFW.out _ hfit))
     have HS:=Lib.hid (va_snoc us ⟨uk,un,ut,ur⟩)
     have hp3:Pur wr w3:=((Pur.refl wr).alloc _).trans p3
     have hr3:=row_pur hr hp3
     have PX:Pur w (w3.alloc (.cells #[.int .i64 uk,.float .f64 un,.string ⟨ut.toArray⟩,.int .i64 ur] 25)):=(hpr.trans hp3).alloc _
     have HRow:=Lib.hid (hr3.alloc (.cells #[.int .i64 uk,.float .f64 un,.string ⟨ut.toArray⟩,.int .i64 ur] 25))
     have NBX:=bk_new w3 (.cells #[.int .i64 uk,.float .f64 un,.string ⟨ut.toArray⟩,.int .i64 ur] 25)
     have HFe:Hid (Feeds (w3.alloc (.cells #[.int .i64 uk,.float .f64 un,.string ⟨ut.toArray⟩,.int .i64 ur] 25)) 4 (some ⟨w3.heap.size,0,none⟩) 1 [.int .i64 uk,.float .f64 un,.string ⟨ut.toArray⟩,.int .i64 ur]):=Lib.hid ⟨rfl,fun _=>⟨_,rfl,World.news_of_block (cs:=#[.int .i64 uk,.float .f64 un,.string ⟨ut.toArray⟩,.int .i64 ur]) (t:=25) (fr:=(0,0)) NBX⟩⟩
     have HLT:=Lib.hid hr3.lt
     clear FX hr3 NBX y0 y1 y2 y3 hr hfit HFW hF
     go_wp2_with (at_builtin;refine wpList_append_feeds rfl _ _ 22 rfl w.heap.size 25 i0 z0 4 40 Tryz.underlying22 hi hz0 hz1 hz2 hzs (by decide) _ _ _ rfl HRow.out _ _ _ [.int .i64 uk,.float .f64 un,.string ⟨ut.toArray⟩,.int .i64 ur] rfl HFe.out (by simp [Value.oneCell']) ?c3 ?c4 PX.size ?_)
     case c3=>have:=hus.out;unfold maxLen;omega
     case c4=>have:=hus.out;omega
     intro v5 w5 hown5 hgrow
     have hp5:Pur w w5:=Below.grown PX hgrow PX.size (fun k hk=>(HLT.out k hk).1)
     have HO:=Lib.hid (show w5.ownsRow w.heap.size 25 4 v5 (us ++ [(⟨uk,un,ut,ur⟩:Va)]).length ((us ++ [(⟨uk,un,ut,ur⟩:Va)]).flatMap Va.cells) by rw [HS.out,List.length_append];exact hown5)
     clear hgrow hown5 HRow HFe PX HLT hp3 p3
     go_wp2
     go_roundw
     case rel=>exact ⟨j + 1,us ++ [(⟨uk,un,ut,ur⟩:Va)],by omega,by go_num,HU.out,hp5,HO.out⟩
     case measure=>first | (simp [intOf];done) | (simp [intOf];omega)
   · obtain rfl:j=vs.length:=by omega
     have d1:decide ((vs.length:Int) < vs.length)=false:=decide_eq_false (by omega)
     have HF:=Lib.hid hF
     have HR:=Lib.hid hr
     clear hr hF hve FT
     go_wp2
     go_ret
     exact ⟨us,_,HF.out,rfl,hpr,HR.out⟩
theorem samevals_any {w:World} (a b:Value) (vs:List Va) (ha:VRead w a vs) (hb:VRead w b vs) (hn:vs.length≤1000) :
   Calls Tryz.prog 17 #[a,b] w fun e w'=>e=.returned (.bool true)∧Pur w w':=by
 obtain ⟨va,vc,hvs,hve⟩:=ha.each
 obtain ⟨ua,uc,hus,hue⟩:=hb.each
 subst hvs
 subst hus
 have RS:=fun x w=>rsame_self x w
 clear ha hb
 go_enter Tryz.func17,Tryz.ntmps17
 go_wp2
 go_loopw [5] (fun jv wr=>∃ j:Nat,j≤vs.length∧jv=.int .i64 (j:Int)∧Pur w wr) (fun jv _=>vs.length + 1 - (intOf jv).toNat)
 case atStart=>exact ⟨0,by omega,rfl,Pur.refl _⟩
 case round =>
   obtain ⟨j,hj,rfl,hpr⟩:=hrel
   by_cases hlt:j < vs.length
   · have d1:decide ((j:Int) < vs.length)=true:=decide_eq_true (by omega)
     have j0:(0:Int)≤j:=by omega
     have j1:(j:Int) < vs.length:=by omega
     have wr1:IntKind.i64.wrap ((j:Int) + 1)=j + 1:=IntWalk.i64_in _ (by omega)
     obtain ⟨x,hx⟩:∃ x,vs[j]?=some x:=⟨_,List.getElem?_eq_getElem hlt⟩
     obtain ⟨bb,oo,hva,hbl,hcl⟩:=hve j x hx
     obtain ⟨b2,o2,hua,hbl2,hcl2⟩:=hue j x hx
     subst hva
     subst hua
     have cl:∀ (z:PW wr) (i:Nat) u,x.cells[i]?=some u→z.to.cell? ⟨bb,oo + j * 4 + i,none⟩=some u:=fun z i u hu=>((hpr.trans z.pur).cell hbl).trans (hcl i u hu)
     have cl2:∀ (z:PW wr) (i:Nat) u,x.cells[i]?=some u→z.to.cell? ⟨b2,o2 + j * 4 + i,none⟩=some u:=fun z i u hu=>((hpr.trans z.pur).cell hbl2).trans (hcl2 i u hu)
     have RX:=RS x
     obtain ⟨xk,xn,xt,xr⟩:=x
     simp only [Va.v,Va.cells] at RX
     have y0:∀ z:PW wr,z.to.cell? ⟨bb,oo + j * 4,none⟩=some (.int .i64 xk):=fun z=>cl z 0 _ rfl
     have y1:∀ z:PW wr,z.to.cell? ⟨bb,oo + j * 4 + 1,none⟩=some (.float .f64 xn):=fun z=>cl z 1 _ rfl
     have y2:∀ z:PW wr,z.to.cell? ⟨bb,oo + j * 4 + 2,none⟩=some (.string ⟨xt.toArray⟩):=fun z=>cl z 2 _ rfl
     have y3:∀ z:PW wr,z.to.cell? ⟨bb,oo + j * 4 + 3,none⟩=some (.int .i64 xr):=fun z=>cl z 3 _ rfl
     have z0:∀ z:PW wr,z.to.cell? ⟨b2,o2 + j * 4,none⟩=some (.int .i64 xk):=fun z=>cl2 z 0 _ rfl
     have z1:∀ z:PW wr,z.to.cell? ⟨b2,o2 + j * 4 + 1,none⟩=some (.float .f64 xn):=fun z=>cl2 z 1 _ rfl
     have z2:∀ z:PW wr,z.to.cell? ⟨b2,o2 + j * 4 + 2,none⟩=some (.string ⟨xt.toArray⟩):=fun z=>cl2 z 2 _ rfl
     have z3:∀ z:PW wr,z.to.cell? ⟨b2,o2 + j * 4 + 3,none⟩=some (.int .i64 xr):=fun z=>cl2 z 3 _ rfl
     clear cl cl2 hx hcl hcl2 hve hue RS
     go_wp2_with fail
     refine wp_region_pur (by kernel_rfl) (by kernel_rfl) ?_
     repeat (go_big_quiet_step (((go_at_call 15;with_reducible exact quiet_pur (RX _)))))
     refine wpQuiet_nil ?_
     intro wq hq
     have hpq:=hpr.trans hq
     clear y0 y1 y2 y3 z0 z1 z2 z3 RX hq
     go_wp2
     go_roundw
     case rel=>exact ⟨j + 1,by omega,by go_num,hpq⟩
     case measure=>first | (simp [intOf];done) | (simp [intOf];omega)
   · obtain rfl:j=vs.length:=by omega
     have d1:decide ((vs.length:Int) < vs.length)=false:=decide_eq_false (by omega)
     clear hve hue RS
     go_wp2
     go_ret
     exact ⟨rfl,hpr⟩
end Li
namespace Li
/-- a value laid in a row -/
def st4o (w:World) (g k:Nat) (x:Va):World:=(((w.setCell ⟨g,k,none⟩ (.int .i64 x.kind)).setCell ⟨g,k + 1,none⟩ (.float .f64 x.num)).setCell ⟨g,k + 2,none⟩ (.string ⟨x.text.toArray⟩)).setCell ⟨g,k + 3,none⟩ (.int .i64 x.ref)
theorem st4o_at {w:World} {g k:Nat} {x:Va} {cur:Array Value} {e:TypeId} (h:w.heap[g]?=some (.cells cur e (0,0))):(st4o w g k x).heap[g]?=some (.cells ((((cur.setIfInBounds k (.int .i64 x.kind)).setIfInBounds (k + 1) (.float .f64 x.num)).setIfInBounds (k + 2) (.string ⟨x.text.toArray⟩)).setIfInBounds (k + 3) (.int .i64 x.ref)) e (0,0)) :=
 bk_set (bk_set (bk_set (bk_set h k _) (k + 1) _) (k + 2) _) (k + 3) _
theorem st4o_chg {w:World} {g k:Nat} {x:Va}:Chg [g] w (st4o w g k x) :=
 ((((Chg.refl [g] w).setCell (a:=⟨g,k,none⟩) (.inl (by simp)) _).setCell (a:=⟨g,k + 1,none⟩) (.inl (by simp)) _).setCell (a:=⟨g,k + 2,none⟩) (.inl (by simp)) _).setCell (a:=⟨g,k + 3,none⟩) (.inl (by simp)) _
theorem va_get (l:List Va) (j r:Nat) (hr:r < 4):(l.flatMap Va.cells)[j * 4 + r]?=(l[j]?).bind fun x=>x.cells[r]?:=by
 induction l generalizing j with
 | nil=>simp
 | cons a l ih =>
   rw [List.flatMap_cons]
   have hc:a.cells.length=4:=rfl
   cases j with
   | zero=>rw [List.getElem?_append_left (by omega)];simp
   | succ j =>
     rw [List.getElem?_append_right (by omega),hc,show (j + 1) * 4 + r - 4=j * 4 + r by omega,ih]
     simp
theorem set4_list (cs:List Value) (k:Nat) (a b c d:Value) (t:Nat) (hk:k + 3 < cs.length):((((cs.set k a).set (k + 1) b).set (k + 2) c).set (k + 3) d)[t]?=if t=k then some a else if t=k + 1 then some b else if t=k + 2 then some c else if t=k + 3 then some d else cs[t]?:=by
 simp only [List.getElem?_set,List.length_set]
 by_cases h3:t=k + 3
 · subst h3;simp;omega
 · rw [if_neg (fun e=>h3 e.symm)]
   by_cases h2:t=k + 2
   · subst h2;simp;omega
   · rw [if_neg (fun e=>h2 e.symm)]
     by_cases h1:t=k + 1
     · subst h1;simp;omega
     · rw [if_neg (fun e=>h1 e.symm)]
       by_cases h0:t=k
       · subst h0;simp;omega
       · rw [if_neg (fun e=>h0 e.symm),if_neg h0,if_neg h1,if_neg h2,if_neg h3]
theorem va_set (l:List Va) (k:Nat) (x:Va) (hk:k < l.length):(l.set k x).flatMap Va.cells=((((l.flatMap Va.cells).set (k * 4) (.int .i64 x.kind)).set (k * 4 + 1) (.float .f64 x.num)).set (k * 4 + 2) (.string ⟨x.text.toArray⟩)).set (k * 4 + 3) (.int .i64 x.ref):=by
 apply List.ext_getElem?
 intro t
 have hl:=va_len l
 rw [set4_list _ _ _ _ _ _ _ (by rw [hl];omega)]
 obtain ⟨j,r,hr,rfl⟩:∃ j r,r < 4∧t=j * 4 + r:=⟨t / 4,t % 4,Nat.mod_lt _ (by decide),by omega⟩
 rw [va_get _ _ _ hr,va_get _ _ _ hr,List.getElem?_set]
 by_cases hj:k=j
 · subst hj
   rw [if_pos rfl,if_pos hk]
   have:r=0∨r=1∨r=2∨r=3:=by omega
   rcases this with rfl | rfl | rfl | rfl
   · simp [Va.cells]
   · simp [Va.cells]
   · simp [Va.cells]
   · simp [Va.cells]
 · rw [if_neg hj,if_neg (by omega),if_neg (by omega),if_neg (by omega),if_neg (by omega)]
theorem own_set4 {w:World} {B g c n k:Nat} {e:TypeId} {l:List Va} (x:Va) (h:w.ownsRow B e 4 (.slice (some ⟨g,0,none⟩) n c) n (l.flatMap Va.cells)) (hn:l.length=n) (hk:k < n) :
   (st4o w g (k * 4) x).ownsRow B e 4 (.slice (some ⟨g,0,none⟩) n c) n ((l.set k x).flatMap Va.cells):=by
 rcases h.2 with ⟨he,_⟩ | ⟨g',cap,cur,he,hb,hg,hnc,hcm,hcs,hx⟩
 · cases he
 simp only [Value.slice.injEq,Option.some.injEq,Addr.mk.injEq,and_true,true_and] at he
 obtain ⟨rfl,rfl⟩:=he
 refine ⟨by rw [va_len,List.length_set,hn],.inr ⟨g,c,_,rfl,hb,st4o_at hg,hnc,hcm,by simpa using hcs,?_⟩⟩
 rw [va_set _ _ _ (by omega),← hx]
 simp only [Array.toList_setIfInBounds]
 rw [List.take_set,List.take_set,List.take_set,List.take_set]
theorem st4o_steps {w:World} {g k:Nat} {cur:Array Value} {e:TypeId} (x:Va) (h:w.heap[g]?=some (.cells cur e (0,0))) (hk:k + 3 < cur.size) :
   ((∃ v,w.cell? ⟨g,k,none⟩=some v)∧w.frozen? ⟨g,k,none⟩=false) ∧
   ((∃ v,(w.setCell ⟨g,k,none⟩ (.int .i64 x.kind)).cell? ⟨g,k + 1,none⟩=some v)∧(w.setCell ⟨g,k,none⟩ (.int .i64 x.kind)).frozen? ⟨g,k + 1,none⟩=false) ∧
   ((∃ v,((w.setCell ⟨g,k,none⟩ (.int .i64 x.kind)).setCell ⟨g,k + 1,none⟩ (.float .f64 x.num)).cell? ⟨g,k + 2,none⟩=some v)∧((w.setCell ⟨g,k,none⟩ (.int .i64 x.kind)).setCell ⟨g,k + 1,none⟩ (.float .f64 x.num)).frozen? ⟨g,k + 2,none⟩=false) ∧
   ((∃ v,(((w.setCell ⟨g,k,none⟩ (.int .i64 x.kind)).setCell ⟨g,k + 1,none⟩ (.float .f64 x.num)).setCell ⟨g,k + 2,none⟩ (.string ⟨x.text.toArray⟩)).cell? ⟨g,k + 3,none⟩=some v)∧(((w.setCell ⟨g,k,none⟩ (.int .i64 x.kind)).setCell ⟨g,k + 1,none⟩ (.float .f64 x.num)).setCell ⟨g,k + 2,none⟩ (.string ⟨x.text.toArray⟩)).frozen? ⟨g,k + 3,none⟩=false):=by
 have b1:=bk_set h k (.int .i64 x.kind)
 have b2:=bk_set b1 (k + 1) (.float .f64 x.num)
 have b3:=bk_set b2 (k + 2) (.string ⟨x.text.toArray⟩)
 have ex:∀ {c:Array Value} {w:World} (j:Nat),w.heap[g]?=some (.cells c e (0,0))→j < c.size→∃ v,w.cell? ⟨g,j,none⟩=some v:=fun {c w} j hb hj=>⟨_,bk_cell hb j c[j] (Array.getElem?_eq_getElem hj)⟩
 exact ⟨⟨ex k h (by omega),bk_free h _⟩,⟨ex _ b1 (by simp;omega),bk_free b1 _⟩,⟨ex _ b2 (by simp;omega),bk_free b2 _⟩,⟨ex _ b3 (by simp;omega),bk_free b3 _⟩⟩
theorem own_heap {w:World} {B g c n:Nat} {e:TypeId} {xs:List Value} (h:w.ownsRow B e 4 (.slice (some ⟨g,0,none⟩) n c) n xs):∃ cur,w.heap[g]?=some (.cells cur e (0,0))∧n * 4≤cur.size:=by
 rcases h.2 with ⟨he,_⟩ | ⟨g',cap,cur,he,hb,hg,hnc,hcm,hcs,hx⟩
 · cases he
 simp only [Value.slice.injEq,Option.some.injEq,Addr.mk.injEq,and_true,true_and] at he
 obtain ⟨rfl,rfl⟩:=he
 exact ⟨cur,hg,by rw [hcs];exact Nat.mul_le_mul_right 4 hnc⟩
/-- the first i and the last i turned about -/
def Turned (l m:List Va) (i:Nat):Prop:=m.length=l.length∧∀ t,t < l.length→m[t]?=if t < i∨l.length - 1 - i < t then l[l.length - 1 - t]? else l[t]?
theorem Turned.start (l:List Va):Turned l l 0:=⟨rfl,fun t ht=>by
 split
 · rename_i h;rcases h with h | h <;> omega
 · rfl⟩
theorem Turned.step {l m:List Va} {i:Nat} {x y:Va} (h:Turned l m i) (hi:i < l.length - 1 - i) (hx:m[i]?=some x) (hy:m[l.length - 1 - i]?=some y):Turned l ((m.set i y).set (l.length - 1 - i) x) (i + 1):=by
 refine ⟨by simp [h.1],fun t ht=>?_⟩
 have hxi:=h.2 i (by omega)
 have hyi:=h.2 (l.length - 1 - i) (by omega)
 rw [if_neg (by omega)] at hxi hyi
 rw [List.getElem?_set,List.length_set]
 by_cases h1:l.length - 1 - i=t
 · rw [if_pos h1,if_pos (by rw [h.1];omega),if_pos (by omega),← hx,hxi]
   congr 1
   omega
 · rw [if_neg h1,List.getElem?_set]
   by_cases h2:i=t
   · subst h2
     rw [if_pos rfl,if_pos (by rw [h.1];omega),if_pos (by omega),← hy,hyi]
   · rw [if_neg h2,h.2 t ht]
     by_cases h3:t < i∨l.length - 1 - i < t
     · rw [if_pos h3,if_pos (by omega)]
     · rw [if_neg h3,if_neg (by omega)]
theorem Turned.fin {l m:List Va} {i:Nat} (h:Turned l m i) (hi:l.length - 1 - i≤i):m=l.reverse:=by
 apply List.ext_getElem?
 intro t
 by_cases ht:t < l.length
 · rw [h.2 t ht,List.getElem?_reverse ht]
   split
   · rfl
   · congr 1
     omega
 · rw [List.getElem?_eq_none (by rw [h.1];omega),List.getElem?_eq_none (by rw [List.length_reverse];omega)]
theorem reverse_nil (w:World):Calls Tryz.prog 79 #[.slice none 0 0] w fun e w'=>e=.returned (.tuple #[])∧w=w':=by
 go_enter Tryz.func79,Tryz.ntmps79
 go_wp2
 go_loopw [2,3] (fun a b wr=>a=.int .i64 0∧b=.int .i64 (-1)∧wr=w) (fun _ _ _=>1)
 case atStart=>exact ⟨rfl,by go_num,by first | rfl | trivial⟩
 case round =>
   obtain ⟨rfl,rfl,rfl⟩:=hrel
   go_wp2
   go_end0
   exact ⟨rfl,rfl⟩
theorem reverse_any {w:World} {B g c n:Nat} (l:List Va) (h:w.ownsRow B 25 4 (.slice (some ⟨g,0,none⟩) n c) n (l.flatMap Va.cells)) (hn:l.length=n) (hn2:n≤1000) :
   Calls Tryz.prog 79 #[.slice (some ⟨g,0,none⟩) n c] w fun e w'=>e=.returned (.tuple #[])∧Chg [g] w w'∧w'.ownsRow B 25 4 (.slice (some ⟨g,0,none⟩) n c) n (l.reverse.flatMap Va.cells):=by
 have w1:IntKind.i64.wrap ((n:Int) - 1)=(n:Int) - 1:=IntWalk.i64_in _ (by omega)
 go_enter Tryz.func79,Tryz.ntmps79
 go_wp2
 go_loopw [2,3] (fun a b wr=>∃ (i:Nat) (j:Int) (m:List Va),a=.int .i64 (i:Int)∧b=.int .i64 j∧j=(n:Int) - 1 - i∧i≤n∧Turned l m i∧Chg [g] w wr∧wr.ownsRow B 25 4 (.slice (some ⟨g,0,none⟩) n c) n (m.flatMap Va.cells)) (fun a _ _=>n + 1 - (intOf a).toNat)
 case atStart=>exact ⟨0,(n:Int) - 1,l,rfl,rfl,by omega,by omega,Turned.start l,Chg.refl _ _,h⟩
 case round =>
   obtain ⟨i,j,m,rfl,rfl,hj,hi,hT,hC,hr⟩:=hrel
   by_cases hlt:(i:Int) < j
   · obtain ⟨jn,rfl⟩:=Int.eq_ofNat_of_zero_le (show 0≤j by omega)
     have hjn:jn=l.length - 1 - i:=by omega
     have hml:=hT.1
     obtain ⟨x,hx⟩:∃ x,m[i]?=some x:=⟨_,List.getElem?_eq_getElem (by omega)⟩
     obtain ⟨y,hy⟩:∃ y,m[jn]?=some y:=⟨_,List.getElem?_eq_getElem (by omega)⟩
     obtain ⟨g',c',hgs,hg1,hg2,hg3,hg4⟩:=row_at hr (by omega)
     simp only [Value.slice.injEq,Option.some.injEq,Addr.mk.injEq,and_true,true_and] at hgs
     obtain ⟨rfl,rfl⟩:=hgs
     have cx:∀ (z:PW wr) (k:Nat) u,x.cells[k]?=some u→z.to.cell? ⟨g,i * 4 + k,none⟩=some u:=fun z k u hu=>(z.pur.cell hg2).trans (hg4 _ u (va_at m i x hx k u hu)).1
     have cy:∀ (z:PW wr) (k:Nat) u,y.cells[k]?=some u→z.to.cell? ⟨g,jn * 4 + k,none⟩=some u:=fun z k u hu=>(z.pur.cell hg2).trans (hg4 _ u (va_at m jn y hy k u hu)).1
     have HT:=hT.step (by omega) hx (by rw [← hjn];exact hy)
     rw [← hjn] at HT
     replace HT:=Lib.hid HT
     obtain ⟨xk,xn,xt,xr⟩:=x
     obtain ⟨yk,yn,yt,yr⟩:=y
     have x0:∀ z:PW wr,z.to.cell? ⟨g,i * 4,none⟩=some (.int .i64 xk):=fun z=>cx z 0 _ rfl
     have x1:∀ z:PW wr,z.to.cell? ⟨g,i * 4 + 1,none⟩=some (.float .f64 xn):=fun z=>cx z 1 _ rfl
     have x2:∀ z:PW wr,z.to.cell? ⟨g,i * 4 + 2,none⟩=some (.string ⟨xt.toArray⟩):=fun z=>cx z 2 _ rfl
     have x3:∀ z:PW wr,z.to.cell? ⟨g,i * 4 + 3,none⟩=some (.int .i64 xr):=fun z=>cx z 3 _ rfl
     have y0:∀ z:PW wr,z.to.cell? ⟨g,jn * 4,none⟩=some (.int .i64 yk):=fun z=>cy z 0 _ rfl
     have y1:∀ z:PW wr,z.to.cell? ⟨g,jn * 4 + 1,none⟩=some (.float .f64 yn):=fun z=>cy z 1 _ rfl
     have y2:∀ z:PW wr,z.to.cell? ⟨g,jn * 4 + 2,none⟩=some (.string ⟨yt.toArray⟩):=fun z=>cy z 2 _ rfl
     have y3:∀ z:PW wr,z.to.cell? ⟨g,jn * 4 + 3,none⟩=some (.int .i64 yr):=fun z=>cy z 3 _ rfl
     have d1:decide ((i:Int) < (jn:Int))=true:=decide_eq_true hlt
     have i0:(0:Int)≤i:=by omega
     have i1:(i:Int) < n:=by omega
     have j0:(0:Int)≤jn:=by omega
     have j1:(jn:Int) < n:=by omega
     have i2:i < n:=by omega
     have j2:jn < n:=by omega
     have wi:IntKind.i64.wrap ((i:Int) + 1)=(i:Int) + 1:=IntWalk.i64_in _ (by omega)
     have wj:IntKind.i64.wrap ((jn:Int) - 1)=(jn:Int) - 1:=IntWalk.i64_in _ (by omega)
     have HJ:=Lib.hid hj
     clear cx cy hx hy hg4 hT hjn hj
     go_wp2_with fail
     refine wp_region_pur_tail_m 13 [2,3] [0,1,4,5,6,7,8,9,10,11,12] (by kernel_rfl) (by kernel_rfl) (fun d _ _ _ _ h=>by cases d <;> exact h) ?_
     simp only [List.filterMap_cons,List.filterMap_nil,List.getElem?_cons_succ,List.getElem?_cons_zero,List.drop_succ_cons,List.drop_zero,putM,isMove,List.foldl_cons,List.foldl_nil]
     repeat (quiet_step (fail))
     refine wpQuiet_nil ?_
     intro wq hq
     have r':=row_pur hr hq
     have R1:=own_set4 ⟨yk,yn,yt,yr⟩ r' (by omega) (show i < n by omega)
     have R2:=own_set4 (k:=jn) ⟨xk,xn,xt,xr⟩ R1 (by rw [List.length_set];omega) (by omega)
     have C2:Chg [g] w (st4o (st4o wq g (i * 4) ⟨yk,yn,yt,yr⟩) g (jn * 4) ⟨xk,xn,xt,xr⟩):=((hC.pur hq).trans st4o_chg).trans st4o_chg
     have HR:=Lib.hid (And.intro C2 R2)
     obtain ⟨cur,hcur,hcs⟩:=own_heap r'
     obtain ⟨⟨⟨v0,s0⟩,f0⟩,⟨⟨v1,s1⟩,f1⟩,⟨⟨v2,s2⟩,f2⟩,⟨⟨v3,s3⟩,f3⟩⟩:=st4o_steps (k:=i * 4) ⟨yk,yn,yt,yr⟩ hcur (by omega)
     obtain ⟨cur2,hcur2,hcs2⟩:=own_heap R1
     obtain ⟨⟨⟨v4,s4⟩,f4⟩,⟨⟨v5,s5⟩,f5⟩,⟨⟨v6,s6⟩,f6⟩,⟨⟨v7,s7⟩,f7⟩⟩:=st4o_steps (k:=jn * 4) ⟨xk,xn,xt,xr⟩ hcur2 (by omega)
     have F:=fun k=>bk_free hcur k
     have F0:=F (i * 4)
     have F1:=F (i * 4 + 1)
     have F2:=F (i * 4 + 2)
     have F3:=F (i * 4 + 3)
     have F4:=F (jn * 4)
     have F5:=F (jn * 4 + 1)
     have F6:=F (jn * 4 + 2)
     have F7:=F (jn * 4 + 3)
     simp only [st4o] at HR s4 s5 s6 s7 f4 f5 f6 f7
     clear C2 R1 R2 x0 x1 x2 x3 y0 y1 y2 y3 F hcur hcur2 r'
     go_wp2
     go_roundw
     case rel=>exact ⟨i + 1,(jn:Int) - 1,_,by go_num,rfl,by have:=HJ.out;omega,by omega,HT.out,HR.out.1,HR.out.2⟩
     case measure=>first | (simp [intOf];done) | (simp [intOf];omega)
   · have hrev:=hT.fin (by omega)
     subst hrev
     have d1:decide ((i:Int) < j)=false:=decide_eq_false hlt
     have HR:=Lib.hid hr
     clear hr h
     go_wp2
     go_end0
     exact ⟨rfl,hC,HR.out⟩
end Li
end Go.Proofs.YtgdolcoiihagfaaGreatDoor
