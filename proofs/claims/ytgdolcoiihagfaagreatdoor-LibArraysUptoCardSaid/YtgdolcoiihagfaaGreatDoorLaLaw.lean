/- Layer 10: the law LibArrays, walked. -/
import Derived.Test.YtgdolcoiihagfaaGreatDoorLaY
import Derived.Test.YtgdolcoiihagfaaGreatDoorLiG
namespace Go.Proofs.YtgdolcoiihagfaaGreatDoor
open Go Go.RowKit
set_option linter.all false
set_option maxRecDepth 100000
set_option maxHeartbeats 100000000
namespace Li
theorem cells2000:cellsOf 2000=2000:=by decide
theorem new2000:Hd.new 2000=⟨2000,[]⟩:=by unfold Hd.new;rw [cells2000];rfl
theorem f8_self_all:((List.range 200).all fun n=>(FloatKind.f64.format.order (f8 n) (f8 n) != some Ordering.eq) == false)=true:=by kernel_rfl
theorem f8_self (n:Nat) (h:n < 200):(FloatKind.f64.format.order (f8 n) (f8 n) != some Ordering.eq)=false:=by
 have:=List.all_eq_true.1 f8_self_all n (List.mem_range.2 h)
 exact eq_of_beq this
theorem obv (b:Nat) {w0 w:World} {hh G:Nat} {L:Bl} {lv:Value} {us:List Va} {d:Hd} {k r:Int} {n:Nat} {t:ByteArray} (h:St w0 hh G L lv us w d) (hm:(b,Obj.cells #[.int .i64 k,.float .f64 n,.string t,.int .i64 r] 25)∈L) :
   w.cell? ⟨b,0,none⟩=some (.int .i64 k)∧w.cell? ⟨b,1,none⟩=some (.float .f64 n)∧w.cell? ⟨b,2,none⟩=some (.string t)∧w.cell? ⟨b,3,none⟩=some (.int .i64 r) :=
 have E:=h.bl _ hm
 ⟨bk_cell E 0 _ rfl,bk_cell E 1 _ rfl,bk_cell E 2 _ rfl,bk_cell E 3 _ rfl⟩
theorem arrays_law (v:Value) (vs:List Va) (more:Va) (w:World) (hv:VEach w v vs) (hwf:∀ x∈vs,x.num < 18446744073709551616) (hm:more.num < 18446744073709551616) (hW:LB w) :
   Calls Tryz.prog 3 #[v,more.v] w fun e w'=>e=.returned (.bool true)∧Pur w w':=by
 have AW:=fun w' (hp:Pur w w')=>awake_any (hW.pur hp)
 have NW:=fun w=>new_st 2000 w
 rw [cells2000,new2000] at NW
 have FX:=fun w=>fit_any more w
 have FW:=Lib.hid (fun (y:Va) (h:Fit more y)=>And.intro h.right (h.wf hm))
 have NZ:=fun w=>lnum10_any 0 w
 obtain ⟨mk,mn,mt,mr⟩:=more
 simp only [Va.v,Va.cells] at FX ⊢
 obtain ⟨va,vc,hvs,-⟩:=id hv
 subst hvs
 have B0:=bk_new w (.cells #[.int .i64 mk,.float .f64 mn,.string ⟨mt.toArray⟩,.int .i64 mr] 25)
 have P0:Pur w (w.alloc (.cells #[.int .i64 mk,.float .f64 mn,.string ⟨mt.toArray⟩,.int .i64 mr] 25)):=(Pur.refl w).alloc _
 go_enter Tryz.func3,Tryz.ntmps3
 go_wp2_with fail
 generalize w.alloc (.cells #[.int .i64 mk,.float .f64 mn,.string ⟨mt.toArray⟩,.int .i64 mr] 25)=W at *
 refine (AW _ P0).mono ?_
 rintro e w1 ⟨rfl,h1⟩
 have P1:=P0.trans h1
 have B1:=bk_pur B0 h1
 clear AW B0 h1
 by_cases hbig:40 < vs.length
 · have d1:decide ((40:Int) < (vs.length:Int))=true:=decide_eq_true (by omega)
   clear NW FX FW NZ hv hwf
   go_wp2
   go_ret
   exact ⟨rfl,P1⟩
 have d1:decide ((40:Int) < (vs.length:Int))=false:=decide_eq_false (by omega)
 have FT:=fun w' (hp:Pur w w')=>fits_any (.slice va vs.length vc) vs (hv.pur hp) (by omega) hwf
 have hW1:=hW.pur P1
 go_wp2_with fail
 refine (NW _).mono ?_
 rintro e w2 ⟨hh,rfl,A2⟩
 have PL:=plain_st A2 (-1)
 rw [la_plain] at PL
 clear NW
 go_wp2_with fail
 refine PL.mono ?_
 rintro e w3 ⟨rfl,A3,-⟩
 have FT3:=FT _ (P1.trans A3.pur)
 clear PL A2 FT hv
 go_wp2_with fail
 refine FT3.mono ?_
 rintro e w4 ⟨us,lv,hF,rfl,p4,hrow⟩
 have A4:=at_other A3 (Chg.of_pur (S:=[]) p4) (K':=fun b=>(∃ o,(b,o)∈([]:Bl))∨lv.ownBlock=some b) (by intro b hb;cases hb) (by intro b hb;cases hb) (fun b hb=>by
   rcases hb with ⟨o,ho⟩ | hb
   · cases ho
   · exact ⟨.inr (hrow.lt b hb).1,(hrow.lt b hb).2⟩)
 have hun:us.length≤40:=by rw [hF.1];omega
 have hR:R 1 us:=fun u hu=>(hF.2 u hu).1
 have hUW:∀ u∈us,u.wf:=fun u hu=>(hF.2 u hu).2
 have AR:=array_st A4 lv us (VRead.of_own hrow) hUW (by omega)
 rw [la_new us (by omega) hR] at AR
 obtain ⟨la,lc,rfl⟩:=row_shape hrow
 clear FT3 A3 hwf hF
 go_wp2_with fail
 refine AR.mono ?_
 rintro e w5 ⟨rfl,A5,K5⟩
 have S5:St w1 hh 2000 [] (.slice la us.length lc) us w5 (hd (1999 - (1 + us.length)) us []):=⟨A5,fun p hp=>(by cases hp),fun p hp=>(by cases hp),⟨_,row_same hrow fun b hb=>K5 b (.inr hb)⟩⟩
 have S6:=S5.add (.cells #[.int .i64 5,.float .f64 0,.string ⟨#[]⟩,.int .i64 1] 25)
 have C1:=obv w5.heap.size S6 (List.mem_cons_self ..)
 obtain ⟨bv,hbv⟩:∃ bv,w5.heap.size=bv:=⟨_,rfl⟩
 rw [hbv] at S6 C1
 obtain ⟨v0,v1,v2,v3⟩:=C1
 have B6:=bk_pur B1 S6.at_.pur
 have m0:=bk_cell B6 0 _ rfl
 have m1:=bk_cell B6 1 _ rfl
 have m2:=bk_cell B6 2 _ rfl
 have m3:=bk_cell B6 3 _ rfl
 clear AR A4 A5 K5 S5 hrow p4 B1 B6
 go_wp2_with fail
 generalize w5.alloc (.cells #[.int .i64 5,.float .f64 0,.string ⟨#[]⟩,.int .i64 1] 25)=w6 at *
 refine (FX _).mono ?_
 rintro e w7 ⟨x,hfx,rfl,p7⟩
 obtain ⟨hxr,hxw⟩:=FW.out x hfx
 obtain ⟨xk,xn,xt,xr⟩:=x
 have S8:=(S6.pure p7).add (.cells #[.int .i64 xk,.float .f64 xn,.string ⟨xt.toArray⟩,.int .i64 xr] 25)
 obtain ⟨bx,hbx⟩:∃ bx,w7.heap.size=bx:=⟨_,rfl⟩
 rw [hbx] at S8
 clear S6 m0 m1 m2 m3 v0 v1 v2 v3 FX FW hfx p7
 simp only [Va.v,Va.cells]
 go_wp2_with fail
 generalize w7.alloc (.cells #[.int .i64 xk,.float .f64 xn,.string ⟨xt.toArray⟩,.int .i64 xr] 25)=w8 at *
 have hd1:(hd (1999 - (1 + (us.length:Int))) us []).array us=((2,0),hd (1999 - (1 + us.length) - (1 + us.length)) us [obA us]):=la_array _ us us [] (hR.up (by decide)) (by omega)
 go_cut [11,12] from 51 to 58 (fun v11 v12 wx=>∃ b,v11=.pointer (some ⟨b,0,none⟩)∧v12=.int .i64 0∧St w1 hh 2000 ((b,.cells #[.int .i64 5,.float .f64 0,.string ⟨#[]⟩,.int .i64 2] 25) :: (bx,.cells #[.int .i64 xk,.float .f64 xn,.string ⟨xt.toArray⟩,.int .i64 xr] 25) :: (bv,.cells #[.int .i64 5,.float .f64 0,.string ⟨#[]⟩,.int .i64 1] 25) :: []) (.slice la us.length lc) us wx (hd (1999 - (1 + us.length) - (1 + us.length)) us [obA us]))
 case first =>
   refine wp_region_until (T:=fun w'=>w'.heap[bv]?=some (.cells #[.int .i64 5,.float .f64 0,.string ⟨#[]⟩,.int .i64 1] 25)) 10 (by kernel_rfl) (S8.bl _ (List.mem_cons_of_mem _ (List.mem_cons_self ..))) (fun hT=>?_)
   have S9:=S8.pure ((Pur.refl w8).drew)
   refine wpAnyU_take (i:=0) (v:=?vu29) rfl (by kernel_rfl) (by kernel_rfl) (by kernel_rfl) (by kernel_rfl) (by kernel_rfl) (fun _ _ _ h=>h) (Or.inl ⟨by rfl,?hu29⟩) (by assumption) ?ru29
   case hu29=>(intro w9 hSw;(try dsimp only at hSw);go_simp;(try with_reducible rfl))
   simp only [Act.put,List.setIfInBounds_toArray,List.set_cons_zero,List.set_cons_succ]
   refine wpAnyU_take (i:=1) (v:=?v1) rfl (by kernel_rfl) (by kernel_rfl) (by kernel_rfl) (by kernel_rfl) (by kernel_rfl) (fun _ _ _ h=>h) (Or.inl ⟨by rfl,?h1⟩) (by assumption) ?r1
   case h1=>(intro w9 hSw;have f0:=bk_cell hSw 0 _ rfl;have f1:=bk_cell hSw 1 _ rfl;have f2:=bk_cell hSw 2 _ rfl;have f3:=bk_cell hSw 3 _ rfl;go_simp;(try with_reducible rfl))
   simp only [Act.put,List.setIfInBounds_toArray,List.set_cons_zero,List.set_cons_succ]
   refine wpAnyU_two (i:=2) (j:=8) (by kernel_rfl) rfl rfl (fun K hK=>?_) (fun K hK=>?_)
   · go_simp
     refine (NZ _).mono ?_
     rintro e wa ⟨rfl,pa⟩
     have Sa:=S9.pure pa
     refine hK.out _ _ ?_ (fun hT=>?_)
     clear hK K
     try simp only [Act.put,List.setIfInBounds_toArray,List.set_cons_zero,List.set_cons_succ]
     · exact Sa.bl _ (List.mem_cons_of_mem _ (List.mem_cons_self ..))
     refine wpAnyU_two (i:=3) (j:=8) (by kernel_rfl) rfl rfl (fun K hK=>?_) (fun K hK=>?_)
     · go_simp
       have Sb:=Sa.add (.cells #[.int .i64 3,.float .f64 0,.string ⟨#[]⟩,.int .i64 0] 25)
       refine hK.out _ _ ?_ (fun hT=>?_)
       clear hK K
       try simp only [Act.put,List.setIfInBounds_toArray,List.set_cons_zero,List.set_cons_succ]
       · exact Sb.bl _ (List.mem_cons_of_mem _ (List.mem_cons_of_mem _ (List.mem_cons_self ..)))
       refine wpAnyU_two (i:=4) (j:=8) (by kernel_rfl) rfl rfl (fun K hK=>?_) (fun K hK=>?_)
       · have CS:=Sb.slice (by omega) hUW hd1
         simp only [ob,Va.v,Va.cells] at CS
         go_simp
         refine CS.mono ?_
         rintro e wc ⟨rfl,Sc⟩
         refine hK.out _ _ ?_ (fun hT=>?_)
         clear hK K
         try simp only [Act.put,List.setIfInBounds_toArray,List.set_cons_zero,List.set_cons_succ]
         · exact Sc.bl _ (List.mem_cons_of_mem _ (List.mem_cons_of_mem _ (List.mem_cons_self ..)))
         refine wpAnyU_take (i:=5) (v:=?vu30) rfl (by kernel_rfl) (by kernel_rfl) (by kernel_rfl) (by kernel_rfl) (by kernel_rfl) (fun _ _ _ h=>h) (Or.inl ⟨by rfl,?hu30⟩) (by assumption) ?ru30
         case hu30=>(intro w9 hSw;(try dsimp only at hSw);go_simp;(try with_reducible rfl))
         simp only [Act.put,List.setIfInBounds_toArray,List.set_cons_zero,List.set_cons_succ]
         refine wpAnyU_take (i:=6) (v:=?vu31) rfl (by kernel_rfl) (by kernel_rfl) (by kernel_rfl) (by kernel_rfl) (by kernel_rfl) (fun _ _ _ h=>h) (Or.inl ⟨by rfl,?hu31⟩) (by assumption) ?ru31
         case hu31=>(intro w9 hSw;(try dsimp only at hSw);go_simp;(try with_reducible rfl))
         simp only [Act.put,List.setIfInBounds_toArray,List.set_cons_zero,List.set_cons_succ]
         refine wpAnyU_take (i:=7) (v:=?vu32) rfl (by kernel_rfl) (by kernel_rfl) (by kernel_rfl) (by kernel_rfl) (by kernel_rfl) (fun _ _ _ h=>h) (Or.inl ⟨by rfl,?hu32⟩) (by assumption) ?ru32
         case hu32=>(intro w9 hSw;(try dsimp only at hSw);go_simp;(try with_reducible rfl))
         simp only [Act.put,List.setIfInBounds_toArray,List.set_cons_zero,List.set_cons_succ]
         have Sd:=Sc.drop.add (.cells #[.int .i64 5,.float .f64 0,.string ⟨#[]⟩,.int .i64 2] 25)
         have Se:=Sc.drop.add (.cells #[.int .i64 0,.float .f64 0,.string ⟨#[]⟩,.int .i64 0] 25)
         refine wpAnyU_next (i:=8) (by kernel_rfl) rfl (fun K hK=>?_)
         go_simp
         refine hK.out _ _ ?_ (fun hT=>?_)
         clear hK K
         try simp only [Act.put,List.setIfInBounds_toArray,List.set_cons_zero,List.set_cons_succ]
         · exact Se.bl _ (List.mem_cons_of_mem _ (List.mem_cons_of_mem _ (List.mem_cons_self ..)))
         refine wpAnyU_next (i:=9) (by kernel_rfl) rfl (fun K hK=>?_)
         go_simp
         refine hK.out _ _ ?_ (fun hT=>?_)
         clear hK K
         try simp only [Act.put,List.setIfInBounds_toArray,List.set_cons_zero,List.set_cons_succ]
         · exact Sd.bl _ (List.mem_cons_of_mem _ (List.mem_cons_of_mem _ (List.mem_cons_self ..)))
         refine wpAnyU_tail 10 (by kernel_rfl) ?_
         simp only [List.drop_succ_cons,List.drop_zero]
         go_wp2
         go_meet
         exact ⟨_,rfl,rfl,Sd⟩
       · go_simp
         have F:=Sb.drop.fresh
         have hz:(wa.alloc (.cells #[.int .i64 3,.float .f64 0,.string ⟨#[]⟩,.int .i64 0] 25)).heap.size=wa.heap.size + 1:=Array.size_push _
         have Sx:=(Sb.add (.cells #[.int .i64 0,.float .f64 0,.string ⟨#[]⟩,.int .i64 0] 25)).swap
         rw [hz] at F Sx
         have CS:=Sx.slice (by omega) hUW hd1
         simp only [ob,Va.v,Va.cells] at CS
         refine hK.out _ _ ?_ (fun hT=>?_)
         clear hK K
         try simp only [Act.put,List.setIfInBounds_toArray,List.set_cons_zero,List.set_cons_succ]
         · exact Sx.bl _ (List.mem_cons_of_mem _ (List.mem_cons_of_mem _ (List.mem_cons_of_mem _ (List.mem_cons_self ..))))
         refine wpAnyU_next (i:=4) (by kernel_rfl) rfl (fun K hK=>?_)
         go_simp
         refine CS.mono ?_
         rintro e wc ⟨rfl,Sc⟩
         have Sd:=Sc.drop
         refine hK.out _ _ ?_ (fun hT=>?_)
         clear hK K
         try simp only [Act.put,List.setIfInBounds_toArray,List.set_cons_zero,List.set_cons_succ]
         · exact Sd.bl _ (List.mem_cons_of_mem _ (List.mem_cons_of_mem _ (List.mem_cons_self ..)))
         refine wpAnyU_take (i:=5) (v:=?vu33) rfl (by kernel_rfl) (by kernel_rfl) (by kernel_rfl) (by kernel_rfl) (by kernel_rfl) (fun _ _ _ h=>h) (Or.inl ⟨by rfl,?hu33⟩) (by assumption) ?ru33
         case hu33=>(intro w9 hSw;(try dsimp only at hSw);go_simp;(try with_reducible rfl))
         simp only [Act.put,List.setIfInBounds_toArray,List.set_cons_zero,List.set_cons_succ]
         refine wpAnyU_take (i:=6) (v:=?vu34) rfl (by kernel_rfl) (by kernel_rfl) (by kernel_rfl) (by kernel_rfl) (by kernel_rfl) (fun _ _ _ h=>h) (Or.inl ⟨by rfl,?hu34⟩) (by assumption) ?ru34
         case hu34=>(intro w9 hSw;(try dsimp only at hSw);go_simp;(try with_reducible rfl))
         simp only [Act.put,List.setIfInBounds_toArray,List.set_cons_zero,List.set_cons_succ]
         refine wpAnyU_take (i:=7) (v:=?vu35) rfl (by kernel_rfl) (by kernel_rfl) (by kernel_rfl) (by kernel_rfl) (by kernel_rfl) (fun _ _ _ h=>h) (Or.inl ⟨by rfl,?hu35⟩) (by assumption) ?ru35
         case hu35=>(intro w9 hSw;(try dsimp only at hSw);go_simp;(try with_reducible rfl))
         simp only [Act.put,List.setIfInBounds_toArray,List.set_cons_zero,List.set_cons_succ]
         have NB:=Sd.bl _ (List.mem_cons_self ..)
         obtain ⟨⟨s0,s1⟩,⟨s2,s3⟩,⟨s4,s5⟩,⟨s6,s7⟩⟩:=st4_steps (y:=Va.zero) (x:=ob 2) NB
         have HF:=Lib.hid (St.fill (x:=ob 2) Sd F.1 F.2)
         clear NB
         simp only [st4,Va.zero,ob] at s0 s1 s2 s3 s4 s5 s6 s7 HF
         refine wpAnyU_next (i:=9) (by kernel_rfl) rfl (fun K hK=>?_)
         go_simp
         refine hK.out _ _ ?_ (fun hT=>?_)
         clear hK K
         try simp only [Act.put,List.setIfInBounds_toArray,List.set_cons_zero,List.set_cons_succ]
         · exact HF.out.bl _ (List.mem_cons_of_mem _ (List.mem_cons_of_mem _ (List.mem_cons_self ..)))
         refine wpAnyU_tail 10 (by kernel_rfl) ?_
         simp only [List.drop_succ_cons,List.drop_zero]
         go_wp2
         go_meet
         exact ⟨_,rfl,rfl,HF.out⟩
     · go_simp
       have F:=Sa.fresh
       have Sx:=Sa.add (.cells #[.int .i64 0,.float .f64 0,.string ⟨#[]⟩,.int .i64 0] 25)
       refine hK.out _ _ ?_ (fun hT=>?_)
       clear hK K
       try simp only [Act.put,List.setIfInBounds_toArray,List.set_cons_zero,List.set_cons_succ]
       · exact Sx.bl _ (List.mem_cons_of_mem _ (List.mem_cons_of_mem _ (List.mem_cons_self ..)))
       refine wpAnyU_next (i:=3) (by kernel_rfl) rfl (fun K hK=>?_)
       go_simp
       have Sy:=Sx.add (.cells #[.int .i64 3,.float .f64 0,.string ⟨#[]⟩,.int .i64 0] 25)
       have hz:(wa.alloc (.cells #[.int .i64 0,.float .f64 0,.string ⟨#[]⟩,.int .i64 0] 25)).heap.size=wa.heap.size + 1:=Array.size_push _
       rw [hz] at Sy
       have CS:=Sy.slice (by omega) hUW hd1
       simp only [ob,Va.v,Va.cells] at CS
       refine hK.out _ _ ?_ (fun hT=>?_)
       clear hK K
       try simp only [Act.put,List.setIfInBounds_toArray,List.set_cons_zero,List.set_cons_succ]
       · exact Sy.bl _ (List.mem_cons_of_mem _ (List.mem_cons_of_mem _ (List.mem_cons_of_mem _ (List.mem_cons_self ..))))
       refine wpAnyU_next (i:=4) (by kernel_rfl) rfl (fun K hK=>?_)
       go_simp
       refine CS.mono ?_
       rintro e wc ⟨rfl,Sc⟩
       have Sd:=Sc.drop
       refine hK.out _ _ ?_ (fun hT=>?_)
       clear hK K
       try simp only [Act.put,List.setIfInBounds_toArray,List.set_cons_zero,List.set_cons_succ]
       · exact Sd.bl _ (List.mem_cons_of_mem _ (List.mem_cons_of_mem _ (List.mem_cons_self ..)))
       refine wpAnyU_take (i:=5) (v:=?vu36) rfl (by kernel_rfl) (by kernel_rfl) (by kernel_rfl) (by kernel_rfl) (by kernel_rfl) (fun _ _ _ h=>h) (Or.inl ⟨by rfl,?hu36⟩) (by assumption) ?ru36
       case hu36=>(intro w9 hSw;(try dsimp only at hSw);go_simp;(try with_reducible rfl))
       simp only [Act.put,List.setIfInBounds_toArray,List.set_cons_zero,List.set_cons_succ]
       refine wpAnyU_take (i:=6) (v:=?vu37) rfl (by kernel_rfl) (by kernel_rfl) (by kernel_rfl) (by kernel_rfl) (by kernel_rfl) (fun _ _ _ h=>h) (Or.inl ⟨by rfl,?hu37⟩) (by assumption) ?ru37
       case hu37=>(intro w9 hSw;(try dsimp only at hSw);go_simp;(try with_reducible rfl))
       simp only [Act.put,List.setIfInBounds_toArray,List.set_cons_zero,List.set_cons_succ]
       refine wpAnyU_take (i:=7) (v:=?vu38) rfl (by kernel_rfl) (by kernel_rfl) (by kernel_rfl) (by kernel_rfl) (by kernel_rfl) (fun _ _ _ h=>h) (Or.inl ⟨by rfl,?hu38⟩) (by assumption) ?ru38
       case hu38=>(intro w9 hSw;(try dsimp only at hSw);go_simp;(try with_reducible rfl))
       simp only [Act.put,List.setIfInBounds_toArray,List.set_cons_zero,List.set_cons_succ]
       have NB:=Sd.bl _ (List.mem_cons_self ..)
       obtain ⟨⟨s0,s1⟩,⟨s2,s3⟩,⟨s4,s5⟩,⟨s6,s7⟩⟩:=st4_steps (y:=Va.zero) (x:=ob 2) NB
       have HF:=Lib.hid (St.fill (x:=ob 2) Sd F.1 F.2)
       clear NB
       simp only [st4,Va.zero,ob] at s0 s1 s2 s3 s4 s5 s6 s7 HF
       refine wpAnyU_next (i:=9) (by kernel_rfl) rfl (fun K hK=>?_)
       go_simp
       refine hK.out _ _ ?_ (fun hT=>?_)
       clear hK K
       try simp only [Act.put,List.setIfInBounds_toArray,List.set_cons_zero,List.set_cons_succ]
       · exact HF.out.bl _ (List.mem_cons_of_mem _ (List.mem_cons_of_mem _ (List.mem_cons_self ..)))
       refine wpAnyU_tail 10 (by kernel_rfl) ?_
       simp only [List.drop_succ_cons,List.drop_zero]
       go_wp2
       go_meet
       exact ⟨_,rfl,rfl,HF.out⟩
   · go_simp
     have F:=S8.fresh
     have Sx:=(S8.add (.cells #[.int .i64 0,.float .f64 0,.string ⟨#[]⟩,.int .i64 0] 25)).pure ((Pur.refl _).drew)
     refine hK.out _ _ ?_ (fun hT=>?_)
     clear hK K
     try simp only [Act.put,List.setIfInBounds_toArray,List.set_cons_zero,List.set_cons_succ]
     · exact Sx.bl _ (List.mem_cons_of_mem _ (List.mem_cons_of_mem _ (List.mem_cons_self ..)))
     refine wpAnyU_next (i:=2) (by kernel_rfl) rfl (fun K hK=>?_)
     go_simp
     refine (NZ _).mono ?_
     rintro e wa ⟨rfl,pa⟩
     have Sy:=Sx.pure (by exact pa)
     refine hK.out _ _ ?_ (fun hT=>?_)
     clear hK K
     try simp only [Act.put,List.setIfInBounds_toArray,List.set_cons_zero,List.set_cons_succ]
     · exact Sy.bl _ (List.mem_cons_of_mem _ (List.mem_cons_of_mem _ (List.mem_cons_self ..)))
     refine wpAnyU_next (i:=3) (by kernel_rfl) rfl (fun K hK=>?_)
     go_simp
     have Sz:=Sy.add (.cells #[.int .i64 3,.float .f64 0,.string ⟨#[]⟩,.int .i64 0] 25)
     have CS:=Sz.slice (by omega) hUW hd1
     simp only [ob,Va.v,Va.cells] at CS
     refine hK.out _ _ ?_ (fun hT=>?_)
     clear hK K
     try simp only [Act.put,List.setIfInBounds_toArray,List.set_cons_zero,List.set_cons_succ]
     · exact Sz.bl _ (List.mem_cons_of_mem _ (List.mem_cons_of_mem _ (List.mem_cons_of_mem _ (List.mem_cons_self ..))))
     refine wpAnyU_next (i:=4) (by kernel_rfl) rfl (fun K hK=>?_)
     go_simp
     refine CS.mono ?_
     rintro e wc ⟨rfl,Sc⟩
     have Sd:=Sc.drop
     refine hK.out _ _ ?_ (fun hT=>?_)
     clear hK K
     try simp only [Act.put,List.setIfInBounds_toArray,List.set_cons_zero,List.set_cons_succ]
     · exact Sd.bl _ (List.mem_cons_of_mem _ (List.mem_cons_of_mem _ (List.mem_cons_self ..)))
     refine wpAnyU_take (i:=5) (v:=?vu39) rfl (by kernel_rfl) (by kernel_rfl) (by kernel_rfl) (by kernel_rfl) (by kernel_rfl) (fun _ _ _ h=>h) (Or.inl ⟨by rfl,?hu39⟩) (by assumption) ?ru39
     case hu39=>(intro w9 hSw;(try dsimp only at hSw);go_simp;(try with_reducible rfl))
     simp only [Act.put,List.setIfInBounds_toArray,List.set_cons_zero,List.set_cons_succ]
     refine wpAnyU_take (i:=6) (v:=?vu40) rfl (by kernel_rfl) (by kernel_rfl) (by kernel_rfl) (by kernel_rfl) (by kernel_rfl) (fun _ _ _ h=>h) (Or.inl ⟨by rfl,?hu40⟩) (by assumption) ?ru40
     case hu40=>(intro w9 hSw;(try dsimp only at hSw);go_simp;(try with_reducible rfl))
     simp only [Act.put,List.setIfInBounds_toArray,List.set_cons_zero,List.set_cons_succ]
     refine wpAnyU_take (i:=7) (v:=?vu41) rfl (by kernel_rfl) (by kernel_rfl) (by kernel_rfl) (by kernel_rfl) (by kernel_rfl) (fun _ _ _ h=>h) (Or.inl ⟨by rfl,?hu41⟩) (by assumption) ?ru41
     case hu41=>(intro w9 hSw;(try dsimp only at hSw);go_simp;(try with_reducible rfl))
     simp only [Act.put,List.setIfInBounds_toArray,List.set_cons_zero,List.set_cons_succ]
     have NB:=Sd.bl _ (List.mem_cons_self ..)
     obtain ⟨⟨s0,s1⟩,⟨s2,s3⟩,⟨s4,s5⟩,⟨s6,s7⟩⟩:=st4_steps (y:=Va.zero) (x:=ob 2) NB
     have HF:=Lib.hid (St.fill (x:=ob 2) Sd F.1 F.2)
     clear NB
     simp only [st4,Va.zero,ob] at s0 s1 s2 s3 s4 s5 s6 s7 HF
     refine wpAnyU_next (i:=9) (by kernel_rfl) rfl (fun K hK=>?_)
     go_simp
     refine hK.out _ _ ?_ (fun hT=>?_)
     clear hK K
     try simp only [Act.put,List.setIfInBounds_toArray,List.set_cons_zero,List.set_cons_succ]
     · exact HF.out.bl _ (List.mem_cons_of_mem _ (List.mem_cons_of_mem _ (List.mem_cons_self ..)))
     refine wpAnyU_tail 10 (by kernel_rfl) ?_
     simp only [List.drop_succ_cons,List.drop_zero]
     go_wp2
     go_meet
     exact ⟨_,rfl,rfl,HF.out⟩
 case rest =>
   obtain ⟨bb,rfl,rfl,S⟩:=hcut
   have hP8:=S8.at_.pur
   clear S8 NZ hd1
   obtain ⟨n,hln⟩:∃ n,us.length=n:=⟨_,rfl⟩
   have hR4:R 4 us:=hR.up (by decide)
   have hR3:R 3 us:=hR.up (by decide)
   have hRr:R 4 us.reverse:=fun u hu=>hR4 u (List.mem_reverse.1 hu)
   have hWr:∀ u∈us.reverse,u.wf:=fun u hu=>hUW u (List.mem_reverse.1 hu)
   have hrl:us.reverse.length=n:=by rw [List.length_reverse,hln]
   rw [hln] at S hun
   obtain ⟨c1,hc1⟩:∃ c1:Int,1999 - (1 + (n:Int)) - (1 + n)=c1:=⟨_,rfl⟩
   rw [hc1] at S
   have hd2:(hd c1 us [obA us]).array us=((3,0),hd (c1 - (1 + n)) us [obA us,obA us]):=by
     have:=la_array c1 us us [obA us] hR3 (by rw [hln];omega)
     rw [hln] at this
     exact this
   have CN:=S.concat (by omega) hUW hd2
   obtain ⟨v0,v1,v2,v3⟩:=obv bv S (List.mem_cons_of_mem _ (List.mem_cons_of_mem _ (List.mem_cons_self ..)))
   simp only [ob,Va.v,Va.cells] at CN
   clear hd2
   go_wp2_with fail
   refine CN.mono ?_
   rintro e w9 ⟨rfl,S9⟩
   have S10:=S9.add (.cells #[.int .i64 5,.float .f64 0,.string ⟨#[]⟩,.int .i64 3] 25)
   obtain ⟨bc,hbc⟩:∃ b,w9.heap.size=b:=⟨_,rfl⟩
   rw [hbc] at S10
   clear CN S S9 v0 v1 v2 v3
   obtain ⟨v0,v1,v2,v3⟩:=obv bv S10 (List.mem_cons_of_mem _ (List.mem_cons_of_mem _ (List.mem_cons_of_mem _ (List.mem_cons_self ..))))
   have CR:=S10.reverse hW1.c.h (by omega) hUW hR4
   simp only [ob,Va.v,Va.cells] at CR
   go_wp2_with fail
   generalize w9.alloc (.cells #[.int .i64 5,.float .f64 0,.string ⟨#[]⟩,.int .i64 3] 25)=w10 at *
   refine CR.mono ?_
   rintro e w11 ⟨rfl,S11⟩
   have S12:=S11.pure ((Pur.refl w11).alloc (.cells #[.int .i64 5,.float .f64 0,.string ⟨#[]⟩,.int .i64 1] 25))
   clear CR S10 S11 v0 v1 v2 v3
   obtain ⟨v0,v1,v2,v3⟩:=obv bv S12 (List.mem_cons_of_mem _ (List.mem_cons_of_mem _ (List.mem_cons_of_mem _ (List.mem_cons_self ..))))
   obtain ⟨x0,x1,x2,x3⟩:=obv bx S12 (List.mem_cons_of_mem _ (List.mem_cons_of_mem _ (List.mem_cons_self ..)))
   obtain ⟨W12,hW12⟩:∃ W12,W12=w11.alloc (.cells #[.int .i64 5,.float .f64 0,.string ⟨#[]⟩,.int .i64 1] 25):=⟨_,rfl⟩
   have hs12:W12.heap.size=w11.heap.size + 1:=by rw [hW12];exact Array.size_push _
   have S13:=S12
   rw [← hW12] at S13
   replace S13:=S13.add (.cells #[.int .i64 xk,.float .f64 xn,.string ⟨xt.toArray⟩,.int .i64 xr] 25)
   have CP:=S13.push hW1.c.h (by omega) hxw (right_up _ _ _ (by simp) hxr) (by omega)
   rw [hs12] at CP
   rw [hrl] at CP
   obtain ⟨fx,hfx⟩:∃ fx,f8 (n + 1)=fx:=⟨_,rfl⟩
   have hself:=f8_self (n + 1) (by omega)
   have CVI:∀ w,(convert 3 23 (.int .i64 ((n:Int) + 1))).run Tryz.prog w=.ok (.float .f64 (f8 (n + 1))) w:=fun _=>rfl
   simp only [hfx] at CP hself CVI
   simp only [ob,Va.v,Va.cells] at CP
   subst hW12
   clear hfx S12 S13 hs12
   go_wp2_with fail
   refine CP.mono ?_
   rintro e w14 ⟨rfl,S14⟩
   have S15:=S14.add (.cells #[.int .i64 3,.float .f64 fx,.string ⟨#[]⟩,.int .i64 0] 25)
   obtain ⟨bn,hbn⟩:∃ b,w14.heap.size=b:=⟨_,rfl⟩
   rw [hbn] at S15
   clear CP S14 v0 v1 v2 v3 x0 x1 x2 x3
   obtain ⟨v0,v1,v2,v3⟩:=obv bv S15 (List.mem_cons_of_mem _ (List.mem_cons_of_mem _ (List.mem_cons_of_mem _ (List.mem_cons_of_mem _ (List.mem_cons_self ..)))))
   have CO:=S15.pop hW1.c.h (m:=us.reverse) (x:=⟨xk,xn,xt,xr⟩) (by omega) rfl (by omega)
   simp only [ob,Va.v,Va.cells] at CO
   go_wp2_with fail
   generalize w14.alloc (.cells #[.int .i64 3,.float .f64 fx,.string ⟨#[]⟩,.int .i64 0] 25)=w15 at *
   refine CO.mono ?_
   rintro e w16 ⟨rfl,S16⟩
   have S17:=S16.add (.cells #[.int .i64 xk,.float .f64 xn,.string ⟨xt.toArray⟩,.int .i64 xr] 25)
   obtain ⟨bY,hbY⟩:∃ b,w16.heap.size=b:=⟨_,rfl⟩
   rw [hbY] at S17
   clear CO S15 S16 v0 v1 v2 v3
   obtain ⟨v0,v1,v2,v3⟩:=obv bv S17 (List.mem_cons_of_mem _ (List.mem_cons_of_mem _ (List.mem_cons_of_mem _ (List.mem_cons_of_mem _ (List.mem_cons_of_mem _ (List.mem_cons_self ..))))))
   have CR:=S17.reverse hW1.c.h (by omega) hWr hRr
   rw [List.reverse_reverse] at CR
   simp only [ob,Va.v,Va.cells] at CR
   go_wp2_with fail
   generalize w16.alloc (.cells #[.int .i64 xk,.float .f64 xn,.string ⟨xt.toArray⟩,.int .i64 xr] 25)=w17 at *
   refine CR.mono ?_
   rintro e w18 ⟨rfl,S18⟩
   have S19:=S18.add (.cells #[.int .i64 5,.float .f64 0,.string ⟨#[]⟩,.int .i64 1] 25)
   obtain ⟨bw,hbw⟩:∃ b,w18.heap.size=b:=⟨_,rfl⟩
   rw [hbw] at S19
   clear CR S17 S18 v0 v1 v2 v3
   obtain ⟨c2,hc2⟩:∃ c2:Int,c1 - (1 + (n:Int)) - 1 + 1=c2:=⟨_,rfl⟩
   rw [hc2] at S19
   obtain ⟨v0,v1,v2,v3⟩:=obv bv S19 (List.mem_cons_of_mem _ (List.mem_cons_of_mem _ (List.mem_cons_of_mem _ (List.mem_cons_of_mem _ (List.mem_cons_of_mem _ (List.mem_cons_of_mem _ (List.mem_cons_self ..)))))))
   obtain ⟨x0,x1,x2,x3⟩:=obv bx S19 (List.mem_cons_of_mem _ (List.mem_cons_of_mem _ (List.mem_cons_of_mem _ (List.mem_cons_of_mem _ (List.mem_cons_of_mem _ (List.mem_cons_self ..))))))
   obtain ⟨y0,y1,y2,y3⟩:=obv bY S19 (List.mem_cons_of_mem _ (List.mem_cons_self ..))
   obtain ⟨z0,z1,z2,z3⟩:=obv bw S19 (List.mem_cons_self ..)
   have n1:=(obv bn S19 (List.mem_cons_of_mem _ (List.mem_cons_of_mem _ (List.mem_cons_self ..)))).2.1
   have RX:=fun w=>rsame_self ⟨xk,xn,xt,xr⟩ w
   have RO:=fun w=>rsame_self ⟨5,0,[],1⟩ w
   simp only [Va.v,Va.cells] at RX RO
   have wn1:IntKind.i64.wrap ((n:Int) + 1)=(n:Int) + 1:=IntWalk.i64_in _ (by omega)
   go_wp2_with fail
   generalize w18.alloc (.cells #[.int .i64 5,.float .f64 0,.string ⟨#[]⟩,.int .i64 1] 25)=w19 at *
   refine (RX _).mono ?_
   rintro e w20 ⟨rfl,p20⟩
   have S20:=S19.pure p20
   clear v0 v1 v2 v3 x0 x1 x2 x3 y0 y1 y2 y3 z0 z1 z2 z3 RX n1 S19
   obtain ⟨v0,v1,v2,v3⟩:=obv bv S20 (List.mem_cons_of_mem _ (List.mem_cons_of_mem _ (List.mem_cons_of_mem _ (List.mem_cons_of_mem _ (List.mem_cons_of_mem _ (List.mem_cons_of_mem _ (List.mem_cons_self ..)))))))
   obtain ⟨z0,z1,z2,z3⟩:=obv bw S20 (List.mem_cons_self ..)
   go_wp2_with fail
   refine (RO _).mono ?_
   rintro e w21 ⟨rfl,p21⟩
   have S21:=S20.pure p21
   clear v0 v1 v2 v3 z0 z1 z2 z3 RO S20
   have IT:=items_st S21.at_ 1
   rw [la_items] at IT
   simp only [Option.isSome_some,Option.getD_some,hln] at IT
   go_wp2_with fail
   refine IT.mono ?_
   rintro e w22 ⟨pv,rfl,p22,rp⟩
   have S22:=S21.pure p22
   have IT2:=items_st S22.at_ 2
   rw [la_items2] at IT2
   simp only [Option.isSome_some,Option.getD_some,hln] at IT2
   have b3:=(obv bb S22 (List.mem_cons_of_mem _ (List.mem_cons_of_mem _ (List.mem_cons_of_mem _ (List.mem_cons_of_mem _ (List.mem_cons_self ..)))))).2.2.2
   obtain ⟨pa,pc,rfl⟩:=row_shape rp
   clear IT S21
   go_wp2_with fail
   refine IT2.mono ?_
   rintro e w23 ⟨qv,rfl,p23,rq⟩
   have S23:=S22.pure p23
   have IT3:=items_st S23.at_ 3
   rw [la_items3] at IT3
   simp only [Option.isSome_some,Option.getD_some,hln] at IT3
   have c3:=(obv bc S23 (List.mem_cons_of_mem _ (List.mem_cons_of_mem _ (List.mem_cons_of_mem _ (List.mem_cons_self ..))))).2.2.2
   obtain ⟨qa,qc,rfl⟩:=row_shape rq
   have rp3:=row_pur rp p23
   clear IT2 S22 b3 rp
   go_wp2_with fail
   refine IT3.mono ?_
   rintro e w24 ⟨rv,rfl,p24,rr⟩
   have S24:=S23.pure p24
   obtain ⟨ra,rc,rfl⟩:=row_shape rr
   have rp4:=row_pur rp3 p24
   have rq4:=row_pur rq p24
   have b3:=(obv bb S24 (List.mem_cons_of_mem _ (List.mem_cons_of_mem _ (List.mem_cons_of_mem _ (List.mem_cons_of_mem _ (List.mem_cons_self ..)))))).2.2.2
   have c3:=(obv bc S24 (List.mem_cons_of_mem _ (List.mem_cons_of_mem _ (List.mem_cons_of_mem _ (List.mem_cons_self ..))))).2.2.2
   have HP:=S24.at_.pur
   obtain ⟨BL,rl⟩:=S24.row
   have VP:=fun w' (hp:Pur w24 w')=>samevals_any (.slice pa n pc) (.slice la n lc) us (VRead.of_own (by rw [hln];exact row_pur rp4 hp)) (VRead.of_own (by rw [hln];have:=row_pur rl hp;rw [hln] at this;exact this)) (by omega)
   have VQ:=fun w' (hp:Pur w24 w')=>samevals_any (.slice qa n qc) (.slice la n lc) us (VRead.of_own (by rw [hln];exact row_pur rq4 hp)) (VRead.of_own (by rw [hln];have:=row_pur rl hp;rw [hln] at this;exact this)) (by omega)
   have VR:=fun w' (hp:Pur w24 w')=>samevals_any (.slice ra n rc) (.slice la n lc) us (VRead.of_own (by rw [hln];exact row_pur rr hp)) (VRead.of_own (by rw [hln];have:=row_pur rl hp;rw [hln] at this;exact this)) (by omega)
   clear IT3 S23 rp3 p22 p23 p24 rq rr rl rp4 rq4
   go_wp2_with fail
   refine (VP _ (Pur.refl _)).mono ?_
   rintro e w25 ⟨rfl,p25⟩
   go_wp2_with fail
   refine (VQ _ p25).mono ?_
   rintro e w26 ⟨rfl,p26⟩
   go_wp2_with fail
   refine (VR _ (p25.trans p26)).mono ?_
   rintro e w27 ⟨rfl,p27⟩
   have PF:=P1.trans (HP.trans ((p25.trans p26).trans p27))
   clear VP VQ VR S24 b3 c3
   go_wp2
   go_ret
   exact ⟨by simp,PF⟩
end Li
end Go.Proofs.YtgdolcoiihagfaaGreatDoor
