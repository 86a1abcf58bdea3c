/- Layer 10: awake. What the cards of layer 10 take: eslib's variables out of the row's list. -/
import Derived.Test.YtgdolcoiihagfaaGreatDoorLiG
import Derived.Test.YtgdolcoiihagfaaGreatDoorLi22
import Derived.Test.YtgdolcoiihagfaaGreatDoorLiF
import Derived.Test.YtgdolcoiihagfaaGreatDoorCvV
namespace Go.Proofs.YtgdolcoiihagfaaGreatDoor
open Go Go.RowKit
set_option linter.all false
set_option maxRecDepth 100000
set_option maxHeartbeats 100000000
namespace Li
open P10
/-- what is asked of the world -/
structure LB (w:World):Prop where
 c:Cv.CW w
 l:LW w
theorem LB.pur {w w':World} (h:LB w) (hp:Pur w w'):LB w':=⟨h.c.pur hp,h.l.pur hp⟩
theorem LB.ut {w:World} (h:LB w):UT w:=h.c.h.tabs
theorem aw_pre:pre [] (unitsOf (wide8 [48,120,49,70,122]))=[48,120,49,70,122]:=by decide
theorem awake_any {w:World} (hW:LB w):Calls Tryz.prog 7 #[] w fun e w'=>e=.returned (.bool true)∧Pur w w':=by
 have NW:=fun w=>new_st 100 w
 have O:=fun l (h:l.length≤1000000) w=>Ft.of_any l w h
 have OJ:∀ w,Calls Tryz.prog 20 #[.string ⟨jb.toArray⟩] w fun e w'=>e=.returned (.string ⟨jt.toArray⟩)∧Pur w w':=fun w=>by
   have:=Ft.of_any jb w (by decide)
   rw [show Lx.w16 jb=jt by decide] at this
   exact this
 have OP:∀ w,Calls Tryz.prog 20 #[.string ⟨([112,117,115,104]:List UInt8).toArray⟩] w fun e w'=>e=.returned (.string ⟨(wide8 [112,117,115,104]).toArray⟩)∧Pur w w':=fun w=>Ft.of_any _ w (by decide)
 have T1:∀ w,Calls Tryz.prog 26 #[.string ⟨#[97,44,98,44]⟩] w fun e w'=>e=.returned (.agg #[.int .i64 4,.float .f64 0,.string ⟨aT.toArray⟩,.int .i64 0])∧Pur w w':=fun w=>l10text [97,44,98,44] (by decide) w
 have T2:∀ w,Calls Tryz.prog 26 #[.string ⟨#[44]⟩] w fun e w'=>e=.returned (.agg #[.int .i64 4,.float .f64 0,.string ⟨aC.toArray⟩,.int .i64 0])∧Pur w w':=fun w=>l10text [44] (by decide) w
 have T3:=fun w=>l10text [48,120,49,70,122] (by decide) w
 have NM:=fun w=>lnum10_any one w
 clear O
 simp only [jb,one] at OJ NM
 go_enter Tryz.func7,Tryz.ntmps7
 go_wp2_with fail
 refine (NW _).mono ?_
 rintro e w1 ⟨hh,rfl,A1⟩
 have IN:=install_ok A1 hW.ut hW.l
 clear NW
 go_wp2_with fail
 refine IN.mono ?_
 rintro e w2 ⟨rfl,A2,-⟩
 clear IN A1
 go_wp2_with fail
 refine (OJ _).mono ?_
 rintro e w3 ⟨rfl,p3⟩
 have A3:=(A2.pure p3).1
 have PR:=parse_aw A3 (hW.ut.pur A3.pur) (x:=one) (by decide) (by decide) a1 a2 a3 (fun w' hp=>n1_any ((hW.c.pur A3.pur).pur hp))
 clear A2 p3
 go_wp2_with fail
 refine PR.mono ?_
 rintro e w4 ⟨rfl,A4,-⟩
 clear PR A3
 have B4:=bk_new w4 (.cells #[.int .i64 5,.float .f64 0,.string ⟨#[]⟩,.int .i64 6] 25)
 have P4:=(Pur.refl w4).alloc (.cells #[.int .i64 5,.float .f64 0,.string ⟨#[]⟩,.int .i64 6] 25)
 have A5:=A4.keep P4 w4.heap.size (Nat.le_refl _) (bk_lt B4)
 have ST:=strify_aw A5 (hW.ut.pur A5.pur) (hW.c.h.pur A5.pur) a5 a6 a7 a8 (by decide) a9.1 a9.2 (fun w' hp=>by
   have:=Ft.text_any one ((hW.c.k.pur A5.pur).pur hp).x (by decide)
   rw [show Ft.txt Hi0 Lo0 one=[49] from Cv.tx_1] at this
   exact this)
 have v0:=bk_cell B4 0 _ rfl
 have v1:=bk_cell B4 1 _ rfl
 have v2:=bk_cell B4 2 _ rfl
 have v3:=bk_cell B4 3 _ rfl
 clear A4 B4 P4
 go_wp2_with fail
 refine ST.mono ?_
 rintro e w5 ⟨rfl,p5⟩
 have A6:=(A5.pure p5).1
 have B6:=bk_new w5 (.cells #[.int .i64 4,.float .f64 0,.string ⟨jt.toArray⟩,.int .i64 0] 25)
 have P6:=(Pur.refl w5).alloc (.cells #[.int .i64 4,.float .f64 0,.string ⟨jt.toArray⟩,.int .i64 0] 25)
 have A7:=(A6.keep P6 w5.heap.size (Nat.le_refl _) (bk_lt B6)).sub (K':=fun b=>b=w5.heap.size) (fun b hb=>.inr hb)
 obtain ⟨bs,hbs⟩:∃ bs,w5.heap.size=bs:=⟨_,rfl⟩
 rw [hbs] at A7 B6
 clear ST A5 A6 P6 v0 v1 v2 v3 p5
 go_wp2_with fail
 generalize w5.alloc (.cells #[.int .i64 4,.float .f64 0,.string ⟨jt.toArray⟩,.int .i64 0] 25)=w6 at *
 refine (T1 _).mono ?_
 rintro e w7 ⟨rfl,p7⟩
 go_wp2_with fail
 refine (T2 _).mono ?_
 rintro e w8 ⟨rfl,p8⟩
 have A8:=(A7.pure (p7.trans p8)).1
 have B8:=bk_pur B6 (p7.trans p8)
 have B9:=bk_new w8 (.cells #[.int .i64 4,.float .f64 0,.string ⟨aC.toArray⟩,.int .i64 0] 25)
 have P9:=(Pur.refl w8).alloc (.cells #[.int .i64 4,.float .f64 0,.string ⟨aC.toArray⟩,.int .i64 0] 25)
 have A9:=A8.keep P9 w8.heap.size (Nat.le_refl _) (bk_lt B9)
 have B8':=bk_pur B8 P9
 have CS:=call_split (av:=.slice (some ⟨w8.heap.size,0,none⟩) 1 1) 0 7 aT aC 0 A9 (.inr ⟨w8.heap.size,1,(0,0),rfl,B9⟩) (fun b hb=>by simp [Value.ownBlock] at hb;exact .inr hb.symm) (by decide) (by decide) (by decide) (by decide) (by decide) a4
 simp only [ob,Va.v,Va.cells] at CS
 clear A7 A8 B6 B8 p7 p8 T1 T2 P9 B9
 go_wp2_with fail
 refine CS.mono ?_
 rintro e w10 ⟨rfl,A10,K10⟩
 have B10:=(K10 _ (.inl rfl)).trans B8'
 replace A10:=A10.sub (K':=fun b=>b=bs) (fun b hb=>.inl hb)
 clear CS A9 K10 B8'
 have C10:=bk_new w10 (.cells #[.int .i64 5,.float .f64 0,.string ⟨#[]⟩,.int .i64 7] 25)
 have P10:=(Pur.refl w10).alloc (.cells #[.int .i64 5,.float .f64 0,.string ⟨#[]⟩,.int .i64 7] 25)
 have A11:=A10.keep P10 w10.heap.size (Nat.le_refl _) (bk_lt C10)
 have B11:=bk_pur B10 P10
 obtain ⟨bp,hbp⟩:∃ bp,w10.heap.size=bp:=⟨_,rfl⟩
 rw [hbp] at C10 A11
 have c3:=bk_cell C10 3 _ rfl
 have IT:=items_st A11 7
 rw [a10] at IT
 simp only [Option.isSome_some,Option.getD_some,aL_len] at IT
 clear A10 B10 P10
 go_wp2_with fail
 generalize w10.alloc (.cells #[.int .i64 5,.float .f64 0,.string ⟨#[]⟩,.int .i64 7] 25)=w11 at *
 refine IT.mono ?_
 rintro e w12 ⟨lv,rfl,p12,hrow⟩
 obtain ⟨la,lc,rfl⟩:=row_shape hrow
 have A12:=(A11.pure p12).1
 have B12:=bk_pur B11 p12
 have C12:=bk_pur C10 p12
 clear IT hrow A11 B11 C10 c3 p12
 go_wp2_with fail
 refine (T3 _).mono ?_
 rintro e w13 ⟨rfl,p13⟩
 have A13:=(A12.pure p13).1
 have B13:=bk_pur B12 p13
 have C13:=bk_pur C12 p13
 have B14:=bk_new w13 (.cells #[.int .i64 4,.float .f64 0,.string ⟨(wide8 [48,120,49,70,122]).toArray⟩,.int .i64 0] 25)
 have P14:=(Pur.refl w13).alloc (.cells #[.int .i64 4,.float .f64 0,.string ⟨(wide8 [48,120,49,70,122]).toArray⟩,.int .i64 0] 25)
 have A14:=A13.keep P14 w13.heap.size (Nat.le_refl _) (bk_lt B14)
 have B14':=bk_pur B13 P14
 have C14:=bk_pur C13 P14
 have hW14:=hW.pur A14.pur
 have CI:=call_plain (v:=Va.zero) (av:=.slice (some ⟨w13.heap.size,0,none⟩) 1 1) (vs:=[tx (wide8 [48,120,49,70,122])]) A14 (.inr ⟨w13.heap.size,1,(0,0),rfl,B14⟩) (fun b hb=>by simp [Value.ownBlock] at hb;exact .inr hb.symm) 5 ⟨3,4629418941960159232,[],0⟩ (by decide) (fun K' W cb hcb hka hA hC hp=>plain_int _ _ hA hC hcb hka (fun w' hp2=>num_und _ _ ((hW14.pur hp).pur hp2).ut (fun w'' hp3=>nq_any (((hW14.pur hp).pur hp2).pur hp3).c) ) (fun w' hp2 =>
   parse_any (wide8 [48,120,49,70,122]) [48,120,49,70,122] [48,120,49,70,122] [49,70,122] true 2 4629418941960159232 (by decide) aw_pre (by decide) (by decide) rfl ⟨by decide,by decide +kernel,by decide +kernel⟩ (by decide) .nilIface (fun w'' hp3=>pf31 (((hW14.pur hp).pur hp2).pur hp3).c)))
 simp only [Va.v,Va.cells,Va.zero] at CI
 clear A12 A13 B12 B13 C12 C13 T3 P14 B14 p13 hW14
 go_wp2_with fail
 refine CI.mono ?_
 rintro e w15 ⟨rfl,A15,K15⟩
 have B15:=(K15 _ (.inl (.inl rfl))).trans B14'
 have C15:=(K15 _ (.inl (.inr rfl))).trans C14
 replace A15:=A15.sub (K':=fun b=>b=bs∨b=bp) (fun b hb=>.inl hb)
 clear CI A14 K15 B14' C14
 have D15:=bk_new w15 (.cells #[.int .i64 3,.float .f64 4629418941960159232,.string ⟨#[]⟩,.int .i64 0] 25)
 have P15:=(Pur.refl w15).alloc (.cells #[.int .i64 3,.float .f64 4629418941960159232,.string ⟨#[]⟩,.int .i64 0] 25)
 have A16:=A15.keep P15 w15.heap.size (Nat.le_refl _) (bk_lt D15)
 have B16:=bk_pur B15 P15
 have C16:=bk_pur C15 P15
 obtain ⟨bn,hbn⟩:∃ bn,w15.heap.size=bn:=⟨_,rfl⟩
 rw [hbn] at D15 A16
 clear A15 B15 C15 P15
 go_wp2_with fail
 generalize w15.alloc (.cells #[.int .i64 3,.float .f64 4629418941960159232,.string ⟨#[]⟩,.int .i64 0] 25)=w16 at *
 refine (NM _).mono ?_
 rintro e w17 ⟨rfl,p17⟩
 have A17:=(A16.pure p17).1
 have B17:=bk_pur B16 p17
 have C17:=bk_pur C16 p17
 have D17:=bk_pur D15 p17
 have CT:=call_thrown (v:=⟨3,one,[],0⟩) none 0 0 A17 50 (by decide) (by decide) rfl
 simp only [one,Va.v,Va.cells,Va.zero] at CT
 clear A16 B16 C16 D15 p17 NM
 go_wp2_with fail
 refine CT.mono ?_
 rintro e w18 ⟨rfl,A18,K18⟩
 have B18:=(K18 _ (.inl (.inl rfl))).trans B17
 have C18:=(K18 _ (.inl (.inr rfl))).trans C17
 have D18:=(K18 _ (.inr rfl)).trans D17
 clear CT A17 K18 B17 C17 D17
 have P18:=(Pur.refl w18).alloc (.cells #[.int .i64 0,.float .f64 0,.string ⟨#[]⟩,.int .i64 0] 25)
 have A19:=(A18.pure P18).1
 have B19:=bk_pur B18 P18
 have C19:=bk_pur C18 P18
 have D19:=bk_pur D18 P18
 clear A18 B18 C18 D18
 have MP:=fun w' (hp:Pur (w18.alloc (.cells #[.int .i64 0,.float .f64 0,.string ⟨#[]⟩,.int .i64 0] 25)) w')=>method_push (hW.ut) (hW.l) ((A19.pur).trans hp) (A19.pure hp).1 7 a11
 simp only [ob,Va.v,Va.cells] at MP
 go_wp2_with fail
 generalize w18.alloc (.cells #[.int .i64 0,.float .f64 0,.string ⟨#[]⟩,.int .i64 0] 25)=w19 at *
 have HP19:=A19.pur
 have CF:∀ w',Pur w19 w'→w'.cell? ⟨bp,0,none⟩=some (.int .i64 5)∧w'.cell? ⟨bp,1,none⟩=some (.float .f64 0)∧w'.cell? ⟨bp,2,none⟩=some (.string ⟨#[]⟩)∧w'.cell? ⟨bp,3,none⟩=some (.int .i64 7):=fun w' hp =>
   have E:=bk_pur C19 hp
   ⟨bk_cell E 0 _ rfl,bk_cell E 1 _ rfl,bk_cell E 2 _ rfl,bk_cell E 3 _ rfl⟩
 clear A19 C19 OJ hbs hbp hbn
 go_cut [16,17] from 67 to 73 (fun v16 v17 wx=>∃ b,v16=.pointer (some ⟨b,0,none⟩)∧v17=.bool true∧Pur w19 wx∧wx.heap[b]?=some (.cells #[.int .i64 6,.float .f64 0,.string ⟨#[]⟩,.int .i64 50] 25 (0,0)))
 case first =>
   clear B19 D19 HP19
   refine wp_region_until (T:=fun w'=>Pur w19 w') 9 (by kernel_rfl) (Pur.drew (Pur.refl _)) (fun hT=>?_)
   refine wpAnyU_take (i:=0) (v:=?vu19) rfl (by kernel_rfl) (by kernel_rfl) (by kernel_rfl) (by kernel_rfl) (by kernel_rfl) (fun _ _ _ h=>h) (Or.inl ⟨by rfl,?hu19⟩) (by assumption) ?ru19
   case hu19=>(intro w9 hSw;(try dsimp only at hSw);go_simp;(try with_reducible rfl))
   simp only [Act.put,List.setIfInBounds_toArray,List.set_cons_zero,List.set_cons_succ]
   refine wpAnyU_take (i:=1) (v:=?v1) rfl (by kernel_rfl) (by kernel_rfl) (by kernel_rfl) (by kernel_rfl) (by kernel_rfl) (fun _ _ _ h=>h) (Or.inl ⟨by rfl,?h1⟩) (by assumption) ?r1
   case h1=>(intro w9 hSw;obtain ⟨f0,f1,f2,f3⟩:=CF w9 hSw;go_simp;(try with_reducible rfl))
   simp only [Act.put,List.setIfInBounds_toArray,List.set_cons_zero,List.set_cons_succ]
   refine wpAnyU_two (i:=2) (j:=7) (by kernel_rfl) rfl rfl (fun K hK=>?_) (fun K hK=>?_)
   · go_simp
     refine (OP _).mono ?_
     rintro e wa ⟨rfl,pa⟩
     have Pa:Pur w19 wa:=((Pur.refl w19).drew).trans pa
     have MPa:=MP _ Pa
     refine hK.out _ _ ?_ (fun hT=>?_)
     clear hK K
     try simp only [Act.put,List.setIfInBounds_toArray,List.set_cons_zero,List.set_cons_succ]
     · exact Pa
     refine wpAnyU_two (i:=3) (j:=7) (by kernel_rfl) rfl rfl (fun K hK=>?_) (fun K hK=>?_)
     · go_simp
       refine MPa.mono ?_
       rintro e wb ⟨rfl,pb⟩
       have Pb:Pur w19 wb:=Pa.trans pb
       refine hK.out _ _ ?_ (fun hT=>?_)
       clear hK K
       try simp only [Act.put,List.setIfInBounds_toArray,List.set_cons_zero,List.set_cons_succ]
       · exact Pb
       refine wpAnyU_take (i:=4) (v:=?vu20) rfl (by kernel_rfl) (by kernel_rfl) (by kernel_rfl) (by kernel_rfl) (by kernel_rfl) (fun _ _ _ h=>h) (Or.inl ⟨by rfl,?hu20⟩) (by assumption) ?ru20
       case hu20=>(intro w9 hSw;(try dsimp only at hSw);go_simp;(try with_reducible rfl))
       simp only [Act.put,List.setIfInBounds_toArray,List.set_cons_zero,List.set_cons_succ]
       refine wpAnyU_take (i:=5) (v:=?vu21) rfl (by kernel_rfl) (by kernel_rfl) (by kernel_rfl) (by kernel_rfl) (by kernel_rfl) (fun _ _ _ h=>h) (Or.inl ⟨by rfl,?hu21⟩) (by assumption) ?ru21
       case hu21=>(intro w9 hSw;(try dsimp only at hSw);go_simp;(try with_reducible rfl))
       simp only [Act.put,List.setIfInBounds_toArray,List.set_cons_zero,List.set_cons_succ]
       refine wpAnyU_take (i:=6) (v:=?vu22) rfl (by kernel_rfl) (by kernel_rfl) (by kernel_rfl) (by kernel_rfl) (by kernel_rfl) (fun _ _ _ h=>h) (Or.inl ⟨by rfl,?hu22⟩) (by assumption) ?ru22
       case hu22=>(intro w9 hSw;(try dsimp only at hSw);go_simp;(try with_reducible rfl))
       simp only [Act.put,List.setIfInBounds_toArray,List.set_cons_zero,List.set_cons_succ]
       refine wpAnyU_next (i:=7) (by kernel_rfl) rfl (fun K hK=>?_)
       go_simp
       refine hK.out _ _ ?_ (fun hT=>?_)
       clear hK K
       try simp only [Act.put,List.setIfInBounds_toArray,List.set_cons_zero,List.set_cons_succ]
       · exact Pb.alloc _
       refine wpAnyU_next (i:=8) (by kernel_rfl) rfl (fun K hK=>?_)
       go_simp
       refine hK.out _ _ ?_ (fun hT=>?_)
       clear hK K
       try simp only [Act.put,List.setIfInBounds_toArray,List.set_cons_zero,List.set_cons_succ]
       · exact Pb.alloc _
       refine wpAnyU_tail 9 (by kernel_rfl) ?_
       simp only [List.drop_succ_cons,List.drop_zero]
       go_wp2
       go_meet
       exact ⟨_,rfl,rfl,Pb.alloc _,bk_new _ _⟩
     · go_simp
       have Pc:Pur w19 (wa.alloc (.cells #[.int .i64 0,.float .f64 0,.string ⟨#[]⟩,.int .i64 0] 25)):=Pa.alloc _
       have MPc:=MP _ Pc
       refine hK.out _ _ ?_ (fun hT=>?_)
       clear hK K
       try simp only [Act.put,List.setIfInBounds_toArray,List.set_cons_zero,List.set_cons_succ]
       · exact Pc
       refine wpAnyU_next (i:=3) (by kernel_rfl) rfl (fun K hK=>?_)
       go_simp
       refine MPc.mono ?_
       rintro e wb ⟨rfl,pb⟩
       have Pb:Pur w19 wb:=Pc.trans pb
       refine hK.out _ _ ?_ (fun hT=>?_)
       clear hK K
       try simp only [Act.put,List.setIfInBounds_toArray,List.set_cons_zero,List.set_cons_succ]
       · exact Pb
       refine wpAnyU_take (i:=4) (v:=?vu23) rfl (by kernel_rfl) (by kernel_rfl) (by kernel_rfl) (by kernel_rfl) (by kernel_rfl) (fun _ _ _ h=>h) (Or.inl ⟨by rfl,?hu23⟩) (by assumption) ?ru23
       case hu23=>(intro w9 hSw;(try dsimp only at hSw);go_simp;(try with_reducible rfl))
       simp only [Act.put,List.setIfInBounds_toArray,List.set_cons_zero,List.set_cons_succ]
       refine wpAnyU_take (i:=5) (v:=?vu24) rfl (by kernel_rfl) (by kernel_rfl) (by kernel_rfl) (by kernel_rfl) (by kernel_rfl) (fun _ _ _ h=>h) (Or.inl ⟨by rfl,?hu24⟩) (by assumption) ?ru24
       case hu24=>(intro w9 hSw;(try dsimp only at hSw);go_simp;(try with_reducible rfl))
       simp only [Act.put,List.setIfInBounds_toArray,List.set_cons_zero,List.set_cons_succ]
       refine wpAnyU_take (i:=6) (v:=?vu25) rfl (by kernel_rfl) (by kernel_rfl) (by kernel_rfl) (by kernel_rfl) (by kernel_rfl) (fun _ _ _ h=>h) (Or.inl ⟨by rfl,?hu25⟩) (by assumption) ?ru25
       case hu25=>(intro w9 hSw;(try dsimp only at hSw);go_simp;(try with_reducible rfl))
       simp only [Act.put,List.setIfInBounds_toArray,List.set_cons_zero,List.set_cons_succ]
       have NB:=bk_pur (bk_new wa (.cells #[.int .i64 0,.float .f64 0,.string ⟨#[]⟩,.int .i64 0] 25)) pb
       obtain ⟨⟨s0,s1⟩,⟨s2,s3⟩,⟨s4,s5⟩,⟨s6,s7⟩⟩:=st4_steps (y:=Va.zero) (x:=⟨6,0,[],50⟩) NB
       have R8:=st4_at (y:=Va.zero) (x:=⟨6,0,[],50⟩) NB
       have P8:=st4_pur (b:=wa.heap.size) (x:=⟨6,0,[],50⟩) (Pb) (by exact Pa.size)
       have HF:=Lib.hid (And.intro P8 R8)
       clear R8 P8 NB
       simp only [st4,Va.zero] at s0 s1 s2 s3 s4 s5 s6 s7 HF
       refine wpAnyU_next (i:=8) (by kernel_rfl) rfl (fun K hK=>?_)
       go_simp
       refine hK.out _ _ ?_ (fun hT=>?_)
       clear hK K
       try simp only [Act.put,List.setIfInBounds_toArray,List.set_cons_zero,List.set_cons_succ]
       · exact HF.out.1
       refine wpAnyU_tail 9 (by kernel_rfl) ?_
       simp only [List.drop_succ_cons,List.drop_zero]
       go_wp2
       go_meet
       exact ⟨_,rfl,rfl,HF.out⟩
   · go_simp
     have Pc:Pur w19 (w19.alloc (.cells #[.int .i64 0,.float .f64 0,.string ⟨#[]⟩,.int .i64 0] 25)).drew:=((Pur.refl w19).alloc _).drew
     refine hK.out _ _ ?_ (fun hT=>?_)
     clear hK K
     try simp only [Act.put,List.setIfInBounds_toArray,List.set_cons_zero,List.set_cons_succ]
     · exact Pc
     refine wpAnyU_next (i:=2) (by kernel_rfl) rfl (fun K hK=>?_)
     go_simp
     refine (OP _).mono ?_
     rintro e wa ⟨rfl,pa⟩
     have Pa:Pur w19 wa:=Pc.trans pa
     have MPa:=MP _ Pa
     refine hK.out _ _ ?_ (fun hT=>?_)
     clear hK K
     try simp only [Act.put,List.setIfInBounds_toArray,List.set_cons_zero,List.set_cons_succ]
     · exact Pa
     refine wpAnyU_next (i:=3) (by kernel_rfl) rfl (fun K hK=>?_)
     go_simp
     refine MPa.mono ?_
     rintro e wb ⟨rfl,pb⟩
     have Pb:Pur w19 wb:=Pa.trans pb
     refine hK.out _ _ ?_ (fun hT=>?_)
     clear hK K
     try simp only [Act.put,List.setIfInBounds_toArray,List.set_cons_zero,List.set_cons_succ]
     · exact Pb
     refine wpAnyU_take (i:=4) (v:=?vu26) rfl (by kernel_rfl) (by kernel_rfl) (by kernel_rfl) (by kernel_rfl) (by kernel_rfl) (fun _ _ _ h=>h) (Or.inl ⟨by rfl,?hu26⟩) (by assumption) ?ru26
     case hu26=>(intro w9 hSw;(try dsimp only at hSw);go_simp;(try with_reducible rfl))
     simp only [Act.put,List.setIfInBounds_toArray,List.set_cons_zero,List.set_cons_succ]
     refine wpAnyU_take (i:=5) (v:=?vu27) rfl (by kernel_rfl) (by kernel_rfl) (by kernel_rfl) (by kernel_rfl) (by kernel_rfl) (fun _ _ _ h=>h) (Or.inl ⟨by rfl,?hu27⟩) (by assumption) ?ru27
     case hu27=>(intro w9 hSw;(try dsimp only at hSw);go_simp;(try with_reducible rfl))
     simp only [Act.put,List.setIfInBounds_toArray,List.set_cons_zero,List.set_cons_succ]
     refine wpAnyU_take (i:=6) (v:=?vu28) rfl (by kernel_rfl) (by kernel_rfl) (by kernel_rfl) (by kernel_rfl) (by kernel_rfl) (fun _ _ _ h=>h) (Or.inl ⟨by rfl,?hu28⟩) (by assumption) ?ru28
     case hu28=>(intro w9 hSw;(try dsimp only at hSw);go_simp;(try with_reducible rfl))
     simp only [Act.put,List.setIfInBounds_toArray,List.set_cons_zero,List.set_cons_succ]
     have NB:=bk_pur (bk_drew (bk_new w19 (.cells #[.int .i64 0,.float .f64 0,.string ⟨#[]⟩,.int .i64 0] 25))) (pa.trans pb)
     obtain ⟨⟨s0,s1⟩,⟨s2,s3⟩,⟨s4,s5⟩,⟨s6,s7⟩⟩:=st4_steps (y:=Va.zero) (x:=⟨6,0,[],50⟩) NB
     have R8:=st4_at (y:=Va.zero) (x:=⟨6,0,[],50⟩) NB
     have P8:=st4_pur (b:=w19.heap.size) (x:=⟨6,0,[],50⟩) (Pb) (by exact (Pur.refl w19).size)
     have HF:=Lib.hid (And.intro P8 R8)
     clear R8 P8 NB
     simp only [st4,Va.zero] at s0 s1 s2 s3 s4 s5 s6 s7 HF
     refine wpAnyU_next (i:=8) (by kernel_rfl) rfl (fun K hK=>?_)
     go_simp
     refine hK.out _ _ ?_ (fun hT=>?_)
     clear hK K
     try simp only [Act.put,List.setIfInBounds_toArray,List.set_cons_zero,List.set_cons_succ]
     · exact HF.out.1
     refine wpAnyU_tail 9 (by kernel_rfl) ?_
     simp only [List.drop_succ_cons,List.drop_zero]
     go_wp2
     go_meet
     exact ⟨_,rfl,rfl,HF.out⟩
 case rest =>
   obtain ⟨bm,rfl,rfl,hq,E19⟩:=hcut
   have PF:=HP19.trans hq
   have B20:=bk_pur B19 hq
   have D20:=bk_pur D19 hq
   have x2:∀ z:PW wc,z.to.cell? ⟨bs,2,none⟩=some (.string ⟨jt.toArray⟩):=fun z=>bk_cell (bk_pur B20 z.pur) 2 _ rfl
   have y1:∀ z:PW wc,z.to.cell? ⟨bn,1,none⟩=some (.float .f64 4629418941960159232):=fun z=>bk_cell (bk_pur D20 z.pur) 1 _ rfl
   have z3:∀ z:PW wc,z.to.cell? ⟨bm,3,none⟩=some (.int .i64 50):=fun z=>bk_cell (bk_pur E19 z.pur) 3 _ rfl
   have o31:(FloatKind.f64.format.order 4629418941960159232 4629418941960159232 == some Ordering.eq)=true:=by decide +kernel
   have OJ:∀ w,Calls Tryz.prog 20 #[.string ⟨#[123,34,97,34,58,91,49,44,110,117,108,108,44,34,120,34,93,125]⟩] w fun e w'=>e=.returned (.string ⟨jt.toArray⟩)∧Pur w w':=fun w=>by
     have:=Ft.of_any jb w (by decide)
     rw [show Lx.w16 jb=jt by decide] at this
     exact this
   clear B19 D19 B20 D20 E19 hq MP CF OP HP19
   go_wp2_with fail
   refine wp_region_pur (by kernel_rfl) (by kernel_rfl) ?_
   repeat (go_big_quiet_step (((go_at_call 20;with_reducible exact quiet_pur (OJ _)))))
   refine wpQuiet_nil ?_
   intro wq hq
   go_wp2
   go_ret
   exact ⟨by simp,PF.trans hq⟩
end Li
open Go Go.RowKit Go.ChangeShapes Go.WideShapes Go.ChangeAt
section
variable {H:Type} {enc:TypeId × Value→H} {P:Program} {w:World} {base:Nat} {sp:Nat→Bool} {held:Bool}
theorem field_one {fuel:Nat} {t:TypeId} {fs:Array Field} {cs:List Value} {ds:List (DataW H)} {p:List MemPlace} (ht:P.underlying t=some (.struct fs)) (h:DataW.trod enc P w base sp held fuel t cs=some (.agg ds,p))
   (i:Nat) (f:Field) (d:DataW H) (hf:fs[i]?=some f) (hc:P.cellsOf f.type=1) (hd:ds[i]?=some d):∃ n q,DataW.trod enc P w base sp held n f.type ((cs.drop f.offset).take 1)=some (d,q):=by
 obtain ⟨xs,n,rfl,hx,hl,hxl,hall⟩:=DataW.trod_struct ht h
 have h1:=hall i f hf
 have hds:ds=xs.map (·.1):=by
   have:=congrArg Prod.fst hx
   simpa using this
 rw [hds,List.getElem?_map] at hd
 obtain ⟨b,hb,hb1⟩:=Option.map_eq_some_iff.1 hd
 rw [hb,hc] at h1
 exact ⟨n,b.2,by rw [← hb1];exact h1⟩
theorem slice_cells {fuel:Nat} {t e:TypeId} {cs:List Value} {ds:List (DataW Unit)} {p:List MemPlace} (ht:P.underlying t=some (.slice e)) (hl:0 < ds.length) (hc0:0 < P.cellsOf e)
   (hd:DataW.trod (fun _=>()) P w 0 (fun _=>true) false fuel t cs=some (.slice ds [],p)):∃ R o c,cs=[.slice (some ⟨R,o,none⟩) ds.length c]∧∀ (i:Nat) (d:DataW Unit),ds[i]?=some d →
     ∃ fuel ce q,DataW.trod (fun _=>()) P w 0 (fun _=>true) false fuel e ce=some (d,q)∧∀ j,j < P.cellsOf e→w.cell? ⟨R,o + i * P.cellsOf e + j,none⟩=ce[j]?:=by
 rcases DataW.trod_slice ht hd with ⟨_,hx⟩ | ⟨a,len,cap,el,rs,m,rfl,hcs,hx,_,hlc,_,hel,helem,hsp,_⟩
 · cases hx
 have e0:=congrArg Prod.fst hx
 simp only [DataW.slice.injEq] at e0
 obtain ⟨eE,eR⟩:=e0
 have hlen:len=ds.length:=by
   have:=congrArg List.length eE
   simp at this
   omega
 have hcell:∀ (i:Nat) (d:DataW Unit),ds[i]?=some d→∃ ce q,DataW.trod (fun _=>()) P w 0 (fun _=>true) false m e ce=some (d,q)∧ce.length=P.cellsOf e∧∀ j,j < P.cellsOf e→w.cell? ((a.add (i * P.cellsOf e)).add j)=ce[j]?:=by
   intro i d hi
   have hil:=(List.getElem?_eq_some_iff.1 hi).1
   have h1:=helem i (by omega)
   obtain ⟨b,hb⟩:∃ b,el[i]?=some b:=⟨el[i]'(by omega),List.getElem?_eq_getElem (by omega)⟩
   rw [hb] at h1
   obtain ⟨ce,hce,hte⟩:=Option.bind_eq_some_iff.1 h1
   obtain ⟨_,hcl,hcc⟩:=World.cells?_some hce
   have hb1:b.1=d:=by
     rw [eE,List.getElem?_map,hb] at hi
     simpa using hi
   exact ⟨ce,b.2,by rw [hte,← hb1],hcl,hcc⟩
 obtain ⟨R,o,sR⟩:=a
 obtain rfl:sR=none:=by
   obtain ⟨d0,hd0⟩:∃ d,ds[0]?=some d:=⟨_,List.getElem?_eq_getElem hl⟩
   obtain ⟨ce,q,h1,h2,h3⟩:=hcell 0 d0 hd0
   have h4:=h3 0 hc0
   rw [List.getElem?_eq_getElem (by omega)] at h4
   have:((Addr.add ⟨R,o,sR⟩ (0 * P.cellsOf e)).add 0)=⟨R,o,sR⟩:=by rw [Nat.zero_mul];simp [Addr.add]
   rw [this] at h4
   exact Go.Proofs.cell_spot h4
 refine ⟨R,o,cap,?_,fun i d hi=>?_⟩
 · rw [hcs,hlen]
 · obtain ⟨ce,q,h1,h2,h3⟩:=hcell i d hi
   refine ⟨m,ce,q,h1,fun j hj=>?_⟩
   have:=h3 j hj
   rwa [Addr.add_lit,Addr.add_lit] at this
end
namespace Li
def ndData (x:Nd):DataW Unit:=.agg [.lit (.string x.1),.lit (.int .i64 x.2)]
theorem nd_at:∀ (l:List Nd) (j:Nat) (v:Value),(l.flatMap ndCells)[j]?=some v→∃ x,l[j / 2]?=some x∧(ndCells x)[j % 2]?=some v
 | [],j,v,h=>by simp at h
 | x :: l,j,v,h=>by
   rw [List.flatMap_cons] at h
   by_cases hj:j < 2
   · rw [List.getElem?_append_left (by simpa [ndCells] using hj)] at h
     exact ⟨x,by rw [show j / 2=0 by omega];rfl,by rw [show j % 2=j by omega];exact h⟩
   · rw [List.getElem?_append_right (by simp [ndCells];omega)] at h
     obtain ⟨y,h1,h2⟩:=nd_at l (j - 2) v (by simpa [ndCells] using h)
     exact ⟨y,by rw [show j / 2=(j - 2) / 2 + 1 by omega];exact h1,by rw [show j % 2=(j - 2) % 2 by omega];exact h2⟩
/-- a builtin by its name, as its cells -/
theorem nd_cells {W:World} {fuel:Nat} {ce:List Value} {q:List MemPlace} (x:Nd) (h:DataW.trod (fun _=>()) Tryz.prog W 0 (fun _=>true) false fuel 101 ce=some (ndData x,q)) :
   ce[0]?=some (.string ⟨x.1.toArray⟩)∧ce[1]?=some (.int .i64 x.2) :=
 ⟨field_string Tryz.underlying101 h 0 _ x.1 rfl (by kernel_rfl) (by kernel_rfl) rfl,field_int Tryz.underlying101 h 1 _ .i64 x.2 rfl (by kernel_rfl) (by kernel_rfl) rfl⟩
theorem nd_cells2:Tryz.prog.cellsOf 101=2:=by kernel_rfl
theorem nd_var {W:World} {name:String} {g n:Nat} {t:TypeId} (l:List Nd) (hl:l.length=n) (hn:Tryz.prog.globalNamed name=some g) (hy:(Tryz.prog.globals[g]?).map (·.type)=some t) (ht:Tryz.prog.underlying t=some (.array n 101))
   (h:Lib.VarReads Tryz.prog W name (.agg (l.map ndData))):∀ (j:Nat) v,(l.flatMap ndCells)[j]?=some v→W.cell? ⟨g,j,none⟩=some v:=by
 obtain ⟨g',t',cs,fuel,p,h1,h2,h3,h4⟩:=h
 obtain rfl:=Option.some.inj (hn.symm.trans h1)
 obtain rfl:=Option.some.inj (hy.symm.trans h2)
 intro j v hv
 obtain ⟨x,hx,hv2⟩:=nd_at l j v hv
 have hk:j / 2 < n:=by rw [← hl];exact (List.getElem?_eq_some_iff.1 hx).1
 obtain ⟨fuel',d,q,e1,e2⟩:=Lib.array_elem ht h4 (j / 2) hk
 rw [List.getElem?_map,hx] at e1
 cases e1
 rw [nd_cells2] at e2
 obtain ⟨a0,a1⟩:=nd_cells x e2
 rw [List.getElem?_take_of_lt (by decide),List.getElem?_drop,Array.getElem?_toList] at a0 a1
 rw [World.var?_cell h1 h3]
 rcases (by omega:j % 2=0∨j % 2=1) with e | e
 · rw [e] at hv2
   simp only [ndCells,List.getElem?_cons_zero,Option.some.injEq] at hv2
   have b0:cs[j / 2 * 2 + 0]?=some (.string ⟨x.1.toArray⟩):=a0
   rw [show j / 2 * 2 + 0=j by omega] at b0
   rw [← hv2]
   exact b0
 · rw [e] at hv2
   simp only [ndCells,List.getElem?_cons_succ,List.getElem?_cons_zero,Option.some.injEq] at hv2
   have b1:cs[j / 2 * 2 + 1]?=some (.int .i64 x.2):=a1
   rw [show j / 2 * 2 + 1=j by omega] at b1
   rw [← hv2]
   exact b1
def spData (x:List UInt8 × List Nd):DataW Unit:=.agg [.lit (.string x.1),.slice (x.2.map ndData) []]
theorem gEq:(Rows.laid_pennant_eslib_globals:DataW Unit)=.agg (gNames.map ndData):=by kernel_rfl
theorem aEq:(Rows.laid_pennant_eslib_arrayMethods:DataW Unit)=.agg (aMeths.map ndData):=by kernel_rfl
theorem sEq:(Rows.laid_pennant_eslib_spaces:DataW Unit)=.agg (gSpaces.map spData):=by kernel_rfl
theorem sp_pos:∀ x∈gSpaces,0 < x.2.length:=by decide
theorem sp_var {W:World} (h:Lib.VarReads Tryz.prog W "pennant/eslib.spaces" (.agg (gSpaces.map spData))):∀ (k:Nat) x,gSpaces[k]?=some x→∃ R o c,W.cell? ⟨1,2 * k,none⟩=some (.string ⟨x.1.toArray⟩)∧W.cell? ⟨1,2 * k + 1,none⟩=some (.slice (some ⟨R,o,none⟩) x.2.length c) ∧
   ∀ (j:Nat) (y:Nd),x.2[j]?=some y→W.cell? ⟨R,o + j * 2,none⟩=some (.string ⟨y.1.toArray⟩)∧W.cell? ⟨R,o + j * 2 + 1,none⟩=some (.int .i64 y.2):=by
 obtain ⟨g',t',cs,fuel,p,h1,h2,h3,h4⟩:=h
 obtain rfl:=Option.some.inj ((show Tryz.prog.globalNamed "pennant/eslib.spaces" = some 1 by kernel_rfl).symm.trans h1)
 obtain rfl:=Option.some.inj ((show (Tryz.prog.globals[1]?).map (·.type)=some 106 by kernel_rfl).symm.trans h2)
 intro k x hx
 have hk:k < 4:=(List.getElem?_eq_some_iff.1 hx).1
 obtain ⟨fuel',d,q,e1,e2⟩:=Lib.array_elem Tryz.underlying106 h4 k hk
 rw [List.getElem?_map,hx] at e1
 cases e1
 rw [show Tryz.prog.cellsOf 105=2 by kernel_rfl] at e2
 have a0:=field_string Tryz.underlying105 e2 0 _ x.1 rfl (by kernel_rfl) (by kernel_rfl) rfl
 obtain ⟨n,q2,f1⟩:=field_one Tryz.underlying105 e2 1 _ (.slice (x.2.map ndData) []) rfl (by kernel_rfl) rfl
 obtain ⟨R,o,c,s1,s2⟩:=slice_cells Tryz.underlying103 (by rw [List.length_map];exact sp_pos x (List.mem_of_getElem? hx)) (by rw [nd_cells2];decide) f1
 have a1:=take_one s1
 rw [List.getElem?_take_of_lt (by decide),List.getElem?_drop,Array.getElem?_toList] at a0 a1
 rw [List.length_map] at a1
 have b0:cs[k * 2 + 0]?=some (.string ⟨x.1.toArray⟩):=a0
 have b1:cs[k * 2 + 1]?=some (.slice (some ⟨R,o,none⟩) x.2.length c):=a1
 rw [show k * 2 + 0=2 * k by omega] at b0
 rw [show k * 2 + 1=2 * k + 1 by omega] at b1
 refine ⟨R,o,c,?_,?_,fun j y hy=>?_⟩
 · rw [World.var?_cell h1 h3];exact b0
 · rw [World.var?_cell h1 h3];exact b1
 · obtain ⟨fu,ce,q3,t1,t2⟩:=s2 j (ndData y) (by rw [List.getElem?_map,hy];rfl)
   obtain ⟨b0,b1⟩:=nd_cells y t1
   have c0:=t2 0 (by rw [nd_cells2];decide)
   have c1:=t2 1 (by rw [nd_cells2];decide)
   rw [nd_cells2] at c0 c1
   exact ⟨c0.trans b0,c1.trans b1⟩
theorem lb_of {W:World} (hS:W.ShapedOpen Tryz.prog) (hh:laidMetH Tryz.prog Rows.libSplitUptoRow.laid W):LB W:=by
 refine ⟨Ft.cw_of hS hh,?_⟩
 have h:=hh
 rw [MakeChecks.laidMetH_plain _ _ _ (by kernel_rfl)] at h
 unfold Rows.libSplitUptoRow at h
 have RG:=Lib.laidMet.reads h (n := "pennant/eslib.globals") (d:=Rows.laid_pennant_eslib_globals) (by simp)
 have RS:=Lib.laidMet.reads h (n := "pennant/eslib.spaces") (d:=Rows.laid_pennant_eslib_spaces) (by simp)
 have RA:=Lib.laidMet.reads h (n := "pennant/eslib.arrayMethods") (d:=Rows.laid_pennant_eslib_arrayMethods) (by simp)
 rw [gEq] at RG
 rw [sEq] at RS
 rw [aEq] at RA
 exact ⟨nd_var (t:=102) gNames rfl (by kernel_rfl) (by kernel_rfl) Tryz.underlying102 RG,sp_var RS,nd_var (t:=108) aMeths rfl (by kernel_rfl) (by kernel_rfl) Tryz.underlying108 RA⟩
end Li
end Go.Proofs.YtgdolcoiihagfaaGreatDoor
