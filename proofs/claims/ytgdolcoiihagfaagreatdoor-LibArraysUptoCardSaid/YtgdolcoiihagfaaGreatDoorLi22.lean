/- Layer 10: Install. -/
import Derived.Test.YtgdolcoiihagfaaGreatDoorLiE
namespace Go.Proofs.YtgdolcoiihagfaaGreatDoor
open Go Go.RowKit
set_option linter.all false
set_option maxRecDepth 100000
set_option maxHeartbeats 100000000
namespace Li
/-- where Install stands -/
structure In (w0 wS:World) (hh G:Nat) (KI:Nat→Prop) (hb wb:Nat) (d:Hd) (w:World):Prop where
 at_:At w0 hh G KI w d
 kept:Kept KI wS w
 kh:KI hb
 kw:KI wb
 bx:wS.heap[hb]?=some (.cells #[.pointer (some ⟨hh,0,none⟩)] 27 (0,0))
 wx:wS.heap[wb]?=some (.cells #[.int .i64 0] 29 (0,0))
 ne:hb≠wb
 low:w0.heap.size≤wb
theorem In.pure {w0 wS w w':World} {hh G hb wb:Nat} {KI:Nat→Prop} {d:Hd} (h:In w0 wS hh G KI hb wb d w) (hp:Pur w w'):In w0 wS hh G KI hb wb d w' :=
 ⟨(h.at_.pure hp).1,h.kept.trans (h.at_.pure hp).2,h.kh,h.kw,h.bx,h.wx,h.ne,h.low⟩
theorem In.next {w0 wS w w':World} {hh G hb wb:Nat} {KI:Nat→Prop} {d d':Hd} (h:In w0 wS hh G KI hb wb d w) (hA:At w0 hh G KI w' d') (hk:Kept KI w w'):In w0 wS hh G KI hb wb d' w' :=
 ⟨hA,h.kept.trans hk,h.kh,h.kw,h.bx,h.wx,h.ne,h.low⟩
theorem In.hcell {w0 wS w:World} {hh G hb wb:Nat} {KI:Nat→Prop} {d:Hd} (h:In w0 wS hh G KI hb wb d w):w.cell? ⟨hb,0,none⟩=some (.pointer (some ⟨hh,0,none⟩)):=bk_cell ((h.kept _ h.kh).trans h.bx) 0 _ rfl
theorem In.wcell {w0 wS w:World} {hh G hb wb:Nat} {KI:Nat→Prop} {d:Hd} (h:In w0 wS hh G KI hb wb d w):w.cell? ⟨wb,0,none⟩=some (.int .i64 0):=bk_cell ((h.kept _ h.kw).trans h.wx) 0 _ rfl
theorem In.put {w0 wS w:World} {hh G hb wb:Nat} {KI:Nat→Prop} {d d':Hd} (h:In w0 wS hh G KI hb wb d w) (hT:UT w0) (g:Int) (s:List UInt8) (v:Va) (hs:ascB s=true) (hl:s.length≤1000) (hv:v.wf) (hd:d.put g (wide8 s) v=(0,d')) :
   Calls Tryz.prog 49 #[.int .i64 g,.string ⟨s.toArray⟩,v.v,.pointer (some ⟨hb,0,none⟩),.pointer (some ⟨wb,0,none⟩)] w fun e w'=>e=.returned (.tuple #[])∧In w0 wS hh G KI hb wb d' w' :=
 (put_ok h.at_ (hT.pur h.at_.pur) g s v hs hl hv hd h.kh h.kw ((h.kept _ h.kh).trans h.bx) ((h.kept _ h.kw).trans h.wx) h.ne h.low).mono fun e w' ⟨he,hA,hK⟩=>⟨he,h.next hA hK⟩
theorem bi_wf (i:Int):(bi i).wf:=⟨show (0:Nat) < 18446744073709551616 by decide,by simp [bi]⟩
theorem asc_names:∀ x∈gSpaces,∀ y∈x.2,ascB y.1=true∧y.1.length≤1000:=by decide
theorem install_ok {w0 w:World} {hh G:Nat} {K:Nat→Prop} (h:At w0 hh G K w (Hd.new 100)) (hT:UT w0) (hL:LW w0) :
   Calls Tryz.prog 25 #[.pointer (some ⟨hh,0,none⟩)] w fun e w'=>e=.returned (.tuple #[.int .i64 0,.int .i64 0])∧At w0 hh G K w' dI∧Kept K w w':=by
 have hmf:∀ (fn:Fn) (first cap:Array Value) (w:World),(Instr.makeFunc fn first cap).run Tryz.prog w=.ok (.func fn first cap) w:=fun _ _ _ _=>rfl
 have PA:Pur w (w.alloc (.cells #[.pointer (some ⟨hh,0,none⟩)] 27)):=(Pur.refl w).alloc _
 have BX:=bk_new w (.cells #[.pointer (some ⟨hh,0,none⟩)] 27)
 have A1:=h.keep PA w.heap.size (Nat.le_refl _) (bk_lt BX)
 have K1:=(h.pure PA).2
 have PL:=plain_st A1 (-1)
 rw [ok0] at PL
 have hw0:=h.pur.size
 have c0:=bk_cell BX 0 _ rfl
 clear h
 go_enter Tryz.func25,Tryz.ntmps25
 go_wp2_with fail
 refine PL.mono ?_
 rintro e w1 ⟨rfl,A2,K2⟩
 have hs1:w.heap.size < w1.heap.size:=by obtain ⟨s,-,-,-,-,h5⟩:=A2.ex;exact (h5 _ (.inr rfl)).1
 have PW1:Pur w1 (w1.alloc (.cells #[.int .i64 0] 29)):=(Pur.refl w1).alloc _
 have WX:=bk_new w1 (.cells #[.int .i64 0] 29)
 have A3:=A2.keep PW1 w1.heap.size (Nat.le_refl _) (bk_lt WX)
 have BX3:=bk_pur ((K2 _ (.inr rfl)).trans BX) PW1
 have K3:Kept K w (w1.alloc (.cells #[.int .i64 0] 29)):=(K1.trans fun b hb=>K2 b (.inl hb)).trans fun b hb=>(A2.pure PW1).2 b (.inl hb)
 have I0:In w0 (w1.alloc (.cells #[.int .i64 0] 29)) hh G (fun b=>(K b∨b=w.heap.size)∨b=w1.heap.size) w.heap.size w1.heap.size dI0 (w1.alloc (.cells #[.int .i64 0] 29)) :=
   ⟨A3,fun _ _=>rfl,.inl (.inr rfl),.inr rfl,BX3,WX,by omega,by omega⟩
 obtain ⟨wS,hwS⟩:∃ wS,wS=w1.alloc (.cells #[.int .i64 0] 29):=⟨_,rfl⟩
 have PU:=I0.put hT 0 [117,110,100,101,102,105,110,101,100] Va.zero (by decide) (by decide) ⟨by decide,by simp [Va.zero]⟩ (okPut.eq ok1)
 simp only [Va.v,Va.cells,Va.zero] at PU
 rw [← hwS] at PU I0 K3
 clear PL A1 A2 A3 K1 K2 BX BX3 WX PA PW1 c0
 go_wp2_with fail
 rw [← hwS]
 refine PU.mono ?_
 rintro e w2 ⟨rfl,I1⟩
 have NA:=lnan_any
 have EN:=fun x w=>enumber_any x w
 clear PU I0 hwS
 go_wp2_with fail
 refine (NA _).mono ?_
 rintro e w3 ⟨rfl,rfl⟩
 go_wp2_with fail
 refine (EN _ _).mono ?_
 rintro e w4 ⟨rfl,p4⟩
 have PU:=(I1.pure p4).put hT 0 [78,97,78] ⟨3,9221120237041090561,[],0⟩ (by decide) (by decide) ⟨by decide,by simp⟩ (okPut.eq ok2)
 simp only [Va.v,Va.cells] at PU
 clear I1 NA p4
 go_wp2_with fail
 refine PU.mono ?_
 rintro e w5 ⟨rfl,I2⟩
 have NA:=linf_any
 clear PU
 go_wp2_with fail
 refine (NA _).mono ?_
 rintro e w6 ⟨rfl,rfl⟩
 go_wp2_with fail
 refine (EN _ _).mono ?_
 rintro e w7 ⟨rfl,p7⟩
 have PU:=(I2.pure p7).put hT 0 [73,110,102,105,110,105,116,121] ⟨3,9218868437227405312,[],0⟩ (by decide) (by decide) ⟨by decide,by simp⟩ (okPut.eq ok3)
 simp only [Va.v,Va.cells] at PU
 clear I2 NA p7 EN
 go_wp2_with fail
 refine PU.mono ?_
 rintro e w8 ⟨rfl,I3⟩
 clear PU
 have LG:=(hL.pur I3.at_.pur).g
 have g0:=LG 0 _ rfl
 have g1:=LG 1 _ rfl
 have g2:=LG 2 _ rfl
 have g3:=LG 3 _ rfl
 have g4:=LG 4 _ rfl
 have g5:=LG 5 _ rfl
 have g6:=LG 6 _ rfl
 have g7:=LG 7 _ rfl
 have g8:=LG 8 _ rfl
 have g9:=LG 9 _ rfl
 clear LG
 have ix0:∀ w:World,(Instr.index 102 (.agg #[.string ⟨#[78,117,109,98,101,114]⟩,.int .i64 1,.string ⟨#[83,116,114,105,110,103]⟩,.int .i64 2,.string ⟨#[66,111,111,108,101,97,110]⟩,.int .i64 3,.string ⟨#[105,115,78,97,78]⟩,.int .i64 4,.string ⟨#[112,97,114,115,101,73,110,116]⟩,.int .i64 5]) (.int .i64 0)).run Tryz.prog w=.ok (.agg #[.string ⟨#[78,117,109,98,101,114]⟩,.int .i64 1]) w:=fun _=>by kernel_rfl
 have ix1:∀ w:World,(Instr.index 102 (.agg #[.string ⟨#[78,117,109,98,101,114]⟩,.int .i64 1,.string ⟨#[83,116,114,105,110,103]⟩,.int .i64 2,.string ⟨#[66,111,111,108,101,97,110]⟩,.int .i64 3,.string ⟨#[105,115,78,97,78]⟩,.int .i64 4,.string ⟨#[112,97,114,115,101,73,110,116]⟩,.int .i64 5]) (.int .i64 1)).run Tryz.prog w=.ok (.agg #[.string ⟨#[83,116,114,105,110,103]⟩,.int .i64 2]) w:=fun _=>by kernel_rfl
 have ix2:∀ w:World,(Instr.index 102 (.agg #[.string ⟨#[78,117,109,98,101,114]⟩,.int .i64 1,.string ⟨#[83,116,114,105,110,103]⟩,.int .i64 2,.string ⟨#[66,111,111,108,101,97,110]⟩,.int .i64 3,.string ⟨#[105,115,78,97,78]⟩,.int .i64 4,.string ⟨#[112,97,114,115,101,73,110,116]⟩,.int .i64 5]) (.int .i64 2)).run Tryz.prog w=.ok (.agg #[.string ⟨#[66,111,111,108,101,97,110]⟩,.int .i64 3]) w:=fun _=>by kernel_rfl
 have ix3:∀ w:World,(Instr.index 102 (.agg #[.string ⟨#[78,117,109,98,101,114]⟩,.int .i64 1,.string ⟨#[83,116,114,105,110,103]⟩,.int .i64 2,.string ⟨#[66,111,111,108,101,97,110]⟩,.int .i64 3,.string ⟨#[105,115,78,97,78]⟩,.int .i64 4,.string ⟨#[112,97,114,115,101,73,110,116]⟩,.int .i64 5]) (.int .i64 3)).run Tryz.prog w=.ok (.agg #[.string ⟨#[105,115,78,97,78]⟩,.int .i64 4]) w:=fun _=>by kernel_rfl
 have ix4:∀ w:World,(Instr.index 102 (.agg #[.string ⟨#[78,117,109,98,101,114]⟩,.int .i64 1,.string ⟨#[83,116,114,105,110,103]⟩,.int .i64 2,.string ⟨#[66,111,111,108,101,97,110]⟩,.int .i64 3,.string ⟨#[105,115,78,97,78]⟩,.int .i64 4,.string ⟨#[112,97,114,115,101,73,110,116]⟩,.int .i64 5]) (.int .i64 4)).run Tryz.prog w=.ok (.agg #[.string ⟨#[112,97,114,115,101,73,110,116]⟩,.int .i64 5]) w:=fun _=>by kernel_rfl
 have EB:=fun i w=>ebuiltin_any i w
 go_wp2
 go_loopw [38] (fun v wr=>∃ k:Nat,k≤5∧v=.int .i64 (k:Int)∧In w0 wS hh G (fun b=>(K b∨b=w.heap.size)∨b=w1.heap.size) w.heap.size w1.heap.size (pts 0 dI3 (gNames.take k)) wr) (fun v _=>6 - (intOf v).toNat)
 case atStart=>exact ⟨0,by omega,rfl,I3⟩
 case round =>
   obtain ⟨k,hk,rfl,I⟩:=hrel
   rcases (by omega:k=0∨k=1∨k=2∨k=3∨k=4∨k=5) with rfl | rfl | rfl | rfl | rfl | rfl
   · have PB:Pur wr (wr.alloc (.cells #[.string ⟨([78,117,109,98,101,114]:List UInt8).toArray⟩,.int .i64 1] 101)):=(Pur.refl wr).alloc _
     have NB:=bk_new wr (.cells #[.string ⟨([78,117,109,98,101,114]:List UInt8).toArray⟩,.int .i64 1] 101)
     have q0:∀ z:PW (wr.alloc (.cells #[.string ⟨([78,117,109,98,101,114]:List UInt8).toArray⟩,.int .i64 1] 101)),z.to.cell? ⟨wr.heap.size,0,none⟩=some (.string ⟨([78,117,109,98,101,114]:List UInt8).toArray⟩):=fun z=>bk_cell (bk_pur NB z.pur) 0 _ rfl
     have q1:∀ z:PW (wr.alloc (.cells #[.string ⟨([78,117,109,98,101,114]:List UInt8).toArray⟩,.int .i64 1] 101)),z.to.cell? ⟨wr.heap.size,1,none⟩=some (.int .i64 1):=fun z=>bk_cell (bk_pur NB z.pur) 1 _ rfl
     have PU:=fun w' (hp:Pur wr w')=>(I.pure hp).put hT 0 [78,117,109,98,101,114] (bi 1) (by decide) (by decide) (bi_wf _) (okPts.at ok4 (j:=0) rfl)
     simp only [Va.v,Va.cells,bi] at PU
     clear NB I3 I
     go_wp2_with fail
     refine wp_region_pur_tail 7 (by kernel_rfl) (by kernel_rfl) ?_
     simp only [List.take_succ_cons,List.take_zero,List.drop_succ_cons,List.drop_zero]
     repeat (go_big_quiet_step (((go_at_call 55;with_reducible exact quiet_pur (EB _ _)))))
     refine wpQuiet_nil ?_
     intro w9 h9
     have PU9:=PU _ (PB.trans h9)
     clear PU q0 q1
     go_wp2_with fail
     refine PU9.mono ?_
     rintro e wx ⟨rfl,IX⟩
     have HF:=Lib.hid IX
     clear PU9 IX
     go_wp2
     go_roundw
     case rel=>exact ⟨0 + 1,by omega,by simp,HF.out⟩
     case measure=>simp [intOf]
   · have PB:Pur wr (wr.alloc (.cells #[.string ⟨([83,116,114,105,110,103]:List UInt8).toArray⟩,.int .i64 2] 101)):=(Pur.refl wr).alloc _
     have NB:=bk_new wr (.cells #[.string ⟨([83,116,114,105,110,103]:List UInt8).toArray⟩,.int .i64 2] 101)
     have q0:∀ z:PW (wr.alloc (.cells #[.string ⟨([83,116,114,105,110,103]:List UInt8).toArray⟩,.int .i64 2] 101)),z.to.cell? ⟨wr.heap.size,0,none⟩=some (.string ⟨([83,116,114,105,110,103]:List UInt8).toArray⟩):=fun z=>bk_cell (bk_pur NB z.pur) 0 _ rfl
     have q1:∀ z:PW (wr.alloc (.cells #[.string ⟨([83,116,114,105,110,103]:List UInt8).toArray⟩,.int .i64 2] 101)),z.to.cell? ⟨wr.heap.size,1,none⟩=some (.int .i64 2):=fun z=>bk_cell (bk_pur NB z.pur) 1 _ rfl
     have PU:=fun w' (hp:Pur wr w')=>(I.pure hp).put hT 0 [83,116,114,105,110,103] (bi 2) (by decide) (by decide) (bi_wf _) (okPts.at ok4 (j:=1) rfl)
     simp only [Va.v,Va.cells,bi] at PU
     clear NB I3 I
     go_wp2_with fail
     refine wp_region_pur_tail 7 (by kernel_rfl) (by kernel_rfl) ?_
     simp only [List.take_succ_cons,List.take_zero,List.drop_succ_cons,List.drop_zero]
     repeat (go_big_quiet_step (((go_at_call 55;with_reducible exact quiet_pur (EB _ _)))))
     refine wpQuiet_nil ?_
     intro w9 h9
     have PU9:=PU _ (PB.trans h9)
     clear PU q0 q1
     go_wp2_with fail
     refine PU9.mono ?_
     rintro e wx ⟨rfl,IX⟩
     have HF:=Lib.hid IX
     clear PU9 IX
     go_wp2
     go_roundw
     case rel=>exact ⟨1 + 1,by omega,by simp,HF.out⟩
     case measure=>simp [intOf]
   · have PB:Pur wr (wr.alloc (.cells #[.string ⟨([66,111,111,108,101,97,110]:List UInt8).toArray⟩,.int .i64 3] 101)):=(Pur.refl wr).alloc _
     have NB:=bk_new wr (.cells #[.string ⟨([66,111,111,108,101,97,110]:List UInt8).toArray⟩,.int .i64 3] 101)
     have q0:∀ z:PW (wr.alloc (.cells #[.string ⟨([66,111,111,108,101,97,110]:List UInt8).toArray⟩,.int .i64 3] 101)),z.to.cell? ⟨wr.heap.size,0,none⟩=some (.string ⟨([66,111,111,108,101,97,110]:List UInt8).toArray⟩):=fun z=>bk_cell (bk_pur NB z.pur) 0 _ rfl
     have q1:∀ z:PW (wr.alloc (.cells #[.string ⟨([66,111,111,108,101,97,110]:List UInt8).toArray⟩,.int .i64 3] 101)),z.to.cell? ⟨wr.heap.size,1,none⟩=some (.int .i64 3):=fun z=>bk_cell (bk_pur NB z.pur) 1 _ rfl
     have PU:=fun w' (hp:Pur wr w')=>(I.pure hp).put hT 0 [66,111,111,108,101,97,110] (bi 3) (by decide) (by decide) (bi_wf _) (okPts.at ok4 (j:=2) rfl)
     simp only [Va.v,Va.cells,bi] at PU
     clear NB I3 I
     go_wp2_with fail
     refine wp_region_pur_tail 7 (by kernel_rfl) (by kernel_rfl) ?_
     simp only [List.take_succ_cons,List.take_zero,List.drop_succ_cons,List.drop_zero]
     repeat (go_big_quiet_step (((go_at_call 55;with_reducible exact quiet_pur (EB _ _)))))
     refine wpQuiet_nil ?_
     intro w9 h9
     have PU9:=PU _ (PB.trans h9)
     clear PU q0 q1
     go_wp2_with fail
     refine PU9.mono ?_
     rintro e wx ⟨rfl,IX⟩
     have HF:=Lib.hid IX
     clear PU9 IX
     go_wp2
     go_roundw
     case rel=>exact ⟨2 + 1,by omega,by simp,HF.out⟩
     case measure=>simp [intOf]
   · have PB:Pur wr (wr.alloc (.cells #[.string ⟨([105,115,78,97,78]:List UInt8).toArray⟩,.int .i64 4] 101)):=(Pur.refl wr).alloc _
     have NB:=bk_new wr (.cells #[.string ⟨([105,115,78,97,78]:List UInt8).toArray⟩,.int .i64 4] 101)
     have q0:∀ z:PW (wr.alloc (.cells #[.string ⟨([105,115,78,97,78]:List UInt8).toArray⟩,.int .i64 4] 101)),z.to.cell? ⟨wr.heap.size,0,none⟩=some (.string ⟨([105,115,78,97,78]:List UInt8).toArray⟩):=fun z=>bk_cell (bk_pur NB z.pur) 0 _ rfl
     have q1:∀ z:PW (wr.alloc (.cells #[.string ⟨([105,115,78,97,78]:List UInt8).toArray⟩,.int .i64 4] 101)),z.to.cell? ⟨wr.heap.size,1,none⟩=some (.int .i64 4):=fun z=>bk_cell (bk_pur NB z.pur) 1 _ rfl
     have PU:=fun w' (hp:Pur wr w')=>(I.pure hp).put hT 0 [105,115,78,97,78] (bi 4) (by decide) (by decide) (bi_wf _) (okPts.at ok4 (j:=3) rfl)
     simp only [Va.v,Va.cells,bi] at PU
     clear NB I3 I
     go_wp2_with fail
     refine wp_region_pur_tail 7 (by kernel_rfl) (by kernel_rfl) ?_
     simp only [List.take_succ_cons,List.take_zero,List.drop_succ_cons,List.drop_zero]
     repeat (go_big_quiet_step (((go_at_call 55;with_reducible exact quiet_pur (EB _ _)))))
     refine wpQuiet_nil ?_
     intro w9 h9
     have PU9:=PU _ (PB.trans h9)
     clear PU q0 q1
     go_wp2_with fail
     refine PU9.mono ?_
     rintro e wx ⟨rfl,IX⟩
     have HF:=Lib.hid IX
     clear PU9 IX
     go_wp2
     go_roundw
     case rel=>exact ⟨3 + 1,by omega,by simp,HF.out⟩
     case measure=>simp [intOf]
   · have PB:Pur wr (wr.alloc (.cells #[.string ⟨([112,97,114,115,101,73,110,116]:List UInt8).toArray⟩,.int .i64 5] 101)):=(Pur.refl wr).alloc _
     have NB:=bk_new wr (.cells #[.string ⟨([112,97,114,115,101,73,110,116]:List UInt8).toArray⟩,.int .i64 5] 101)
     have q0:∀ z:PW (wr.alloc (.cells #[.string ⟨([112,97,114,115,101,73,110,116]:List UInt8).toArray⟩,.int .i64 5] 101)),z.to.cell? ⟨wr.heap.size,0,none⟩=some (.string ⟨([112,97,114,115,101,73,110,116]:List UInt8).toArray⟩):=fun z=>bk_cell (bk_pur NB z.pur) 0 _ rfl
     have q1:∀ z:PW (wr.alloc (.cells #[.string ⟨([112,97,114,115,101,73,110,116]:List UInt8).toArray⟩,.int .i64 5] 101)),z.to.cell? ⟨wr.heap.size,1,none⟩=some (.int .i64 5):=fun z=>bk_cell (bk_pur NB z.pur) 1 _ rfl
     have PU:=fun w' (hp:Pur wr w')=>(I.pure hp).put hT 0 [112,97,114,115,101,73,110,116] (bi 5) (by decide) (by decide) (bi_wf _) (okPts.at ok4 (j:=4) rfl)
     simp only [Va.v,Va.cells,bi] at PU
     clear NB I3 I
     go_wp2_with fail
     refine wp_region_pur_tail 7 (by kernel_rfl) (by kernel_rfl) ?_
     simp only [List.take_succ_cons,List.take_zero,List.drop_succ_cons,List.drop_zero]
     repeat (go_big_quiet_step (((go_at_call 55;with_reducible exact quiet_pur (EB _ _)))))
     refine wpQuiet_nil ?_
     intro w9 h9
     have PU9:=PU _ (PB.trans h9)
     clear PU q0 q1
     go_wp2_with fail
     refine PU9.mono ?_
     rintro e wx ⟨rfl,IX⟩
     have HF:=Lib.hid IX
     clear PU9 IX
     go_wp2
     go_roundw
     case rel=>exact ⟨4 + 1,by omega,by simp,HF.out⟩
     case measure=>simp [intOf]
   · clear g0 g1 g2 g3 g4 g5 g6 g7 g8 g9 I3
     clear ix0 ix1 ix2 ix3 ix4
     have LS:=hL.s
     obtain ⟨R0,o0,z0,s0,t0,u0⟩:=LS 0 _ rfl
     obtain ⟨R1,o1,z1,s1,t1,u1⟩:=LS 1 _ rfl
     obtain ⟨R2,o2,z2,s2,t2,u2⟩:=LS 2 _ rfl
     obtain ⟨R3,o3,z3,s3,t3,u3⟩:=LS 3 _ rfl
     have HU0:=Lib.hid u0
     have HU1:=Lib.hid u1
     have HU2:=Lib.hid u2
     have HU3:=Lib.hid u3
     have EO:=fun i w=>eobject_any i w
     have PS:=Lib.hid I.at_.pur
     clear u0 u1 u2 u3 LS
     simp only [List.length_cons,List.length_nil,Nat.reduceAdd,Nat.reduceMul] at t0 t1 t2 t3 s0 s1 s2 s3
     replace s0:=cellp s0 I.at_.pur
     replace t0:=cellp t0 I.at_.pur
     replace s1:=cellp s1 I.at_.pur
     replace t1:=cellp t1 I.at_.pur
     replace s2:=cellp s2 I.at_.pur
     replace t2:=cellp t2 I.at_.pur
     replace s3:=cellp s3 I.at_.pur
     replace t3:=cellp t3 I.at_.pur
     have iy0:∀ w:World,(Instr.index 106 (.agg #[.string ⟨#[77,97,116,104]⟩,.slice (some ⟨R0,o0,none⟩) 5 z0,.string ⟨#[74,83,79,78]⟩,.slice (some ⟨R1,o1,none⟩) 2 z1,.string ⟨#[79,98,106,101,99,116]⟩,.slice (some ⟨R2,o2,none⟩) 2 z2,.string ⟨#[65,114,114,97,121]⟩,.slice (some ⟨R3,o3,none⟩) 1 z3]) (.int .i64 0)).run Tryz.prog w=.ok (.agg #[.string ⟨#[77,97,116,104]⟩,.slice (some ⟨R0,o0,none⟩) 5 z0]) w:=fun _=>by kernel_rfl
     have iy1:∀ w:World,(Instr.index 106 (.agg #[.string ⟨#[77,97,116,104]⟩,.slice (some ⟨R0,o0,none⟩) 5 z0,.string ⟨#[74,83,79,78]⟩,.slice (some ⟨R1,o1,none⟩) 2 z1,.string ⟨#[79,98,106,101,99,116]⟩,.slice (some ⟨R2,o2,none⟩) 2 z2,.string ⟨#[65,114,114,97,121]⟩,.slice (some ⟨R3,o3,none⟩) 1 z3]) (.int .i64 1)).run Tryz.prog w=.ok (.agg #[.string ⟨#[74,83,79,78]⟩,.slice (some ⟨R1,o1,none⟩) 2 z1]) w:=fun _=>by kernel_rfl
     have iy2:∀ w:World,(Instr.index 106 (.agg #[.string ⟨#[77,97,116,104]⟩,.slice (some ⟨R0,o0,none⟩) 5 z0,.string ⟨#[74,83,79,78]⟩,.slice (some ⟨R1,o1,none⟩) 2 z1,.string ⟨#[79,98,106,101,99,116]⟩,.slice (some ⟨R2,o2,none⟩) 2 z2,.string ⟨#[65,114,114,97,121]⟩,.slice (some ⟨R3,o3,none⟩) 1 z3]) (.int .i64 2)).run Tryz.prog w=.ok (.agg #[.string ⟨#[79,98,106,101,99,116]⟩,.slice (some ⟨R2,o2,none⟩) 2 z2]) w:=fun _=>by kernel_rfl
     have iy3:∀ w:World,(Instr.index 106 (.agg #[.string ⟨#[77,97,116,104]⟩,.slice (some ⟨R0,o0,none⟩) 5 z0,.string ⟨#[74,83,79,78]⟩,.slice (some ⟨R1,o1,none⟩) 2 z1,.string ⟨#[79,98,106,101,99,116]⟩,.slice (some ⟨R2,o2,none⟩) 2 z2,.string ⟨#[65,114,114,97,121]⟩,.slice (some ⟨R3,o3,none⟩) 1 z3]) (.int .i64 3)).run Tryz.prog w=.ok (.agg #[.string ⟨#[65,114,114,97,121]⟩,.slice (some ⟨R3,o3,none⟩) 1 z3]) w:=fun _=>by kernel_rfl
     go_wp2
     go_loopw [51] (fun v wr=>∃ k:Nat,k≤4∧v=.int .i64 (k:Int)∧In w0 wS hh G (fun b=>(K b∨b=w.heap.size)∨b=w1.heap.size) w.heap.size w1.heap.size (dI5 k) wr) (fun v _=>5 - (intOf v).toNat)
     case atStart=>exact ⟨0,by omega,rfl,I⟩
     case round =>
       obtain ⟨k,hk,rfl,J⟩:=hrel
       clear I
       rcases (by omega:k=0∨k=1∨k=2∨k=3∨k=4) with rfl | rfl | rfl | rfl | rfl
       · obtain ⟨e1,e2,e3,e4⟩:=spaces_at (k:=0) rfl
         have hasc:=asc_names _ (List.mem_of_getElem? (show gSpaces[0]?=some _ from rfl))
         have hlen:(gSpaces[0]?.getD ([],[])).2.length=5:=rfl
         have hU:=HU0.out
         obtain ⟨l,hl⟩:∃ l,(gSpaces[0]?.getD ([],[])).2=l:=⟨_,rfl⟩
         have hll:l.length=5:=by rw [← hl];rfl
         replace hU:∀ (j:Nat) (y:Nd),l[j]?=some y→w0.cell? ⟨R0,o0 + j * 2,none⟩=some (.string ⟨y.1.toArray⟩)∧w0.cell? ⟨R0,o0 + j * 2 + 1,none⟩=some (.int .i64 y.2):=by rw [← hl];exact hU
         replace hasc:∀ y∈l,ascB y.1=true∧y.1.length≤1000:=by rw [← hl];exact hasc
         replace e2:((dI5 0).plain (-1)).2.put 0 (wide8 [77,97,116,104]) ⟨5,0,[],(dI5 0).xs.length⟩=(0,sp0 (dI5 0) ([77,97,116,104],l)):=by rw [← hl];exact e2
         replace e3:okPts (dI5 0).xs.length (sp0 (dI5 0) ([77,97,116,104],l)) l=true:=by rw [← hl];exact e3
         replace e4:dI5 (0 + 1)=pts (dI5 0).xs.length (sp0 (dI5 0) ([77,97,116,104],l)) l:=by rw [← hl];exact e4
         clear hl hlen
         generalize sp0 (dI5 0) ([77,97,116,104],l)=dS at *
         have PB:Pur wr (wr.alloc (.cells #[.string ⟨([77,97,116,104]:List UInt8).toArray⟩,.slice (some ⟨R0,o0,none⟩) 5 z0] 105)):=(Pur.refl wr).alloc _
         have NB:=bk_new wr (.cells #[.string ⟨([77,97,116,104]:List UInt8).toArray⟩,.slice (some ⟨R0,o0,none⟩) 5 z0] 105)
         have JB:=J.pure PB
         have JK:=J.at_.keep PB wr.heap.size (Nat.le_refl _) (bk_lt NB)
         have PL:=plain_st JK (-1)
         rw [e1] at PL
         have ch:=JB.hcell
         have hPS:=Lib.hid JB.at_.pur
         generalize ((dI5 0).xs.length:Int)=gi at *
         generalize ((dI5 0).plain (-1)).2=dP at *
         clear J JK
         go_wp2_with fail
         refine PL.mono ?_
         rintro e wa ⟨rfl,Aa,Ka⟩
         have J1:=JB.next (Aa.sub fun b hb=>.inl hb) (fun b hb=>Ka b (.inl hb))
         have NBa:=(Ka _ (.inr rfl)).trans NB
         have q0:∀ z:PW wa,z.to.cell? ⟨wr.heap.size,0,none⟩=some (.string ⟨([77,97,116,104]:List UInt8).toArray⟩):=fun z=>bk_cell (bk_pur NBa z.pur) 0 _ rfl
         have PU:=fun w' (hp:Pur wa w')=>put_ok (Aa.pure hp).1 (hT.pur (Aa.pure hp).1.pur) 0 [77,97,116,104] ⟨5,0,[],gi⟩ (by decide) (by decide) ⟨show (0:Nat) < 18446744073709551616 by decide,by simp⟩ e2 (.inl J1.kh) (.inl J1.kw) (bk_pur ((J1.kept _ J1.kh).trans J1.bx) hp) (bk_pur ((J1.kept _ J1.kw).trans J1.wx) hp) J1.ne J1.low
         simp only [Va.v,Va.cells] at PU
         have KP:=fun w' (hp:Pur wa w')=>(Aa.pure hp).2
         clear PL JB Aa Ka NB ch
         go_wp2_with fail
         refine wp_region_pur_tail 6 (by kernel_rfl) (by kernel_rfl) ?_
         simp only [List.take_succ_cons,List.take_zero,List.drop_succ_cons,List.drop_zero]
         repeat (go_big_quiet_step (((go_at_call 56;with_reducible exact quiet_pur (EO _ _)))))
         refine wpQuiet_nil ?_
         intro w9 h9
         have PU9:=PU _ h9
         have KP9:=KP _ h9
         clear PU q0 KP
         go_wp2_with fail
         refine PU9.mono ?_
         rintro e wb ⟨rfl,Ab,Kb⟩
         have J2:=J1.next (Ab.sub fun b hb=>.inl hb) (fun b hb=>(Kb b (.inl hb)).trans (KP9 b (.inl hb)))
         have NBb:=((Kb _ (.inr rfl)).trans (KP9 _ (.inr rfl))).trans NBa
         have r1:=bk_cell NBb 1 _ rfl
         clear PU9 J1 Ab Kb KP9 NBa
         go_wp2
         clear r1 NBb
         go_loopw [72] (fun v wr=>∃ j:Nat,j≤5∧v=.int .i64 (j:Int)∧In w0 wS hh G (fun b=>(K b∨b=w.heap.size)∨b=w1.heap.size) w.heap.size w1.heap.size (pts gi dS (l.take j)) wr) (fun v _=>5 + 1 - (intOf v).toNat)
         case atStart=>exact ⟨0,by omega,rfl,J2⟩
         case round =>
           obtain ⟨j,hj,rfl,M⟩:=hrel
           by_cases hjl:j < 5
           · obtain ⟨y,hy⟩:∃ y,l[j]?=some y:=⟨_,List.getElem?_eq_getElem (by omega)⟩
             obtain ⟨v0,v1⟩:=hU j y hy
             replace v0:=cellp v0 M.at_.pur
             replace v1:=cellp v1 M.at_.pur
             have hya:=hasc y (List.mem_of_getElem? hy)
             have hput:=okPts.at e3 hy
             obtain ⟨yn,yi⟩:=y
             have PB2:Pur wr (wr.alloc (.cells #[.string ⟨yn.toArray⟩,.int .i64 yi] 101)):=(Pur.refl wr).alloc _
             have NB2:=bk_new wr (.cells #[.string ⟨yn.toArray⟩,.int .i64 yi] 101)
             have q0:∀ z:PW (wr.alloc (.cells #[.string ⟨yn.toArray⟩,.int .i64 yi] 101)),z.to.cell? ⟨wr.heap.size,0,none⟩=some (.string ⟨yn.toArray⟩):=fun z=>bk_cell (bk_pur NB2 z.pur) 0 _ rfl
             have q1:∀ z:PW (wr.alloc (.cells #[.string ⟨yn.toArray⟩,.int .i64 yi] 101)),z.to.cell? ⟨wr.heap.size,1,none⟩=some (.int .i64 yi):=fun z=>bk_cell (bk_pur NB2 z.pur) 1 _ rfl
             have PU:=fun w' (hp:Pur wr w')=>(M.pure hp).put hT gi yn (bi yi) hya.1 hya.2 (bi_wf _) hput
             simp only [Va.v,Va.cells,bi] at PU
             have d1:decide ((j:Int) < 5)=true:=decide_eq_true (by omega)
             have hwr1:IntKind.i64.wrap ((j:Int) + 1)=j + 1:=IntWalk.i64_in _ (by omega)
             clear NB2 M J2 hput
             go_wp2_with fail
             refine wp_region_pur_tail 7 (by kernel_rfl) (by kernel_rfl) ?_
             simp only [List.take_succ_cons,List.take_zero,List.drop_succ_cons,List.drop_zero]
             repeat (go_big_quiet_step (((go_at_call 55;with_reducible exact quiet_pur (EB _ _)))))
             refine wpQuiet_nil ?_
             intro w9 h9
             have PU9:=PU _ (PB2.trans h9)
             clear PU q0 q1 v0 v1
             go_wp2_with fail
             refine PU9.mono ?_
             rintro e wx ⟨rfl,IX⟩
             have HF:=Lib.hid IX
             clear PU9 IX
             go_wp2
             go_roundw
             case rel=>exact ⟨j + 1,by omega,by simp,HF.out⟩
             case measure=>simp [intOf];omega
           · obtain rfl:j=5:=by omega
             have HF:=Lib.hid M
             clear M J2
             go_wp2
             go_roundw
             case rel=>exact ⟨0 + 1,by omega,by simp,by rw [e4];have:=HF.out;rw [List.take_of_length_le (by omega)] at this;exact this⟩
             case measure=>simp [intOf]
       · obtain ⟨e1,e2,e3,e4⟩:=spaces_at (k:=1) rfl
         have hasc:=asc_names _ (List.mem_of_getElem? (show gSpaces[1]?=some _ from rfl))
         have hlen:(gSpaces[1]?.getD ([],[])).2.length=2:=rfl
         have hU:=HU1.out
         obtain ⟨l,hl⟩:∃ l,(gSpaces[1]?.getD ([],[])).2=l:=⟨_,rfl⟩
         have hll:l.length=2:=by rw [← hl];rfl
         replace hU:∀ (j:Nat) (y:Nd),l[j]?=some y→w0.cell? ⟨R1,o1 + j * 2,none⟩=some (.string ⟨y.1.toArray⟩)∧w0.cell? ⟨R1,o1 + j * 2 + 1,none⟩=some (.int .i64 y.2):=by rw [← hl];exact hU
         replace hasc:∀ y∈l,ascB y.1=true∧y.1.length≤1000:=by rw [← hl];exact hasc
         replace e2:((dI5 1).plain (-1)).2.put 0 (wide8 [74,83,79,78]) ⟨5,0,[],(dI5 1).xs.length⟩=(0,sp0 (dI5 1) ([74,83,79,78],l)):=by rw [← hl];exact e2
         replace e3:okPts (dI5 1).xs.length (sp0 (dI5 1) ([74,83,79,78],l)) l=true:=by rw [← hl];exact e3
         replace e4:dI5 (1 + 1)=pts (dI5 1).xs.length (sp0 (dI5 1) ([74,83,79,78],l)) l:=by rw [← hl];exact e4
         clear hl hlen
         generalize sp0 (dI5 1) ([74,83,79,78],l)=dS at *
         have PB:Pur wr (wr.alloc (.cells #[.string ⟨([74,83,79,78]:List UInt8).toArray⟩,.slice (some ⟨R1,o1,none⟩) 2 z1] 105)):=(Pur.refl wr).alloc _
         have NB:=bk_new wr (.cells #[.string ⟨([74,83,79,78]:List UInt8).toArray⟩,.slice (some ⟨R1,o1,none⟩) 2 z1] 105)
         have JB:=J.pure PB
         have JK:=J.at_.keep PB wr.heap.size (Nat.le_refl _) (bk_lt NB)
         have PL:=plain_st JK (-1)
         rw [e1] at PL
         have ch:=JB.hcell
         have hPS:=Lib.hid JB.at_.pur
         generalize ((dI5 1).xs.length:Int)=gi at *
         generalize ((dI5 1).plain (-1)).2=dP at *
         clear J JK
         go_wp2_with fail
         refine PL.mono ?_
         rintro e wa ⟨rfl,Aa,Ka⟩
         have J1:=JB.next (Aa.sub fun b hb=>.inl hb) (fun b hb=>Ka b (.inl hb))
         have NBa:=(Ka _ (.inr rfl)).trans NB
         have q0:∀ z:PW wa,z.to.cell? ⟨wr.heap.size,0,none⟩=some (.string ⟨([74,83,79,78]:List UInt8).toArray⟩):=fun z=>bk_cell (bk_pur NBa z.pur) 0 _ rfl
         have PU:=fun w' (hp:Pur wa w')=>put_ok (Aa.pure hp).1 (hT.pur (Aa.pure hp).1.pur) 0 [74,83,79,78] ⟨5,0,[],gi⟩ (by decide) (by decide) ⟨show (0:Nat) < 18446744073709551616 by decide,by simp⟩ e2 (.inl J1.kh) (.inl J1.kw) (bk_pur ((J1.kept _ J1.kh).trans J1.bx) hp) (bk_pur ((J1.kept _ J1.kw).trans J1.wx) hp) J1.ne J1.low
         simp only [Va.v,Va.cells] at PU
         have KP:=fun w' (hp:Pur wa w')=>(Aa.pure hp).2
         clear PL JB Aa Ka NB ch
         go_wp2_with fail
         refine wp_region_pur_tail 6 (by kernel_rfl) (by kernel_rfl) ?_
         simp only [List.take_succ_cons,List.take_zero,List.drop_succ_cons,List.drop_zero]
         repeat (go_big_quiet_step (((go_at_call 56;with_reducible exact quiet_pur (EO _ _)))))
         refine wpQuiet_nil ?_
         intro w9 h9
         have PU9:=PU _ h9
         have KP9:=KP _ h9
         clear PU q0 KP
         go_wp2_with fail
         refine PU9.mono ?_
         rintro e wb ⟨rfl,Ab,Kb⟩
         have J2:=J1.next (Ab.sub fun b hb=>.inl hb) (fun b hb=>(Kb b (.inl hb)).trans (KP9 b (.inl hb)))
         have NBb:=((Kb _ (.inr rfl)).trans (KP9 _ (.inr rfl))).trans NBa
         have r1:=bk_cell NBb 1 _ rfl
         clear PU9 J1 Ab Kb KP9 NBa
         go_wp2
         clear r1 NBb
         go_loopw [72] (fun v wr=>∃ j:Nat,j≤2∧v=.int .i64 (j:Int)∧In w0 wS hh G (fun b=>(K b∨b=w.heap.size)∨b=w1.heap.size) w.heap.size w1.heap.size (pts gi dS (l.take j)) wr) (fun v _=>2 + 1 - (intOf v).toNat)
         case atStart=>exact ⟨0,by omega,rfl,J2⟩
         case round =>
           obtain ⟨j,hj,rfl,M⟩:=hrel
           by_cases hjl:j < 2
           · obtain ⟨y,hy⟩:∃ y,l[j]?=some y:=⟨_,List.getElem?_eq_getElem (by omega)⟩
             obtain ⟨v0,v1⟩:=hU j y hy
             replace v0:=cellp v0 M.at_.pur
             replace v1:=cellp v1 M.at_.pur
             have hya:=hasc y (List.mem_of_getElem? hy)
             have hput:=okPts.at e3 hy
             obtain ⟨yn,yi⟩:=y
             have PB2:Pur wr (wr.alloc (.cells #[.string ⟨yn.toArray⟩,.int .i64 yi] 101)):=(Pur.refl wr).alloc _
             have NB2:=bk_new wr (.cells #[.string ⟨yn.toArray⟩,.int .i64 yi] 101)
             have q0:∀ z:PW (wr.alloc (.cells #[.string ⟨yn.toArray⟩,.int .i64 yi] 101)),z.to.cell? ⟨wr.heap.size,0,none⟩=some (.string ⟨yn.toArray⟩):=fun z=>bk_cell (bk_pur NB2 z.pur) 0 _ rfl
             have q1:∀ z:PW (wr.alloc (.cells #[.string ⟨yn.toArray⟩,.int .i64 yi] 101)),z.to.cell? ⟨wr.heap.size,1,none⟩=some (.int .i64 yi):=fun z=>bk_cell (bk_pur NB2 z.pur) 1 _ rfl
             have PU:=fun w' (hp:Pur wr w')=>(M.pure hp).put hT gi yn (bi yi) hya.1 hya.2 (bi_wf _) hput
             simp only [Va.v,Va.cells,bi] at PU
             have d1:decide ((j:Int) < 2)=true:=decide_eq_true (by omega)
             have hwr1:IntKind.i64.wrap ((j:Int) + 1)=j + 1:=IntWalk.i64_in _ (by omega)
             clear NB2 M J2 hput
             go_wp2_with fail
             refine wp_region_pur_tail 7 (by kernel_rfl) (by kernel_rfl) ?_
             simp only [List.take_succ_cons,List.take_zero,List.drop_succ_cons,List.drop_zero]
             repeat (go_big_quiet_step (((go_at_call 55;with_reducible exact quiet_pur (EB _ _)))))
             refine wpQuiet_nil ?_
             intro w9 h9
             have PU9:=PU _ (PB2.trans h9)
             clear PU q0 q1 v0 v1
             go_wp2_with fail
             refine PU9.mono ?_
             rintro e wx ⟨rfl,IX⟩
             have HF:=Lib.hid IX
             clear PU9 IX
             go_wp2
             go_roundw
             case rel=>exact ⟨j + 1,by omega,by simp,HF.out⟩
             case measure=>simp [intOf];omega
           · obtain rfl:j=2:=by omega
             have HF:=Lib.hid M
             clear M J2
             go_wp2
             go_roundw
             case rel=>exact ⟨1 + 1,by omega,by simp,by rw [e4];have:=HF.out;rw [List.take_of_length_le (by omega)] at this;exact this⟩
             case measure=>simp [intOf]
       · obtain ⟨e1,e2,e3,e4⟩:=spaces_at (k:=2) rfl
         have hasc:=asc_names _ (List.mem_of_getElem? (show gSpaces[2]?=some _ from rfl))
         have hlen:(gSpaces[2]?.getD ([],[])).2.length=2:=rfl
         have hU:=HU2.out
         obtain ⟨l,hl⟩:∃ l,(gSpaces[2]?.getD ([],[])).2=l:=⟨_,rfl⟩
         have hll:l.length=2:=by rw [← hl];rfl
         replace hU:∀ (j:Nat) (y:Nd),l[j]?=some y→w0.cell? ⟨R2,o2 + j * 2,none⟩=some (.string ⟨y.1.toArray⟩)∧w0.cell? ⟨R2,o2 + j * 2 + 1,none⟩=some (.int .i64 y.2):=by rw [← hl];exact hU
         replace hasc:∀ y∈l,ascB y.1=true∧y.1.length≤1000:=by rw [← hl];exact hasc
         replace e2:((dI5 2).plain (-1)).2.put 0 (wide8 [79,98,106,101,99,116]) ⟨5,0,[],(dI5 2).xs.length⟩=(0,sp0 (dI5 2) ([79,98,106,101,99,116],l)):=by rw [← hl];exact e2
         replace e3:okPts (dI5 2).xs.length (sp0 (dI5 2) ([79,98,106,101,99,116],l)) l=true:=by rw [← hl];exact e3
         replace e4:dI5 (2 + 1)=pts (dI5 2).xs.length (sp0 (dI5 2) ([79,98,106,101,99,116],l)) l:=by rw [← hl];exact e4
         clear hl hlen
         generalize sp0 (dI5 2) ([79,98,106,101,99,116],l)=dS at *
         have PB:Pur wr (wr.alloc (.cells #[.string ⟨([79,98,106,101,99,116]:List UInt8).toArray⟩,.slice (some ⟨R2,o2,none⟩) 2 z2] 105)):=(Pur.refl wr).alloc _
         have NB:=bk_new wr (.cells #[.string ⟨([79,98,106,101,99,116]:List UInt8).toArray⟩,.slice (some ⟨R2,o2,none⟩) 2 z2] 105)
         have JB:=J.pure PB
         have JK:=J.at_.keep PB wr.heap.size (Nat.le_refl _) (bk_lt NB)
         have PL:=plain_st JK (-1)
         rw [e1] at PL
         have ch:=JB.hcell
         have hPS:=Lib.hid JB.at_.pur
         generalize ((dI5 2).xs.length:Int)=gi at *
         generalize ((dI5 2).plain (-1)).2=dP at *
         clear J JK
         go_wp2_with fail
         refine PL.mono ?_
         rintro e wa ⟨rfl,Aa,Ka⟩
         have J1:=JB.next (Aa.sub fun b hb=>.inl hb) (fun b hb=>Ka b (.inl hb))
         have NBa:=(Ka _ (.inr rfl)).trans NB
         have q0:∀ z:PW wa,z.to.cell? ⟨wr.heap.size,0,none⟩=some (.string ⟨([79,98,106,101,99,116]:List UInt8).toArray⟩):=fun z=>bk_cell (bk_pur NBa z.pur) 0 _ rfl
         have PU:=fun w' (hp:Pur wa w')=>put_ok (Aa.pure hp).1 (hT.pur (Aa.pure hp).1.pur) 0 [79,98,106,101,99,116] ⟨5,0,[],gi⟩ (by decide) (by decide) ⟨show (0:Nat) < 18446744073709551616 by decide,by simp⟩ e2 (.inl J1.kh) (.inl J1.kw) (bk_pur ((J1.kept _ J1.kh).trans J1.bx) hp) (bk_pur ((J1.kept _ J1.kw).trans J1.wx) hp) J1.ne J1.low
         simp only [Va.v,Va.cells] at PU
         have KP:=fun w' (hp:Pur wa w')=>(Aa.pure hp).2
         clear PL JB Aa Ka NB ch
         go_wp2_with fail
         refine wp_region_pur_tail 6 (by kernel_rfl) (by kernel_rfl) ?_
         simp only [List.take_succ_cons,List.take_zero,List.drop_succ_cons,List.drop_zero]
         repeat (go_big_quiet_step (((go_at_call 56;with_reducible exact quiet_pur (EO _ _)))))
         refine wpQuiet_nil ?_
         intro w9 h9
         have PU9:=PU _ h9
         have KP9:=KP _ h9
         clear PU q0 KP
         go_wp2_with fail
         refine PU9.mono ?_
         rintro e wb ⟨rfl,Ab,Kb⟩
         have J2:=J1.next (Ab.sub fun b hb=>.inl hb) (fun b hb=>(Kb b (.inl hb)).trans (KP9 b (.inl hb)))
         have NBb:=((Kb _ (.inr rfl)).trans (KP9 _ (.inr rfl))).trans NBa
         have r1:=bk_cell NBb 1 _ rfl
         clear PU9 J1 Ab Kb KP9 NBa
         go_wp2
         clear r1 NBb
         go_loopw [72] (fun v wr=>∃ j:Nat,j≤2∧v=.int .i64 (j:Int)∧In w0 wS hh G (fun b=>(K b∨b=w.heap.size)∨b=w1.heap.size) w.heap.size w1.heap.size (pts gi dS (l.take j)) wr) (fun v _=>2 + 1 - (intOf v).toNat)
         case atStart=>exact ⟨0,by omega,rfl,J2⟩
         case round =>
           obtain ⟨j,hj,rfl,M⟩:=hrel
           by_cases hjl:j < 2
           · obtain ⟨y,hy⟩:∃ y,l[j]?=some y:=⟨_,List.getElem?_eq_getElem (by omega)⟩
             obtain ⟨v0,v1⟩:=hU j y hy
             replace v0:=cellp v0 M.at_.pur
             replace v1:=cellp v1 M.at_.pur
             have hya:=hasc y (List.mem_of_getElem? hy)
             have hput:=okPts.at e3 hy
             obtain ⟨yn,yi⟩:=y
             have PB2:Pur wr (wr.alloc (.cells #[.string ⟨yn.toArray⟩,.int .i64 yi] 101)):=(Pur.refl wr).alloc _
             have NB2:=bk_new wr (.cells #[.string ⟨yn.toArray⟩,.int .i64 yi] 101)
             have q0:∀ z:PW (wr.alloc (.cells #[.string ⟨yn.toArray⟩,.int .i64 yi] 101)),z.to.cell? ⟨wr.heap.size,0,none⟩=some (.string ⟨yn.toArray⟩):=fun z=>bk_cell (bk_pur NB2 z.pur) 0 _ rfl
             have q1:∀ z:PW (wr.alloc (.cells #[.string ⟨yn.toArray⟩,.int .i64 yi] 101)),z.to.cell? ⟨wr.heap.size,1,none⟩=some (.int .i64 yi):=fun z=>bk_cell (bk_pur NB2 z.pur) 1 _ rfl
             have PU:=fun w' (hp:Pur wr w')=>(M.pure hp).put hT gi yn (bi yi) hya.1 hya.2 (bi_wf _) hput
             simp only [Va.v,Va.cells,bi] at PU
             have d1:decide ((j:Int) < 2)=true:=decide_eq_true (by omega)
             have hwr1:IntKind.i64.wrap ((j:Int) + 1)=j + 1:=IntWalk.i64_in _ (by omega)
             clear NB2 M J2 hput
             go_wp2_with fail
             refine wp_region_pur_tail 7 (by kernel_rfl) (by kernel_rfl) ?_
             simp only [List.take_succ_cons,List.take_zero,List.drop_succ_cons,List.drop_zero]
             repeat (go_big_quiet_step (((go_at_call 55;with_reducible exact quiet_pur (EB _ _)))))
             refine wpQuiet_nil ?_
             intro w9 h9
             have PU9:=PU _ (PB2.trans h9)
             clear PU q0 q1 v0 v1
             go_wp2_with fail
             refine PU9.mono ?_
             rintro e wx ⟨rfl,IX⟩
             have HF:=Lib.hid IX
             clear PU9 IX
             go_wp2
             go_roundw
             case rel=>exact ⟨j + 1,by omega,by simp,HF.out⟩
             case measure=>simp [intOf];omega
           · obtain rfl:j=2:=by omega
             have HF:=Lib.hid M
             clear M J2
             go_wp2
             go_roundw
             case rel=>exact ⟨2 + 1,by omega,by simp,by rw [e4];have:=HF.out;rw [List.take_of_length_le (by omega)] at this;exact this⟩
             case measure=>simp [intOf]
       · obtain ⟨e1,e2,e3,e4⟩:=spaces_at (k:=3) rfl
         have hasc:=asc_names _ (List.mem_of_getElem? (show gSpaces[3]?=some _ from rfl))
         have hlen:(gSpaces[3]?.getD ([],[])).2.length=1:=rfl
         have hU:=HU3.out
         obtain ⟨l,hl⟩:∃ l,(gSpaces[3]?.getD ([],[])).2=l:=⟨_,rfl⟩
         have hll:l.length=1:=by rw [← hl];rfl
         replace hU:∀ (j:Nat) (y:Nd),l[j]?=some y→w0.cell? ⟨R3,o3 + j * 2,none⟩=some (.string ⟨y.1.toArray⟩)∧w0.cell? ⟨R3,o3 + j * 2 + 1,none⟩=some (.int .i64 y.2):=by rw [← hl];exact hU
         replace hasc:∀ y∈l,ascB y.1=true∧y.1.length≤1000:=by rw [← hl];exact hasc
         replace e2:((dI5 3).plain (-1)).2.put 0 (wide8 [65,114,114,97,121]) ⟨5,0,[],(dI5 3).xs.length⟩=(0,sp0 (dI5 3) ([65,114,114,97,121],l)):=by rw [← hl];exact e2
         replace e3:okPts (dI5 3).xs.length (sp0 (dI5 3) ([65,114,114,97,121],l)) l=true:=by rw [← hl];exact e3
         replace e4:dI5 (3 + 1)=pts (dI5 3).xs.length (sp0 (dI5 3) ([65,114,114,97,121],l)) l:=by rw [← hl];exact e4
         clear hl hlen
         generalize sp0 (dI5 3) ([65,114,114,97,121],l)=dS at *
         have PB:Pur wr (wr.alloc (.cells #[.string ⟨([65,114,114,97,121]:List UInt8).toArray⟩,.slice (some ⟨R3,o3,none⟩) 1 z3] 105)):=(Pur.refl wr).alloc _
         have NB:=bk_new wr (.cells #[.string ⟨([65,114,114,97,121]:List UInt8).toArray⟩,.slice (some ⟨R3,o3,none⟩) 1 z3] 105)
         have JB:=J.pure PB
         have JK:=J.at_.keep PB wr.heap.size (Nat.le_refl _) (bk_lt NB)
         have PL:=plain_st JK (-1)
         rw [e1] at PL
         have ch:=JB.hcell
         have hPS:=Lib.hid JB.at_.pur
         generalize ((dI5 3).xs.length:Int)=gi at *
         generalize ((dI5 3).plain (-1)).2=dP at *
         clear J JK
         go_wp2_with fail
         refine PL.mono ?_
         rintro e wa ⟨rfl,Aa,Ka⟩
         have J1:=JB.next (Aa.sub fun b hb=>.inl hb) (fun b hb=>Ka b (.inl hb))
         have NBa:=(Ka _ (.inr rfl)).trans NB
         have q0:∀ z:PW wa,z.to.cell? ⟨wr.heap.size,0,none⟩=some (.string ⟨([65,114,114,97,121]:List UInt8).toArray⟩):=fun z=>bk_cell (bk_pur NBa z.pur) 0 _ rfl
         have PU:=fun w' (hp:Pur wa w')=>put_ok (Aa.pure hp).1 (hT.pur (Aa.pure hp).1.pur) 0 [65,114,114,97,121] ⟨5,0,[],gi⟩ (by decide) (by decide) ⟨show (0:Nat) < 18446744073709551616 by decide,by simp⟩ e2 (.inl J1.kh) (.inl J1.kw) (bk_pur ((J1.kept _ J1.kh).trans J1.bx) hp) (bk_pur ((J1.kept _ J1.kw).trans J1.wx) hp) J1.ne J1.low
         simp only [Va.v,Va.cells] at PU
         have KP:=fun w' (hp:Pur wa w')=>(Aa.pure hp).2
         clear PL JB Aa Ka NB ch
         go_wp2_with fail
         refine wp_region_pur_tail 6 (by kernel_rfl) (by kernel_rfl) ?_
         simp only [List.take_succ_cons,List.take_zero,List.drop_succ_cons,List.drop_zero]
         repeat (go_big_quiet_step (((go_at_call 56;with_reducible exact quiet_pur (EO _ _)))))
         refine wpQuiet_nil ?_
         intro w9 h9
         have PU9:=PU _ h9
         have KP9:=KP _ h9
         clear PU q0 KP
         go_wp2_with fail
         refine PU9.mono ?_
         rintro e wb ⟨rfl,Ab,Kb⟩
         have J2:=J1.next (Ab.sub fun b hb=>.inl hb) (fun b hb=>(Kb b (.inl hb)).trans (KP9 b (.inl hb)))
         have NBb:=((Kb _ (.inr rfl)).trans (KP9 _ (.inr rfl))).trans NBa
         have r1:=bk_cell NBb 1 _ rfl
         clear PU9 J1 Ab Kb KP9 NBa
         go_wp2
         clear r1 NBb
         go_loopw [72] (fun v wr=>∃ j:Nat,j≤1∧v=.int .i64 (j:Int)∧In w0 wS hh G (fun b=>(K b∨b=w.heap.size)∨b=w1.heap.size) w.heap.size w1.heap.size (pts gi dS (l.take j)) wr) (fun v _=>1 + 1 - (intOf v).toNat)
         case atStart=>exact ⟨0,by omega,rfl,J2⟩
         case round =>
           obtain ⟨j,hj,rfl,M⟩:=hrel
           by_cases hjl:j < 1
           · obtain ⟨y,hy⟩:∃ y,l[j]?=some y:=⟨_,List.getElem?_eq_getElem (by omega)⟩
             obtain ⟨v0,v1⟩:=hU j y hy
             replace v0:=cellp v0 M.at_.pur
             replace v1:=cellp v1 M.at_.pur
             have hya:=hasc y (List.mem_of_getElem? hy)
             have hput:=okPts.at e3 hy
             obtain ⟨yn,yi⟩:=y
             have PB2:Pur wr (wr.alloc (.cells #[.string ⟨yn.toArray⟩,.int .i64 yi] 101)):=(Pur.refl wr).alloc _
             have NB2:=bk_new wr (.cells #[.string ⟨yn.toArray⟩,.int .i64 yi] 101)
             have q0:∀ z:PW (wr.alloc (.cells #[.string ⟨yn.toArray⟩,.int .i64 yi] 101)),z.to.cell? ⟨wr.heap.size,0,none⟩=some (.string ⟨yn.toArray⟩):=fun z=>bk_cell (bk_pur NB2 z.pur) 0 _ rfl
             have q1:∀ z:PW (wr.alloc (.cells #[.string ⟨yn.toArray⟩,.int .i64 yi] 101)),z.to.cell? ⟨wr.heap.size,1,none⟩=some (.int .i64 yi):=fun z=>bk_cell (bk_pur NB2 z.pur) 1 _ rfl
             have PU:=fun w' (hp:Pur wr w')=>(M.pure hp).put hT gi yn (bi yi) hya.1 hya.2 (bi_wf _) hput
             simp only [Va.v,Va.cells,bi] at PU
             have d1:decide ((j:Int) < 1)=true:=decide_eq_true (by omega)
             have hwr1:IntKind.i64.wrap ((j:Int) + 1)=j + 1:=IntWalk.i64_in _ (by omega)
             clear NB2 M J2 hput
             go_wp2_with fail
             refine wp_region_pur_tail 7 (by kernel_rfl) (by kernel_rfl) ?_
             simp only [List.take_succ_cons,List.take_zero,List.drop_succ_cons,List.drop_zero]
             repeat (go_big_quiet_step (((go_at_call 55;with_reducible exact quiet_pur (EB _ _)))))
             refine wpQuiet_nil ?_
             intro w9 h9
             have PU9:=PU _ (PB2.trans h9)
             clear PU q0 q1 v0 v1
             go_wp2_with fail
             refine PU9.mono ?_
             rintro e wx ⟨rfl,IX⟩
             have HF:=Lib.hid IX
             clear PU9 IX
             go_wp2
             go_roundw
             case rel=>exact ⟨j + 1,by omega,by simp,HF.out⟩
             case measure=>simp [intOf];omega
           · obtain rfl:j=1:=by omega
             have HF:=Lib.hid M
             clear M J2
             go_wp2
             go_roundw
             case rel=>exact ⟨3 + 1,by omega,by simp,by rw [e4];have:=HF.out;rw [List.take_of_length_le (by omega)] at this;exact this⟩
             case measure=>simp [intOf]
       · have cw:=J.wcell
         have HF:=Lib.hid J
         clear J s0 s1 s2 s3 t0 t1 t2 t3
         go_wp2
         go_ret2
         exact ⟨rfl,HF.out.at_.sub fun b hb=>.inl (.inl hb),K3.trans fun b hb=>HF.out.kept b (.inl (.inl hb))⟩
end Li
end Go.Proofs.YtgdolcoiihagfaaGreatDoor
