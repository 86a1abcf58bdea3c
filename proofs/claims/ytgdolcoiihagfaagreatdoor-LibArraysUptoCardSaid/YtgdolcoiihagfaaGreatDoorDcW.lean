/- The library's decimal as a float's bits. The library's decimal, read of a text. -/
import Derived.Test.YtgdolcoiihagfaaGreatDoorDcX
import Derived.Test.YtgdolcoiihagfaaGreatDoorRfX
import Derived.Test.YtgdolcoiihagfaaGreatDoorRf1
import Derived.Test.YtgdolcoiihagfaaGreatDoorTbE
namespace Go.Proofs.YtgdolcoiihagfaaGreatDoor
open Go Go.RowKit
set_option linter.all false
set_option maxRecDepth 100000
set_option maxHeartbeats 100000000
namespace Dc
variable {ng:Bool}
structure PWT (w:World):Prop where
 sl:∃ g o c,w.cell? ⟨15,0,none⟩=some (.slice (some ⟨g,o,none⟩) 9 c)∧∀ k,k < 9→w.cell? ⟨g,o + k,none⟩=some (.int .i64 ((powt.getD k 0:Nat):Int))
theorem PWT.pur {w w':World} (h:PWT w) (hp:Pur w w'):PWT w':=by
 obtain ⟨g,o,c,h1,h2⟩:=h.sl
 exact ⟨g,o,c,cell_pur h1 hp,fun k hk=>cell_pur (h2 k hk) hp⟩
structure DE (w:World):Prop where
 f:Rf.F64 w
 lc:LCT w
 pw:PWT w
theorem DE.pur {w w':World} (h:DE w) (hp:Pur w w'):DE w':=⟨h.f.pur hp,h.lc.pur hp,h.pw.pur hp⟩
def sg (ng:Bool):Nat:=if ng=true then 9223372036854775808 else 0
def QU (b:Nat) (w:World) (A:Dec × Int) (f:Nat) (v:Value) (wr:World):Prop :=
 ∃ (y:Dec) (e:Int),v=.int .i64 e∧Ok y∧DW ng wr b y∧Chg [b] w wr∧53 - near y≤(f:Int)∧f≤300000∧-24000≤y.dp∧y.dp≤600∧-27 * (300000 - (f:Int))≤e∧e≤200000∧Hid (A=fup f y e)
end Dc
namespace Dc
variable {ng:Bool}
theorem SI.mk0 {s:Rf.Rs} {x:Dec} (h:SI s x):(s.nd=0↔x.nd=0)∧x.nd≤800∧x.nd≤s.nd:=by have:=h.nd;omega
theorem SI.start_at (st:Nat):SI (Rf.start st) zero:=⟨SI.start.b,SI.start.nd,SI.start.v,SI.start.d0,SI.start.m0,SI.start.nm,Nat.zero_le _,by show -(st:Int)≤0;omega,SI.start.dph⟩
def setDs (l:List UInt8) (st:Nat):Dec :=
 let r:=setGo l (l.length + 1) (Rf.start st) zero
 ⟨r.2.D,r.2.nd,(if r.1.dot then r.2.dp else (r.2.nd:Int)) + Rf.exPart l r.1.i,r.2.tr⟩
def Sgn (l:List UInt8) (st:Nat) (ng:Bool):Prop:=st=0∧ng=false∧by8 l 0≠43∧by8 l 0≠45∨st=1∧(ng=false∧by8 l 0=43∨ng=true∧by8 l 0=45)
theorem set_any {w:World} {b:Nat} {l:List UInt8} (st:Nat) (h:DW false w b zero) (hl:l.length≤1000000) (h0:0 < l.length) (hU:∀ i,by8 l i≠95) (hW:Rf.Whole l false st) (p:Sgn l st ng) :
   Calls Tryz.prog 228 #[.pointer (some ⟨b,0,none⟩),.string ⟨l.toArray⟩] w fun e w'=>e=.returned (.bool true)∧DW ng w' b (setDs l st)∧Chg [b] w w':=by
 have hb0:=by8_lt l 0
 have hst:st≤l.length:=by rcases p with ⟨rfl,-⟩ | ⟨rfl,-⟩ <;> omega
 have h0':(0:Int) < l.length:=by omega
 have hne:¬ l=[]:=by intro e;rw [e] at h0;simp at h0
 obtain ⟨Z,hZ⟩:∃ Z,setGo l (l.length + 1) (Rf.start st) zero=Z:=⟨_,rfl⟩
 have hS:Z.1=Rf.digs l false st:=by rw [← hZ,setGo_go];rfl
 have hsi:=setGo_si l (l.length + 1) _ _ (SI.start_at st)
 rw [hZ] at hsi
 have hdl:=(Rf.go_inv l false (l.length + 1) (Rf.start st) (Rf.start_inv _ _)).2 hst
 rw [show Rf.go l false (l.length + 1) (Rf.start st)=Rf.digs l false st from rfl,← hS] at hdl
 obtain ⟨hdig,hend⟩:=hW
 rw [← hS] at hdig hend
 have HX:=Lib.hid (show setDs l st=⟨Z.2.D,Z.2.nd,(if Z.1.dot then Z.2.dp else (Z.2.nd:Int)) + Rf.exPart l Z.1.i,Z.2.tr⟩ by unfold setDs;rw [hZ])
 generalize setDs l st=X at *
 have HZ:=Lib.hid (show Z=setGo l (l.length + 1) (Rf.start st) zero from hZ.symm)
 have HE:=Lib.hid hend
 clear hZ hS hend
 have c2:=h.cneg
 have f2:=h.free 802
 have h1:=h.setneg false
 have c3:=h1.ctr
 have f3:=h1.free 803
 have h2:=h1.settr false
 have g2:=(chg_set w b 802 (.bool false)).trans (chg_set _ b 803 (.bool false))
 clear hb0
 rw [show (⟨zero.D,zero.nd,zero.dp,false⟩:Dec)=zero from rfl] at h2
 go_enter Tryz.func228,Tryz.ntmps228
 go_upto_block 0 with (fail)
 go_cut [5] from 23 to 33 (fun i wx=>i=.int .i64 (st:Int)∧DW ng wx b zero∧Chg [b] w wx)
 case first =>
   clear HX HZ HE hsi hdl hdig
   rcases p with ⟨rfl,rfl,p1,p2⟩ | ⟨rfl,p⟩
   · have q1:((by8 l 0:Int) == 43)=false:=by rw [beq_eq_false_iff_ne];omega
     have q2:((by8 l 0:Int) == 45)=false:=by rw [beq_eq_false_iff_ne];omega
     clear p1 p2
     go_wp2
     go_meet
     exact ⟨rfl,h2,g2⟩
   · rcases p with ⟨rfl,p1⟩ | ⟨rfl,p1⟩
     · have q1:((by8 l 0:Int) == 43)=true:=by rw [beq_iff_eq];omega
       clear p1
       go_wp2
       go_meet
       exact ⟨rfl,h2,g2⟩
     · have q1:((by8 l 0:Int) == 43)=false:=by rw [beq_eq_false_iff_ne];omega
       have q2:((by8 l 0:Int) == 45)=true:=by rw [beq_iff_eq];omega
       have f4:=h2.free 802
       have c4:=h2.cneg
       have h3:=h2.setneg true
       have g3:=g2.trans (chg_set _ b 802 (.bool true))
       clear p1
       go_wp2
       go_meet
       exact ⟨rfl,h3,g3⟩
 case rest =>
 clear h1 h2 g2 c2 f2 c3 f3 h p
 obtain ⟨rfl,h2,g2⟩:=hcut
 go_upto_block 1 with (fail)
 go_cut [5,6,7] from 34 to 116 (fun i dt dg wx=>i=.int .i64 (Z.1.i:Int)∧dt=.bool Z.1.dot∧dg=.bool true∧DW ng wx b Z.2∧Chg [b] w wx)
 case first =>
   clear HX
   go_wp2_with fail
   go_loopw [5,6,7] (fun i dt dg wr=>∃ (s:Rf.Rs) (x:Dec) (f:Nat),i=.int .i64 (s.i:Int)∧dt=.bool s.dot∧dg=.bool s.dig∧s.i≤l.length∧l.length < s.i + f∧SI s x∧DW ng wr b x∧Chg [b] w wr∧Hid (Z=setGo l f s x)) (fun i _ _ _=>l.length + 1 - (intOf i).toNat)
   case atStart=>exact ⟨Rf.start st,zero,l.length + 1,rfl,rfl,rfl,hst,by show l.length < st + _;omega,SI.start_at st,h2,g2,HZ⟩
   case round =>
     obtain ⟨⟨i,mant,nd,nm,dp,dt,dg,tr⟩,x,f,rfl,rfl,rfl,i1,i2,hI,hw,hg,H⟩:=hrel
     have hk:=hI.mk0
     have hk8:=hI.dpl
     have hk9:=hI.dph
     simp only at i1 i2 hk hk8
     clear HZ h2 g2
     obtain ⟨f,rfl⟩:∃ g,f=g + 1:=⟨f - 1,by omega⟩
     have wi:IntKind.i64.wrap ((i:Int) + 1)=(i:Int) + 1:=IntWalk.i64_in _ (by omega)
     by_cases hlt:i < l.length
     · have hlt':(i:Int) < l.length:=by omega
       have HG:=Lib.hid (show Z=(match Rf.step false (by8 l i) ⟨i,mant,nd,nm,dp,dt,dg,tr⟩ with | some t=>setGo l f t (put1 (by8 l i) x) | none=>(⟨i,mant,nd,nm,dp,dt,dg,tr⟩,x)) by rw [H.out,setGo,if_pos hlt];rfl)
       have hb:=by8_lt l i
       have hu:=hU i
       clear H
       have hd95:(((by8 l i):Int) == 95)=false:=by rw [beq_eq_false_iff_ne];omega
       clear hU hu
       have cn:=hw.cnd
       have cp:=hw.cdp
       have ct:=hw.ctr
       have fp:=hw.free 801
       have fn:=hw.free 800
       have ft:=hw.free 803
       obtain ⟨D,xn,xp,xt⟩:=x
       simp only at cn cp ct hk hk8 hk9
       by_cases h46:(by8 l i)=46
       · have d46:((by8 l i:Int) == 46)=true:=by rw [beq_iff_eq];omega
         rcases dt with _ | _
         · have hw2:=hw.setdp (xn:Int)
           have hg2:=hg.trans (chg_set wr b 801 (.int .i64 (xn:Int)))
           have HN:=Lib.hid (show Z=setGo l f ⟨i + 1,mant,nd,nm,nd,true,dg,tr⟩ ⟨D,xn,xn,xt⟩ by rw [HG.out,h46,Rf.step_dot];rfl)
           have hI2:=hI.step (show 46 < 256 by decide) (Rf.step_dot (hex:=false) (i:=i) (m:=mant) (nd:=nd) (nm:=nm) (dp:=dp) (dg:=dg) (tr:=tr))
           rw [show put1 46 ⟨D,xn,xp,xt⟩=⟨D,xn,xn,xt⟩ from rfl] at hI2
           clear HG hI h46 HE
           go_wp2
           go_roundw
           case rel=>exact ⟨⟨i + 1,mant,nd,nm,nd,true,dg,tr⟩,⟨D,xn,xn,xt⟩,f,by go_num,rfl,rfl,by show i + 1≤_;omega,by show _ < i + 1 + f;omega,hI2,hw2,hg2,HN⟩
           case measure=>simp [intOf];omega
         · exfalso
           have hSS:Z.1=⟨i,mant,nd,nm,dp,true,dg,tr⟩:=by rw [HG.out,h46,Rf.step_dot2]
           rcases HE.out with ⟨h,-⟩ | ⟨h1,h2,-⟩
           · rw [hSS] at h;simp only at h;omega
           · rw [hSS] at h2;simp only at h2;rw [h46] at h2;revert h2;decide
       have d46:(((by8 l i):Int) == 46)=false:=by rw [beq_eq_false_iff_ne];omega
       rcases hdg:Rf.digC (by8 l i) with _ | _
       · have hdd:(decide ((48:Int)≤((by8 l i):Int)) && decide (((by8 l i):Int)≤57))=false:=by
           rw [← hdg];simp only [Rf.digC];congr 1 <;> rw [decide_eq_decide] <;> omega
         have HN:=Lib.hid (show Z=(⟨i,mant,nd,nm,dp,dt,dg,tr⟩,⟨D,xn,xp,xt⟩) by rw [HG.out,Rf.step_none h46 hdg rfl])
         have hdg2:dg=true:=by rw [HN.out] at hdig;exact hdig
         subst hdg2
         clear HG hI HE hdg hdig
         rcases o3:decide ((48:Int)≤((by8 l i):Int)) with _ | _ <;> rcases o4:decide (((by8 l i):Int)≤57) with _ | _
         all_goals
           rw [o3,o4] at hdd
           first
             | exact absurd hdd (by decide)
             | (skip
                clear hdd
                go_wp2
                go_meet
                rw [HN.out]
                exact ⟨rfl,rfl,rfl,hw,hg⟩)
       · have hdd:=hdg
         simp only [Rf.digC,Bool.and_eq_true,decide_eq_true_eq] at hdd
         have o3:decide ((48:Int)≤((by8 l i):Int))=true:=by rw [decide_eq_true_eq];omega
         have o4:decide (((by8 l i):Int)≤57)=true:=by rw [decide_eq_true_eq];omega
         by_cases hz:(by8 l i)=48∧nd=0
         · obtain ⟨h48,rfl⟩:=hz
           obtain rfl:xn=0:=by omega
           have d48:((by8 l i:Int) == 48)=true:=by rw [beq_iff_eq];omega
           have wp:IntKind.i64.wrap (xp - 1)=xp - 1:=IntWalk.i64_in _ (by omega)
           have hw2:=hw.setdp (xp - 1)
           have hg2:=hg.trans (chg_set wr b 801 (.int .i64 (xp - 1)))
           have HN:=Lib.hid (show Z=setGo l f ⟨i + 1,mant,0,nm,dp - 1,dt,true,tr⟩ ⟨D,0,xp - 1,xt⟩ by rw [HG.out,h48,Rf.step_zero];rfl)
           have hI2:=hI.step (show 48 < 256 by decide) (Rf.step_zero (hex:=false) (i:=i) (m:=mant) (nm:=nm) (dp:=dp) (dt:=dt) (dg:=dg) (tr:=tr))
           rw [show put1 48 ⟨D,0,xp,xt⟩=⟨D,0,xp - 1,xt⟩ from rfl] at hI2
           clear HG hI HE hdg hdd h48 h46
           go_wp2
           go_roundw
           case rel=>exact ⟨⟨i + 1,mant,0,nm,dp - 1,dt,true,tr⟩,⟨D,0,xp - 1,xt⟩,f,by go_num,rfl,rfl,by show i + 1≤_;omega,by show _ < i + 1 + f;omega,hI2,hw2,hg2,HN⟩
           case measure=>simp [intOf];omega
         · have hz2:(((by8 l i):Int) == 48)=((by8 l i) == 48):=by rw [Bool.eq_iff_iff,beq_iff_eq,beq_iff_eq];omega
           have hz3:((by8 l i) == 48)=true→((xn:Int) == 0)=false:=fun h=>by rw [beq_iff_eq] at h;rw [beq_eq_false_iff_ne];omega
           have hz4:((by8 l i) == 48)=true→0 < xn:=fun h=>by rw [beq_iff_eq] at h;omega
           obtain ⟨t,ht⟩:∃ t,Rf.step false (by8 l i) ⟨i,mant,nd,nm,dp,dt,dg,tr⟩=some t:=by
             by_cases hn:nm < 19
             · exact ⟨_,Rf.step_dig hdg hz hn⟩
             · exact ⟨_,Rf.step_over hdg hz hn⟩
           have ht2:t.i=i + 1∧t.dot=dt∧t.dig=true:=by
             by_cases hn:nm < 19
             · rw [Rf.step_dig hdg hz hn] at ht;cases ht;exact ⟨rfl,rfl,rfl⟩
             · rw [Rf.step_over hdg hz hn] at ht;cases ht;exact ⟨rfl,rfl,rfl⟩
           have HN0:=Lib.hid (show Z=setGo l f t (put1 (by8 l i) ⟨D,xn,xp,xt⟩) by rw [HG.out,ht])
           have hI2:=hI.step hb ht
           obtain ⟨ti,tm,tnd,tnm,tdp,tdt,tdg,ttr⟩:=t
           simp only at ht2
           obtain ⟨rfl,rfl,rfl⟩:=ht2
           by_cases hn:xn < 800
           · have hn':(xn:Int) < 800:=by omega
             have hn0:(0:Int)≤(xn:Int):=by omega
             have hput:put1 (by8 l i) ⟨D,xn,xp,xt⟩=⟨D.set xn (by8 l i),xn + 1,xp,xt⟩:=by
               unfold put1;rw [if_neg h46,if_neg (by simp only;omega),if_pos (by simp only;exact hn)]
             rw [hput] at hI2
             have HN:=Lib.hid (HN0.out.trans (by rw [hput]))
             have cn':=fun v:PW wr=>(hw.pur v.pur).cnd
             simp only at cn'
             have wn:IntKind.i64.wrap ((xn:Int) + 1)=((xn + 1:Nat):Int):=by rw [show (xn:Int) + 1=((xn + 1:Nat):Int) by omega];exact IntWalk.i64_in _ (by omega)
             clear HG hI HE hdg hz HN0 hput ht h46
             rcases hz5:((by8 l i) == 48) with _ | _
             all_goals
               rw [hz5] at hz2 hz3 hz4
               first
                 | (have hz6:=hz3 rfl;have hz7:=hz4 rfl)
                 | skip
               clear hz3 hz4 hz5
               go_wp2
               refine wp_region_pur_tail 11 (by kernel_rfl) (by kernel_rfl) ?_
               simp only [List.take_succ_cons,List.take_zero,List.drop_succ_cons,List.drop_zero]
               repeat (go_big_quiet_step (fail))
               refine wpQuiet_nil ?_
               intro wq hq
               have hq1:=hw.pur hq
               have cq:=hq1.cd (i:=xn) hn
               have fq:=hq1.free xn
               have hq2:=hq1.setd (i:=xn) hn hb
               have cq2:=hq2.cnd
               have fq2:=hq2.free 800
               have hq3:=hq2.setnd (xn + 1)
               have gq:=((hg.pur hq).trans (chg_set wq b xn (.int .u8 (by8 l i:Int)))).trans (chg_set _ b 800 (.int .i64 ((xn + 1:Nat):Int)))
               simp only at cq cq2 hq3
               go_wp2
               go_roundw
               case rel=>exact ⟨⟨i + 1,tm,tnd,tnm,tdp,tdt,true,ttr⟩,⟨D.set xn (by8 l i),xn + 1,xp,xt⟩,f,by go_num,rfl,rfl,by show i + 1≤_;omega,by show _ < i + 1 + f;omega,hI2,hq3,gq,HN⟩
               case measure=>simp [intOf];omega
           · have hn':¬ (xn:Int) < 800:=by omega
             have hput:put1 (by8 l i) ⟨D,xn,xp,xt⟩=⟨D,xn,xp,xt || !((by8 l i) == 48)⟩:=by
               unfold put1;rw [if_neg h46,if_neg (by simp only;omega),if_neg (by simp only;exact hn)]
             rw [hput] at hI2
             have HN:=Lib.hid (HN0.out.trans (by rw [hput]))
             have hz8:(((by8 l i):Int) != 48)=!((by8 l i) == 48):=by rw [← hz2];rfl
             clear HG hI HE hdg hz HN0 hput ht h46
             rcases hz5:((by8 l i) == 48) with _ | _
             · rw [hz5] at hz2 hz8 HN hI2
               simp only [Bool.not_false,Bool.or_true] at hz8 HN hI2
               have hw2:=hw.settr true
               have hg2:=hg.trans (chg_set wr b 803 (.bool true))
               simp only at hw2
               clear hz3 hz4 hz5
               go_wp2
               go_roundw
               case rel=>exact ⟨⟨i + 1,tm,tnd,tnm,tdp,tdt,true,ttr⟩,⟨D,xn,xp,true⟩,f,by go_num,rfl,rfl,by show i + 1≤_;omega,by show _ < i + 1 + f;omega,hI2,hw2,hg2,HN⟩
               case measure=>simp [intOf];omega
             · rw [hz5] at hz2 hz8 HN hI2
               have hz6:=hz3 hz5
               have hz7:=hz4 hz5
               simp only [Bool.not_true,Bool.or_false] at hz8 HN hI2
               clear hz3 hz4 hz5
               go_wp2
               go_roundw
               case rel=>exact ⟨⟨i + 1,tm,tnd,tnm,tdp,tdt,true,ttr⟩,⟨D,xn,xp,xt⟩,f,by go_num,rfl,rfl,by show i + 1≤_;omega,by show _ < i + 1 + f;omega,hI2,hw,hg,HN⟩
               case measure=>simp [intOf];omega
     · have HN:=Lib.hid (show Z=(⟨i,mant,nd,nm,dp,dt,dg,tr⟩,x) by rw [H.out,setGo,if_neg hlt])
       have hlt':¬ (i:Int) < l.length:=by omega
       have hdg2:dg=true:=by rw [HN.out] at hdig;exact hdig
       subst hdg2
       clear H hI hU HE hdig
       go_wp2
       go_meet
       rw [HN.out]
       exact ⟨rfl,rfl,rfl,hw,hg⟩
 case rest =>
   obtain ⟨rfl,rfl,rfl,hw,hg⟩:=hcut
   clear HZ h2 g2 hU hdig
   obtain ⟨S,xx⟩:=Z
   obtain ⟨D,xn,xp,xt⟩:=xx
   have hk:=hsi.mk0
   have k8:=hsi.dpl
   have k9:=hsi.dph
   simp only at HX HE hw hdl hk k8 k9
   obtain ⟨Q,hQ⟩:∃ Q,(if S.dot then xp else (xn:Int))=Q:=⟨_,rfl⟩
   rw [hQ] at HX
   have Q1:-(S.i:Int)≤Q∧Q≤800:=by rw [← hQ];split <;> omega
   obtain ⟨dt,hdt⟩:∃ dt,S.dot=dt:=⟨_,rfl⟩
   rw [hdt] at hQ
   have HQ:=Lib.hid hQ
   clear hQ hsi
   have Ie:∀ v,Value.bool S.dot=v→v=.bool dt:=fun v h=>by rw [← h,hdt]
   clear Ie
   go_upto_region 30 with (fail)
   go_cut [120] from 119 to 120 (fun v wx=>v=.bool (!dt)∧DW ng wx b ⟨D,xn,xp,xt⟩∧Chg [b] w wx)
   case first =>
     clear HX HE
     go_wp2
     go_meet
     exact ⟨rfl,hw,hg⟩
   case rest =>
     clear hw hg
     obtain ⟨rfl,hw,hg⟩:=hcut
     go_upto_if 120 with (fail)
     go_cut [121] from 121 to 127 (fun v wx=>DW ng wx b ⟨D,xn,Q,xt⟩∧Chg [b] w wx)
     case first =>
       clear HX HE hdt
       have cn:=hw.cnd
       have cp:=hw.cdp
       have fp:=hw.free 801
       have hw2:=hw.setdp (xn:Int)
       simp only at cn cp hw2
       have hg2:=hg.trans (chg_set _ b 801 (.int .i64 (xn:Int)))
       rcases dt with _ | _
       · have e:(xn:Int)=Q:=by have:=HQ.out;simpa using this
         have HW3:=Lib.hid (show DW ng (_) b ⟨D,xn,Q,xt⟩ by rw [← e];exact hw2)
         clear e HQ hw2
         go_wp2
         go_meet
         exact ⟨HW3.out,hg2⟩
       · have e:xp=Q:=by have:=HQ.out;simpa using this
         rw [e] at hw
         have HW3:=Lib.hid hw
         clear e HQ hw hw2 hg2
         go_wp2
         go_meet
         exact ⟨HW3.out,hg⟩
     case rest =>
       clear hw hg
       obtain ⟨hw,hg⟩:=hcut
       clear HQ hdt k8 k9 hk
       rcases HE.out with ⟨hend,-⟩ | ⟨hM,hM2,hM3,hM4⟩
       · have hend':¬ (S.i:Int) < l.length:=by omega
         have HX2:=Lib.hid (show X=⟨D,xn,Q,xt⟩ by rw [HX.out,show Rf.exPart l S.i=0 from if_neg (by omega),Int.add_zero])
         have de:((S.i:Int) != (l.length:Int))=false:=by rw [bne_eq_false_iff_eq];omega
         have HI:=Lib.hid hend
         clear HX HE hend
         go_wp2
         go_ret
         rw [HX2.out]
         exact ⟨rfl,hw,hg⟩
       · have hM':(S.i:Int) < l.length:=by omega
         have hbM:=by8_lt l S.i
         have LWm:=fun w=>Rf.lower_any (by8 l S.i) w hbM
         rw [show by8 l S.i ||| 32=101 from hM2] at LWm
         have hbS:=by8_lt l (S.i + 1)
         have w5:IntKind.i64.wrap ((S.i:Int) + 1)=(S.i:Int) + 1:=IntWalk.i64_in _ (by omega)
         have w6:IntKind.i64.wrap ((S.i:Int) + 1 + 1)=(S.i:Int) + 2:=by rw [show (S.i:Int) + 1 + 1=(S.i:Int) + 2 by omega];exact IntWalk.i64_in _ (by omega)
         have w7:IntKind.i64.wrap ((S.i:Int) + 2)=(S.i:Int) + 2:=IntWalk.i64_in _ (by omega)
         have n1:((S.i:Int) + 1).toNat=S.i + 1:=by omega
         have hA0:S.i + 1≤Rf.exAt l S.i∧Rf.exAt l S.i≤S.i + 2:=by unfold Rf.exAt;split <;> omega
         have hM5:(S.i:Int) + 1 < l.length:=by omega
         have hM6:¬ (l.length:Int)≤(S.i:Int) + 1:=by omega
         obtain ⟨E,hE⟩:∃ E,Rf.exGo l (l.length + 1) (Rf.exAt l S.i) 0=E:=⟨_,rfl⟩
         have hEl:=Rf.exGo_lt l (l.length + 1) (Rf.exAt l S.i) 0 (by omega) hM4
         rw [hE] at hEl
         have hdA:=hM4 (Rf.exAt l S.i) (Nat.le_refl _) hM3
         simp only [Rf.digC,Bool.and_eq_true,decide_eq_true_eq] at hdA
         have hdk:Hid (∀ k,Rf.exAt l S.i≤k→k < l.length→48≤by8 l k∧by8 l k≤57):=Lib.hid (fun k h1 h2=>by have:=hM4 k h1 h2;simpa only [Rf.digC,Bool.and_eq_true,decide_eq_true_eq] using this)
         obtain ⟨G,hG⟩:∃ G:Int,(if by8 l (S.i + 1)=45 then -1 else 1)=G:=⟨_,rfl⟩
         have hof:Rf.exOf l S.i=(E:Int) * G:=by
           rw [← hG];unfold Rf.exOf;rw [hE];split <;> omega
         have G1:G=1∨G=-1:=by rw [← hG];split <;> simp
         have HX2:=Lib.hid (show X=⟨D,xn,Q + (E:Int) * G,xt⟩ by rw [HX.out,show Rf.exPart l S.i=Rf.exOf l S.i from if_pos hM,hof])
         have EG:-100010≤(E:Int) * G∧(E:Int) * G≤100010:=by rcases G1 with h | h <;> rw [h] <;> omega
         obtain ⟨F,hF⟩:∃ F,Rf.exAt l S.i=F:=⟨_,rfl⟩
         rw [hF] at hA0 hM3 hE hdA hdk
         have HF:=Lib.hid hF
         have HG:=Lib.hid hG
         have HEx:=Lib.hid (show E=Rf.exGo l (l.length + 1) F 0 from hE.symm)
         clear HX HE hM4 hM2 hE hof hF hG hbM
         go_upto_block 4 with (first | (go_at_call 237;refine (LWm _).mono ?_;rintro e w1 ⟨rfl,rfl⟩))
         go_cut [5,8] from 148 to 155 (fun i g wx=>i=.int .i64 (F:Int)∧g=.int .i64 G∧DW ng wx b ⟨D,xn,Q,xt⟩∧Chg [b] w wx)
         case first =>
           clear HX2 HEx hdk
           by_cases g1:by8 l (S.i + 1)=43
           · have d1:((by8 l (S.i + 1):Int) == 43)=true:=by rw [beq_iff_eq];omega
             have e1:(S.i:Int) + 2=(F:Int):=by rw [← HF.out];unfold Rf.exAt;rw [if_pos (.inl g1)];omega
             have e2:G=1:=by rw [← HG.out,if_neg (by omega)]
             have E1:=Lib.hid e1
             subst e2
             clear e1 g1 HF HG hdA EG G1
             go_wp2
             go_meet
             exact ⟨by rw [E1.out],rfl,hw,hg⟩
           by_cases g2:by8 l (S.i + 1)=45
           · have d1:((by8 l (S.i + 1):Int) == 43)=false:=by rw [beq_eq_false_iff_ne];omega
             have d2:((by8 l (S.i + 1):Int) == 45)=true:=by rw [beq_iff_eq];omega
             have e1:(S.i:Int) + 2=(F:Int):=by rw [← HF.out];unfold Rf.exAt;rw [if_pos (.inr g2)];omega
             have e2:G=-1:=by rw [← HG.out,if_pos g2]
             have E1:=Lib.hid e1
             subst e2
             clear e1 g1 g2 HF HG hdA EG G1
             go_wp2
             go_meet
             exact ⟨by rw [E1.out],rfl,hw,hg⟩
           · have d1:((by8 l (S.i + 1):Int) == 43)=false:=by rw [beq_eq_false_iff_ne];omega
             have d2:((by8 l (S.i + 1):Int) == 45)=false:=by rw [beq_eq_false_iff_ne];omega
             have e1:(S.i:Int) + 1=(F:Int):=by rw [← HF.out];unfold Rf.exAt;rw [if_neg (by omega)];omega
             have e2:G=1:=by rw [← HG.out,if_neg g2]
             have E1:=Lib.hid e1
             subst e2
             clear e1 g1 g2 HF HG hdA EG G1
             go_wp2
             go_meet
             exact ⟨by rw [E1.out],rfl,hw,hg⟩
         case rest =>
           clear hw hg
           obtain ⟨rfl,rfl,hw,hg⟩:=hcut
           clear HF HG LWm hbS w5 w6 w7 n1 hM' hM hM5 hM6
           have hF':(F:Int) < l.length:=by omega
           have hF2:¬ (l.length:Int)≤(F:Int):=by omega
           have x1:decide (((by8 l F:Nat):Int) < 48)=false:=by rw [decide_eq_false_iff_not];omega
           have x2:decide ((57:Int) < ((by8 l F:Nat):Int))=false:=by rw [decide_eq_false_iff_not];omega
           go_upto_block 5 with (fail)
           go_cut [5,9] from 172 to 209 (fun i e wx=>i=.int .i64 (l.length:Int)∧e=.int .i64 (E:Int)∧DW ng wx b ⟨D,xn,Q,xt⟩∧Chg [b] w wx)
           case first =>
             clear HX2 x1 x2
             go_wp2_with fail
             go_loopw [5,9] (fun i e wr=>∃ (k x f:Nat),i=.int .i64 (k:Int)∧e=.int .i64 (x:Int)∧F≤k∧k≤l.length∧l.length < k + f∧x < 100010∧DW ng wr b ⟨D,xn,Q,xt⟩∧Chg [b] w wr∧Hid (E=Rf.exGo l f k x)) (fun i _ _=>l.length + 1 - (intOf i).toNat)
             case atStart=>exact ⟨F,0,l.length + 1,rfl,rfl,Nat.le_refl _,by omega,by omega,by omega,hw,hg,HEx⟩
             case round =>
               obtain ⟨k,x,f,rfl,rfl,k1,k2,k3,xl,hw2,hg2,H⟩:=hrel
               obtain ⟨f,rfl⟩:∃ g,f=g + 1:=⟨f - 1,by omega⟩
               clear HEx hw hg hdA hF' hF2
               by_cases hlt:k < l.length
               · have hlt':(k:Int) < l.length:=by omega
                 have hd:=hdk.out k k1 hlt
                 have hb:=by8_lt l k
                 have o3:decide ((48:Int)≤((by8 l k):Int))=true:=by rw [decide_eq_true_eq];omega
                 have o4:decide (((by8 l k):Int)≤57)=true:=by rw [decide_eq_true_eq];omega
                 have o5:(((by8 l k):Int) == 95)=false:=by rw [beq_eq_false_iff_ne];omega
                 have wk:IntKind.i64.wrap ((k:Int) + 1)=(k:Int) + 1:=IntWalk.i64_in _ (by omega)
                 have wc:IntKind.i64.wrap ((by8 l k):Int)=((by8 l k):Int):=IntWalk.i64_in _ (by omega)
                 by_cases x4:x < 10000
                 · have x4':(x:Int) < 10000:=by omega
                   have HN:=Lib.hid (show E=Rf.exGo l f (k + 1) (x * 10 + (by8 l k - 48)) by rw [H.out,Rf.exGo,if_pos hlt,if_pos x4])
                   have v1:IntKind.i64.wrap ((x:Int) * 10)=(x:Int) * 10:=IntWalk.i64_in _ (by omega)
                   have v2:IntKind.i64.wrap ((x:Int) * 10 + ((by8 l k):Int))=(x:Int) * 10 + ((by8 l k):Int):=IntWalk.i64_in _ (by omega)
                   have v3:IntKind.i64.wrap ((x:Int) * 10 + ((by8 l k):Int) - 48)=((x * 10 + (by8 l k - 48):Nat):Int):=by rw [show (x:Int) * 10 + ((by8 l k):Int) - 48=((x * 10 + (by8 l k - 48):Nat):Int) by omega];exact IntWalk.i64_in _ (by omega)
                   have xl2:x * 10 + (by8 l k - 48) < 100010:=by omega
                   obtain ⟨y,hy⟩:∃ y,x * 10 + (by8 l k - 48)=y:=⟨_,rfl⟩
                   rw [hy] at v3 HN xl2
                   clear H hy hd
                   go_wp2
                   go_roundw
                   case rel=>exact ⟨k + 1,y,f,by go_num,rfl,by omega,by omega,by omega,xl2,hw2,hg2,HN⟩
                   case measure=>simp [intOf];omega
                 · have x4':¬ (x:Int) < 10000:=by omega
                   have HN:=Lib.hid (show E=Rf.exGo l f (k + 1) x by rw [H.out,Rf.exGo,if_pos hlt,if_neg x4])
                   clear H hd
                   go_wp2
                   go_roundw
                   case rel=>exact ⟨k + 1,x,f,by go_num,rfl,by omega,by omega,by omega,xl,hw2,hg2,HN⟩
                   case measure=>simp [intOf];omega
               · have hlt':¬ (k:Int) < l.length:=by omega
                 have HN:=Lib.hid (show E=x by rw [H.out,Rf.exGo,if_neg hlt])
                 have HK:=Lib.hid (show k=l.length by omega)
                 clear H
                 go_wp2
                 go_meet
                 exact ⟨by rw [HK.out],by rw [HN.out],hw2,hg2⟩
           case rest =>
             clear hw hg HEx hdk x1 x2 hF' hF2 hdA
             obtain ⟨rfl,rfl,hw,hg⟩:=hcut
             have cp:=hw.cdp
             have fp:=hw.free 801
             have hw2:=hw.setdp (Q + (E:Int) * G)
             simp only at cp hw2
             have hg2:=hg.trans (chg_set _ b 801 (.int .i64 (Q + (E:Int) * G)))
             have v1:IntKind.i64.wrap ((E:Int) * G)=(E:Int) * G:=IntWalk.i64_in _ (by omega)
             have v2:IntKind.i64.wrap (Q + (E:Int) * G)=Q + (E:Int) * G:=IntWalk.i64_in _ (by omega)
             clear EG G1 hEl
             go_wp2
             go_ret
             rw [HX2.out]
             exact ⟨rfl,hw2,hg2⟩
end Dc
end Go.Proofs.YtgdolcoiihagfaaGreatDoor
