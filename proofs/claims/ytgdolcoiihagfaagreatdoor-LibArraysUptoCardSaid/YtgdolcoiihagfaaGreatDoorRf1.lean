/- The library's reading of a number's text. -/
import Derived.Test.YtgdolcoiihagfaaGreatDoorNmX
import Derived.Test.YtgdolcoiihagfaaGreatDoorBase
import Derived.Test.YtgdolcoiihagfaaGreatDoorChecked
import Derived.Deep.CutBlock
import Derived.Laws.BitsAllLaws
import Derived.Lib.Hide
import Derived.WalkMore
namespace Go.Proofs.YtgdolcoiihagfaaGreatDoor
open Go Go.RowKit
set_option linter.all false
set_option maxRecDepth 100000
set_option maxHeartbeats 100000000
namespace Rf
theorem lower_any (c:Nat) (w:World) (hc:c < 256):Calls Tryz.prog 237 #[.int .u8 (c:Int)] w fun e w'=>e=.returned (.int .u8 ((c ||| 32:Nat):Int))∧w=w':=by
 have ho:bits .or .u8 (c:Int) 32=((c ||| 32:Nat):Int):=u8_or_nat c 32 hc (by decide)
 go_enter Tryz.func237,Tryz.ntmps237
 go_wp2
 go_ret
 exact ⟨rfl,rfl⟩
/-- a sign ahead -/
def sgn (l:List UInt8):Nat:=if by8 l 0=43∨by8 l 0=45 then 1 else 0
def neg (l:List UInt8):Bool:=by8 l 0 == 45
/-- is it written by sixteens? -/
def hexAt (l:List UInt8) (i:Nat):Bool:=decide (i + 2 < l.length) && (by8 l i == 48 && (by8 l (i + 1) ||| 32 == 120))
def from0 (l:List UInt8):Nat:=if hexAt l (sgn l) then sgn l + 2 else sgn l
def RfPost (l:List UInt8) (w:World) (e:Ending) (w':World):Prop :=
 e=.returned (.tuple #[.int .u64 ((digs l (hexAt l (sgn l)) (from0 l)).mant:Int),.int .i64 (pow l (hexAt l (sgn l)) (from0 l)),.bool (neg l),.bool (digs l (hexAt l (sgn l)) (from0 l)).trunc,.bool (hexAt l (sgn l)),.int .i64 (l.length:Int),.bool true])∧w=w'
theorem readFloat_dec (l:List UInt8) (w:World) (hl:l.length≤1000000) (h0:0 < l.length) (hU:∀ i,by8 l i≠95) (hW:Whole l (hexAt l (sgn l)) (from0 l)) (hH:hexAt l (sgn l)=false) :
   Calls Tryz.prog 222 #[.string ⟨l.toArray⟩] w fun e w'=>RfPost l w e w':=by
 have hb0:=by8_lt l 0
 have h0':(0:Int) < l.length:=by omega
 have hne:¬ l=[]:=by intro e;rw [e] at h0;simp at h0
 go_enter Tryz.func222,Tryz.ntmps222
 go_wp2
 go_step3
 go_upto_if 24 with (fail)
 go_step
 go_step
 go_simp
 go_step
 go_step
 go_cut [4,7] from 25 to 35 (fun t i wx=>t=.bool (neg l)∧i=.int .i64 (sgn l:Int)∧w=wx)
 case first =>
   by_cases g1:by8 l 0=43
   · have H1:=Lib.hid (show neg l=false by unfold neg;rw [g1];rfl)
     have H2:=Lib.hid (show sgn l=1 by unfold sgn;rw [if_pos (.inl g1)])
     have d1:((by8 l 0:Int) == 43)=true:=by rw [beq_iff_eq];omega
     clear g1 hU hW hH
     go_wp2
     go_meet
     exact ⟨by rw [H1.out],by rw [H2.out];rfl,rfl⟩
   by_cases g2:by8 l 0=45
   · have H1:=Lib.hid (show neg l=true by unfold neg;rw [g2];rfl)
     have H2:=Lib.hid (show sgn l=1 by unfold sgn;rw [if_pos (.inr g2)])
     have d1:((by8 l 0:Int) == 43)=false:=by rw [beq_eq_false_iff_ne];omega
     have d2:((by8 l 0:Int) == 45)=true:=by rw [beq_iff_eq];omega
     clear g1 g2 hU hW hH
     go_wp2
     go_meet
     exact ⟨by rw [H1.out],by rw [H2.out];rfl,rfl⟩
   · have H1:=Lib.hid (show neg l=false by unfold neg;rw [beq_eq_false_iff_ne];exact g2)
     have H2:=Lib.hid (show sgn l=0 by unfold sgn;rw [if_neg (by omega)])
     have d1:((by8 l 0:Int) == 43)=false:=by rw [beq_eq_false_iff_ne];omega
     have d2:((by8 l 0:Int) == 45)=false:=by rw [beq_eq_false_iff_ne];omega
     clear g1 g2 hU hW hH
     go_wp2
     go_meet
     exact ⟨by rw [H1.out],by rw [H2.out];rfl,rfl⟩
 case rest =>
   obtain ⟨rfl,rfl,rfl⟩:=hcut
   obtain ⟨i0,hi0⟩:∃ i0,sgn l=i0:=⟨_,rfl⟩
   have hi1:i0≤1:=by rw [← hi0];unfold sgn;split <;> omega
   have hRf:∀ e w',RfPost l w e w'=(e=.returned (.tuple #[.int .u64 ((digs l (hexAt l i0) (from0 l)).mant:Int),.int .i64 (pow l (hexAt l i0) (from0 l)),.bool (neg l),.bool (digs l (hexAt l i0) (from0 l)).trunc,.bool (hexAt l i0),.int .i64 (l.length:Int),.bool true])∧w=w'):=fun e w'=>by unfold RfPost;rw [hi0]
   have HR:=Lib.hid hRf
   have hf0:from0 l=if hexAt l i0 then i0 + 2 else i0:=by unfold from0;rw [hi0]
   rw [hi0] at hW hH ⊢
   have hb0:=by8_lt l i0
   have hb1:=by8_lt l (i0 + 1)
   have hx:hexAt l i0=(decide (i0 + 2 < l.length) && ((by8 l i0 == 48) && ((by8 l (i0 + 1) ||| 32) == 120))):=rfl
   clear hRf hi0
   generalize neg l=ng at *
   obtain ⟨hx0,hX⟩:∃ x,hexAt l i0=x:=⟨_,rfl⟩
   rw [hX] at hx hf0 hW HR hH
   obtain ⟨F0,hF⟩:∃ F,from0 l=F:=⟨_,rfl⟩
   rw [hF] at hf0 hW HR
   clear hX hF
   have w2:IntKind.i64.wrap ((i0:Int) + 2)=(i0:Int) + 2:=IntWalk.i64_in _ (by omega)
   have w1:IntKind.i64.wrap ((i0:Int) + 1)=(i0:Int) + 1:=IntWalk.i64_in _ (by omega)
   have LW:=fun w=>lower_any (by8 l (i0 + 1)) w hb1
   go_upto_region 12 with (fail)
   go_cut [54] from 36 to 54 (fun t wx=>t=.bool hx0∧w=wx)
   case first =>
     clear hW hf0 hU hH
     by_cases g1:i0 + 2 < l.length
     · have g1':(i0:Int) + 2 < l.length:=by omega
       have g2':(i0:Int) < l.length:=by omega
       have g3':(i0:Int) + 1 < l.length:=by omega
       have n1:((i0:Int) + 1).toNat=i0 + 1:=by omega
       rw [decide_eq_true g1] at hx
       rcases g2:(by8 l i0 == 48) with _ | _
       · have d1:((by8 l i0:Int) == 48)=false:=by rw [beq_eq_false_iff_ne] at g2 ⊢;omega
         rw [g2] at hx
         have HX:=Lib.hid hx
         clear hx g2 LW
         go_wp2
         go_meet
         exact ⟨by rw [HX.out];rfl,rfl⟩
       · have d1:((by8 l i0:Int) == 48)=true:=by rw [beq_iff_eq] at g2 ⊢;omega
         rw [g2] at hx
         have d2:((((by8 l (i0 + 1) ||| 32):Nat):Int) == 120)=(by8 l (i0 + 1) ||| 32 == 120):=by rw [Bool.eq_iff_iff,beq_iff_eq,beq_iff_eq];omega
         generalize hO:by8 l (i0 + 1) ||| 32=o at *
         clear hO
         rcases g3:(o == 120) with _ | _
         all_goals
           rw [g3] at hx d2
           have HX:=Lib.hid hx
           clear hx g2 g3
           go_wp2_with fail
           refine (LW _).mono ?_
           rintro e w1 ⟨rfl,rfl⟩
           go_wp2
           go_meet
           exact ⟨by rw [HX.out];rfl,rfl⟩
     · have g1':¬ (i0:Int) + 2 < l.length:=by omega
       rw [decide_eq_false g1] at hx
       have HX:=Lib.hid hx
       clear hx LW
       go_wp2
       go_meet
       exact ⟨by rw [HX.out];rfl,rfl⟩
   case rest =>
     obtain ⟨rfl,rfl⟩:=hcut
     have hF1:F0≤3:=by rw [hf0];split <;> omega
     have hF2:F0≤l.length:=by
       rw [hf0]
       by_cases e:hx0=true
       · have h2:=hx
         rw [e] at h2
         have h3:=h2.symm
         rw [Bool.and_eq_true,decide_eq_true_eq] at h3
         have h4:=h3.1
         rw [if_pos e]
         omega
       · rw [if_neg e]
         omega
     clear hx LW hb0 hb1
     rcases hx0 with _ | _
     · clear hH
       rw [if_neg (by simp)] at hf0
       have hF0:(F0:Int)=(i0:Int):=by rw [hf0]
       have HF0:=Lib.hid hF0
       clear hF0 hf0
       obtain ⟨S,hS⟩:∃ S,digs l false F0=S:=⟨_,rfl⟩
       have hSi:=go_inv l false (l.length + 1) (start F0) (start_inv _ _)
       have hSs:=fun h=>go_stop l false (l.length + 1) (start F0) (by show l.length < F0 + (l.length + 1);omega) h
       rw [show go l false (l.length + 1) (start F0)=S from hS] at hSi hSs
       have HS:=Lib.hid (show S=go l false (l.length + 1) (start F0) from hS.symm)
       have hSl:=hSi.2 hF2
       unfold Whole at hW
       rw [hS] at hW HR
       have HP:=Lib.hid (show pow l false F0=if S.mant=0 then 0 else dpOf false S + exPart l S.i - (S.nm:Int) * (if false then 4 else 1) by unfold pow;rw [hS])
       have hdig:=hW.1
       have HW:=Lib.hid hW.2
       have HI:=Lib.hid hSi.1
       clear hW hSi hS hSs
       go_upto_block 1 with (fail)
       go_step3
       go_upto_block 1 with (fail)
       go_cut [2,5,7,9,13,14,15,16,17] from 57 to 138 (fun m tr i us dt dg nd nm dp wx=>m=.int .u64 (S.mant:Int)∧tr=.bool S.trunc∧i=.int .i64 (S.i:Int)∧us=.bool false∧dt=.bool S.dot∧dg=.bool S.dig∧nd=.int .i64 (S.nd:Int)∧nm=.int .i64 (S.nm:Int)∧dp=.int .i64 S.dp∧w=wx)
       case first =>
         clear HR HP hdig
         go_wp2_with fail
         go_loopw [2,5,7,9,13,14,15,16,17] (fun m tr i us dt dg nd nm dp wr=>∃ (s:Rs) (f:Nat),m=.int .u64 (s.mant:Int)∧tr=.bool s.trunc∧i=.int .i64 (s.i:Int)∧us=.bool false∧dt=.bool s.dot∧dg=.bool s.dig∧nd=.int .i64 (s.nd:Int)∧nm=.int .i64 (s.nm:Int)∧dp=.int .i64 s.dp∧wr=w∧s.i≤l.length∧l.length < s.i + f∧Inv false s∧Hid (S=go l false f s)) (fun _ _ i _ _ _ _ _ _ _=>l.length + 1 - (intOf i).toNat)
         case atStart=>exact ⟨start F0,l.length + 1,rfl,rfl,by rw [show ((start F0).i:Int)=(F0:Int) from rfl,HF0.out],rfl,rfl,rfl,rfl,rfl,rfl,rfl,hF2,by show l.length < F0 + (l.length + 1);omega,start_inv _ _,HS⟩
         case round =>
           obtain ⟨⟨i,mant,nd,nm,dp,dt,dg,tr⟩,f,rfl,rfl,rfl,rfl,rfl,rfl,rfl,rfl,rfl,rfl,i1,i2,hI,H⟩:=hrel
           obtain ⟨q1,q2,q3,q4,q5⟩:=id hI
           simp only at i1 i2 q1 q2 q3 q4 q5
           have q2':nm≤19:=q2
           clear HS q2 q3
           obtain ⟨f,rfl⟩:∃ g,f=g + 1:=⟨f - 1,by omega⟩
           have wi:IntKind.i64.wrap ((i:Int) + 1)=(i:Int) + 1:=IntWalk.i64_in _ (by omega)
           have wd:IntKind.i64.wrap ((nd:Int) + 1)=(nd:Int) + 1:=IntWalk.i64_in _ (by omega)
           have wm:IntKind.i64.wrap ((nm:Int) + 1)=(nm:Int) + 1:=IntWalk.i64_in _ (by omega)
           have wp:IntKind.i64.wrap (dp - 1)=dp - 1:=IntWalk.i64_in _ (by omega)
           by_cases hlt:i < l.length
           · have hlt':(i:Int) < l.length:=by omega
             have HG:=Lib.hid (show S=(match step false (by8 l i) ⟨i,mant,nd,nm,dp,dt,dg,tr⟩ with | some t=>go l false f t | none=>⟨i,mant,nd,nm,dp,dt,dg,tr⟩) by rw [H.out,go,if_pos hlt];rfl)
             have hb:=by8_lt l i
             have hu:=hU i
             have LWc:=fun w=>lower_any (by8 l i) w hb
             clear H
             have hd95:(((by8 l i):Int) == 95)=false:=by rw [beq_eq_false_iff_ne];omega
             clear hU hu
             by_cases h46:(by8 l i)=46
             · have d46:((by8 l i:Int) == 46)=true:=by rw [beq_iff_eq];omega
               rcases dt with _ | _
               · have HN:=Lib.hid (show S=go l false f ⟨i + 1,mant,nd,nm,nd,true,dg,tr⟩ by rw [HG.out,h46,step_dot])
                 have hI2:=(step_inv hI (show 46 < 256 by decide) (step_dot (hex:=false) (i:=i) (m:=mant) (nd:=nd) (nm:=nm) (dp:=dp) (dg:=dg) (tr:=tr))).1
                 clear HG hI LWc HW h46
                 go_wp2
                 go_roundw
                 case rel=>exact ⟨⟨i + 1,mant,nd,nm,nd,true,dg,tr⟩,f,rfl,rfl,by go_num,rfl,rfl,rfl,rfl,rfl,rfl,(by first | rfl | trivial),by show i + 1≤_;omega,by show _ < i + 1 + f;omega,hI2,HN⟩
                 case measure=>simp [intOf];omega
               · exfalso
                 have hSS:S=⟨i,mant,nd,nm,dp,true,dg,tr⟩:=by rw [HG.out,h46,step_dot2]
                 rcases HW.out with ⟨h,-⟩ | ⟨h1,h2,-⟩
                 · rw [hSS] at h;simp only at h;omega
                 · rw [hSS] at h2;simp only at h2;rw [h46] at h2;revert h2;decide
             have d46:(((by8 l i):Int) == 46)=false:=by rw [beq_eq_false_iff_ne];omega
             rcases hdg:digC (by8 l i) with _ | _
             · have hdd:(decide ((48:Int)≤((by8 l i):Int)) && decide (((by8 l i):Int)≤57))=false:=by
                 rw [← hdg];simp only [digC];congr 1 <;> rw [decide_eq_decide] <;> omega
               have HN:=Lib.hid (show S=⟨i,mant,nd,nm,dp,dt,dg,tr⟩ by rw [HG.out,step_none h46 hdg rfl])
               clear HG hI HW hdg LWc
               rcases o3:decide ((48:Int)≤((by8 l i):Int)) with _ | _ <;> rcases o4:decide (((by8 l i):Int)≤57) with _ | _
               all_goals
                 rw [o3,o4] at hdd
                 first
                   | exact absurd hdd (by decide)
                   | (skip
                      clear hdd
                      go_wp2
                      go_meet
                      rw [HN.out]
                      exact ⟨rfl,rfl,rfl,rfl,rfl,rfl,rfl,rfl,rfl,rfl⟩)
             · have hdd:=hdg
               simp only [digC,Bool.and_eq_true,decide_eq_true_eq] at hdd
               have o3:decide ((48:Int)≤((by8 l i):Int))=true:=by rw [decide_eq_true_eq];omega
               have o4:decide (((by8 l i):Int)≤57)=true:=by rw [decide_eq_true_eq];omega
               have w8:IntKind.u8.wrap (((by8 l i):Int) - 48)=((by8 l i):Int) - 48:=IntWalk.u8_in _ (by omega)
               clear LWc
               by_cases hz:(by8 l i)=48∧nd=0
               · obtain ⟨h48,rfl⟩:=hz
                 have d48:((by8 l i:Int) == 48)=true:=by rw [beq_iff_eq];omega
                 have HN:=Lib.hid (show S=go l false f ⟨i + 1,mant,0,nm,dp - 1,dt,true,tr⟩ by rw [HG.out,h48,step_zero])
                 have hI2:=(step_inv hI (show 48 < 256 by decide) (step_zero (hex:=false) (i:=i) (m:=mant) (nm:=nm) (dp:=dp) (dt:=dt) (dg:=dg) (tr:=tr))).1
                 clear HG hI HW hdg hdd h48 h46 wd
                 go_wp2
                 go_roundw
                 case rel=>exact ⟨⟨i + 1,mant,0,nm,dp - 1,dt,true,tr⟩,f,rfl,rfl,by go_num,rfl,rfl,rfl,rfl,rfl,rfl,(by first | rfl | trivial),by show i + 1≤_;omega,by show _ < i + 1 + f;omega,hI2,HN⟩
                 case measure=>simp [intOf];omega
               · have hz2:(((by8 l i):Int) == 48)=((by8 l i) == 48):=by rw [Bool.eq_iff_iff,beq_iff_eq,beq_iff_eq];omega
                 have hz3:((by8 l i) == 48)=true→((nd:Int) == 0)=false:=fun h=>by rw [beq_iff_eq] at h;rw [beq_eq_false_iff_ne];omega
                 have hz4:((by8 l i) == 48)=true→0 < nd:=fun h=>by rw [beq_iff_eq] at h;omega
                 by_cases hn:nm < 19
                 · have hn':(nm:Int) < 19:=by omega
                   have n64:=hI.next64 hn (d:=(by8 l i) - 48) (by show (by8 l i) - 48 < 10;omega)
                   have HN:=Lib.hid (show S=go l false f ⟨i + 1,mant * 10 + ((by8 l i) - 48),nd + 1,nm + 1,dp,dt,true,tr⟩ by rw [HG.out,step_dig hdg hz hn];rfl)
                   have hI2:=(step_inv hI hb (step_dig hdg hz hn (dp:=dp) (dt:=dt) (dg:=dg) (tr:=tr) (i:=i) (m:=mant) (nd:=nd))).1
                   simp only [bs,if_true,Bool.false_eq_true,if_false] at n64
                   have wm1:IntKind.u64.wrap ((mant:Int) * 10)=(mant:Int) * 10:=IntWalk.u64_in _ (by omega)
                   have wm2:IntKind.u64.wrap ((mant:Int) * 10 + (((by8 l i):Int) - 48))=(mant:Int) * 10 + (((by8 l i):Int) - 48):=IntWalk.u64_in _ (by omega)
                   have hv:(mant:Int) * 10 + (((by8 l i):Int) - 48)=((mant * 10 + ((by8 l i) - 48):Nat):Int):=by omega
                   have HV:=Lib.hid hv
                   clear HG hI HW hdg n64 hv hz
                   rcases hz5:((by8 l i) == 48) with _ | _
                   all_goals
                     rw [hz5] at hz2 hz3 hz4
                     first
                       | (have hz6:=hz3 rfl;have hz7:=hz4 rfl)
                       | skip
                     clear hz3 hz4 hz5
                     go_wp2
                     go_roundw
                     case rel=>exact ⟨⟨i + 1,mant * 10 + ((by8 l i) - 48),nd + 1,nm + 1,dp,dt,true,tr⟩,f,by rw [HV.out],rfl,by go_num,rfl,rfl,rfl,by go_num,by go_num,rfl,(by first | rfl | trivial),by show i + 1≤_;omega,by show _ < i + 1 + f;omega,hI2,HN⟩
                     case measure=>simp [intOf];omega
                 · have hn':¬ (nm:Int) < 19:=by omega
                   have HN:=Lib.hid (show S=go l false f ⟨i + 1,mant,nd + 1,nm,dp,dt,true,tr || !((by8 l i) == 48)⟩ by rw [HG.out,step_over hdg hz hn])
                   have hI2:=(step_inv hI hb (step_over hdg hz hn (dp:=dp) (dt:=dt) (dg:=dg) (tr:=tr) (i:=i) (m:=mant) (nd:=nd))).1
                   clear HG hI HW hdg hz
                   rcases hz5:((by8 l i) == 48) with _ | _
                   all_goals
                     rw [hz5] at hz2 hz3 hz4 HN hI2
                     first
                       | (have hz6:=hz3 rfl;have hz7:=hz4 rfl)
                       | skip
                     clear hz3 hz4 hz5
                     go_wp2
                     go_roundw
                     case rel=>exact ⟨⟨i + 1,mant,nd + 1,nm,dp,dt,true,_⟩,f,rfl,by simp,by go_num,rfl,rfl,rfl,by go_num,rfl,rfl,(by first | rfl | trivial),by show i + 1≤_;omega,by show _ < i + 1 + f;omega,hI2,HN⟩
                     case measure=>simp [intOf];omega
           · have HN:=Lib.hid (show S=⟨i,mant,nd,nm,dp,dt,dg,tr⟩ by rw [H.out,go,if_neg hlt])
             have hlt':¬ (i:Int) < l.length:=by omega
             clear H hI hU HW
             go_wp2
             go_meet
             rw [HN.out]
             exact ⟨rfl,rfl,rfl,rfl,rfl,rfl,rfl,rfl,rfl,rfl⟩
       case rest =>
         obtain ⟨rfl,rfl,rfl,rfl,rfl,rfl,rfl,rfl,rfl,rfl⟩:=hcut
         obtain ⟨r1,r2,r3,r4,r5⟩:=HI.out
         have r2':S.nm≤19:=r2
         clear HI HS r2 r3
         go_upto_if 140 with (fail)
         go_step
         go_step
         go_simp
         go_step
         go_step
         obtain ⟨D,hD⟩:∃ D,(if S.dot then S.dp else (S.nd:Int))=D:=⟨_,rfl⟩
         have hD1:-(S.i:Int)≤D∧D≤S.i:=by rw [← hD];split <;> omega
         have HD:=Lib.hid hD
         have hK:dpOf false S=D:=by unfold dpOf;rw [hD];simp
         have HP2:=Lib.hid (show pow l false F0=if S.mant=0 then 0 else D + exPart l S.i - (S.nm:Int) by rw [HP.out,hK];simp)
         clear hD HP hK
         go_cut [13,17] from 141 to 143 (fun b dp wx=>b=.bool S.dot∧dp=.int .i64 D∧w=wx)
         case first =>
           have hq:Hid (D=if S.dot then S.dp else (S.nd:Int)):=Lib.hid HD.out.symm
           clear HD HW HR HP2
           rcases hdt:S.dot with _ | _
           all_goals
             have hq2:=hq.out
             rw [hdt] at hq2
             have hq3:=Lib.hid hq2
             clear hq hq2
             go_wp2
             go_meet
             exact ⟨by rw [hdt],by rw [hq3.out];rfl,rfl⟩
         case rest =>
           obtain ⟨rfl,rfl,rfl⟩:=hcut
           obtain ⟨hD2,hD3⟩:=hD1
           clear HD r1 r4 r5
           rcases HW.out with ⟨hend,hf⟩ | ⟨hM,hM2,hM3,hM4⟩
           · have hend':¬ (S.i:Int) < l.length:=by omega
             have HP3:=Lib.hid (show pow l false F0=if S.mant=0 then 0 else D - (S.nm:Int) by rw [HP2.out,show exPart l S.i=0 from if_neg (by omega),Int.add_zero])
             have v3:IntKind.i64.wrap (D - (S.nm:Int))=D - (S.nm:Int):=IntWalk.i64_in _ (by omega)
             have he2:=Lib.hid hend
             clear HP2 hend HW
             by_cases hm:S.mant=0
             · have d1:((S.mant:Int) != 0)=false:=by rw [hm];rfl
               have HP4:=Lib.hid (show pow l false F0=0 by rw [HP3.out,if_pos hm])
               clear hm HP3 v3
               go_wp2
               refine bodyPost_ret (v:=.tuple #[.int .u64 (S.mant:Int),.int .i64 0,.bool ng,.bool S.trunc,.bool false,.int .i64 (S.i:Int),.bool true]) (by simp [results,Tryz.results222,go_sem]) rfl ?_
               rw [HR.out,HP4.out,he2.out]
               exact ⟨rfl,rfl⟩
             · have d1:((S.mant:Int) != 0)=true:=by rw [bne_iff_ne];omega
               have HP4:=Lib.hid (show pow l false F0=D - (S.nm:Int) by rw [HP3.out,if_neg hm])
               clear hm HP3
               go_wp2
               refine bodyPost_ret (v:=.tuple #[.int .u64 (S.mant:Int),.int .i64 (D - (S.nm:Int)),.bool ng,.bool S.trunc,.bool false,.int .i64 (S.i:Int),.bool true]) (by simp [results,Tryz.results222,go_sem]) rfl ?_
               rw [HR.out,HP4.out,he2.out]
               exact ⟨rfl,rfl⟩
           · have hM':(S.i:Int) < l.length:=by omega
             have HP3:=Lib.hid (show pow l false F0=if S.mant=0 then 0 else D + exOf l S.i - (S.nm:Int) by rw [HP2.out,show exPart l S.i=exOf l S.i from if_pos hM])
             have hbM:=by8_lt l S.i
             have LWm:=fun w=>lower_any (by8 l S.i) w hbM
             rw [show by8 l S.i ||| 32=101 from hM2] at LWm
             have hbS:=by8_lt l (S.i + 1)
             have w5:IntKind.i64.wrap ((S.i:Int) + 1)=(S.i:Int) + 1:=IntWalk.i64_in _ (by omega)
             have w6:IntKind.i64.wrap ((S.i:Int) + 2)=(S.i:Int) + 2:=IntWalk.i64_in _ (by omega)
             have n1:((S.i:Int) + 1).toNat=S.i + 1:=by omega
             have n2:((S.i:Int) + 2).toNat=S.i + 2:=by omega
             have hA0:S.i + 1≤exAt l S.i:=by unfold exAt;split <;> omega
             have hM5:(S.i:Int) + 1 < l.length:=by omega
             clear HP2 HW hbM hM2
             obtain ⟨E,hE⟩:∃ E,exGo l (l.length + 1) (exAt l S.i) 0=E:=⟨_,rfl⟩
             have hEl:=exGo_lt l (l.length + 1) (exAt l S.i) 0 (by omega) hM4
             rw [hE] at hEl
             have hdA:=hM4 (exAt l S.i) (Nat.le_refl _) hM3
             simp only [digC,Bool.and_eq_true,decide_eq_true_eq] at hdA
             have hdk:Hid (∀ k,exAt l S.i≤k→k < l.length→48≤by8 l k∧by8 l k≤57):=Lib.hid (fun k h1 h2=>by have:=hM4 k h1 h2;simpa only [digC,Bool.and_eq_true,decide_eq_true_eq] using this)
             clear hM4
             by_cases g1:by8 l (S.i + 1)=43
             · have d1:((by8 l (S.i + 1):Int) == 43)=true:=by rw [beq_iff_eq];omega
               have hat:exAt l S.i=S.i + 2:=by unfold exAt;rw [if_pos (.inl g1)]
               have hof:exOf l S.i=(E:Int):=by unfold exOf;rw [if_neg (by omega),hE]
               rw [hat] at hM3 hdA hdk hE hA0
               rw [hof] at HP3
               have HE:=Lib.hid (show E=exGo l (l.length + 1) (S.i + 2) 0 from hE.symm)
               have hA':((S.i:Int) + 2) < l.length:=by omega
               have x1:decide (((by8 l (S.i + 2):Nat):Int) < 48)=false:=by rw [decide_eq_false_iff_not];omega
               have x2:decide ((57:Int) < ((by8 l (S.i + 2):Nat):Int))=false:=by rw [decide_eq_false_iff_not];omega
               clear hof hat hE g1
               go_wp2_with (first | (go_at_call 237;refine (LWm _).mono ?_;rintro e w1 ⟨rfl,rfl⟩))
               go_loopw [7,9,20] (fun i us e wr=>∃ (k x f:Nat),i=.int .i64 (k:Int)∧us=.bool false∧e=.int .i64 (x:Int)∧(S.i + 2)≤k∧k≤l.length∧l.length < k + f∧x < 100010∧wr=w∧Hid (E=exGo l f k x)) (fun i _ _ _=>l.length + 1 - (intOf i).toNat)
               case atStart=>exact ⟨(S.i + 2),0,l.length + 1,by push_cast;rfl,rfl,rfl,by omega,by omega,by omega,by omega,(by first | rfl | trivial),HE⟩
               case round =>
                 obtain ⟨k,x,f,rfl,rfl,rfl,k1,k2,k3,x3,rfl,HX⟩:=hrel
                 obtain ⟨f,rfl⟩:∃ g,f=g + 1:=⟨f - 1,by omega⟩
                 clear HE x1 x2
                 by_cases hk:k < l.length
                 · have hk':(k:Int) < l.length:=by omega
                   have hd:=hdk.out k k1 hk
                   have y1:decide ((48:Int)≤((by8 l k:Nat):Int))=true:=by rw [decide_eq_true_eq];omega
                   have y2:decide (((by8 l k:Nat):Int)≤57)=true:=by rw [decide_eq_true_eq];omega
                   have y3:((by8 l k:Int) == 95)=false:=by rw [beq_eq_false_iff_ne];omega
                   have wk:IntKind.i64.wrap ((k:Int) + 1)=(k:Int) + 1:=IntWalk.i64_in _ (by omega)
                   clear hdA hU
                   by_cases hx4:x < 10000
                   · have hx4':(x:Int) < 10000:=by omega
                     have HN:=Lib.hid (show E=exGo l f (k + 1) (x * 10 + (by8 l k - 48)) by rw [HX.out,exGo,if_pos hk,if_pos hx4])
                     have hv:=Lib.hid (show (x:Int) * 10 + (by8 l k:Int) - 48=((x * 10 + (by8 l k - 48):Nat):Int) by omega)
                     clear HX
                     go_wp2
                     go_roundw
                     case rel=>exact ⟨k + 1,x * 10 + (by8 l k - 48),f,by go_num,rfl,by rw [← hv.out],by omega,by omega,by omega,by omega,(by first | rfl | trivial),HN⟩
                     case measure=>simp [intOf];omega
                   · have hx4':¬ (x:Int) < 10000:=by omega
                     have HN:=Lib.hid (show E=exGo l f (k + 1) x by rw [HX.out,exGo,if_pos hk,if_neg hx4])
                     clear HX
                     go_wp2
                     go_roundw
                     case rel=>exact ⟨k + 1,x,f,by go_num,rfl,rfl,by omega,by omega,by omega,by omega,(by first | rfl | trivial),HN⟩
                     case measure=>simp [intOf];omega
                 · have hk':¬ (k:Int) < l.length:=by omega
                   obtain rfl:k=l.length:=by omega
                   have HN:E=x:=by rw [HX.out,exGo,if_neg hk]
                   subst HN
                   have t1:IntKind.i64.wrap (D + (E:Int))=D + (E:Int):=IntWalk.i64_in _ (by omega)
                   have t2:IntKind.i64.wrap (D + (E:Int) - (S.nm:Int))=D + (E:Int) - (S.nm:Int):=IntWalk.i64_in _ (by omega)
                   clear HX hdk hdA hU
                   by_cases hm:S.mant=0
                   · have d3:((S.mant:Int) != 0)=false:=by rw [hm];rfl
                     have HP4:=Lib.hid (show pow l false F0=0 by rw [HP3.out,if_pos hm])
                     clear hm HP3
                     go_wp2
                     refine bodyPost_ret (v:=.tuple #[.int .u64 (S.mant:Int),.int .i64 0,.bool ng,.bool S.trunc,.bool false,.int .i64 (l.length:Int),.bool true]) (by simp [results,Tryz.results222,go_sem]) rfl ?_
                     rw [HR.out,HP4.out]
                     exact ⟨rfl,rfl⟩
                   · have d3:((S.mant:Int) != 0)=true:=by rw [bne_iff_ne];omega
                     have HP4:=Lib.hid (show pow l false F0=D + (E:Int) - (S.nm:Int) by rw [HP3.out,if_neg hm])
                     clear hm HP3
                     go_wp2
                     refine bodyPost_ret (v:=.tuple #[.int .u64 (S.mant:Int),.int .i64 (D + (E:Int) - (S.nm:Int)),.bool ng,.bool S.trunc,.bool false,.int .i64 (l.length:Int),.bool true]) (by simp [results,Tryz.results222,go_sem]) rfl ?_
                     rw [HR.out,HP4.out]
                     exact ⟨rfl,rfl⟩
             by_cases g2:by8 l (S.i + 1)=45
             · have d1:((by8 l (S.i + 1):Int) == 43)=false:=by rw [beq_eq_false_iff_ne];omega
               have d2:((by8 l (S.i + 1):Int) == 45)=true:=by rw [beq_iff_eq];omega
               have hat:exAt l S.i=S.i + 2:=by unfold exAt;rw [if_pos (.inr g2)]
               have hof:exOf l S.i=-(E:Int):=by unfold exOf;rw [if_pos g2,hE]
               rw [hat] at hM3 hdA hdk hE hA0
               rw [hof] at HP3
               have HE:=Lib.hid (show E=exGo l (l.length + 1) (S.i + 2) 0 from hE.symm)
               have hA':((S.i:Int) + 2) < l.length:=by omega
               have x1:decide (((by8 l (S.i + 2):Nat):Int) < 48)=false:=by rw [decide_eq_false_iff_not];omega
               have x2:decide ((57:Int) < ((by8 l (S.i + 2):Nat):Int))=false:=by rw [decide_eq_false_iff_not];omega
               clear hof hat hE g2
               go_wp2_with (first | (go_at_call 237;refine (LWm _).mono ?_;rintro e w1 ⟨rfl,rfl⟩))
               go_loopw [7,9,20] (fun i us e wr=>∃ (k x f:Nat),i=.int .i64 (k:Int)∧us=.bool false∧e=.int .i64 (x:Int)∧(S.i + 2)≤k∧k≤l.length∧l.length < k + f∧x < 100010∧wr=w∧Hid (E=exGo l f k x)) (fun i _ _ _=>l.length + 1 - (intOf i).toNat)
               case atStart=>exact ⟨(S.i + 2),0,l.length + 1,by push_cast;rfl,rfl,rfl,by omega,by omega,by omega,by omega,(by first | rfl | trivial),HE⟩
               case round =>
                 obtain ⟨k,x,f,rfl,rfl,rfl,k1,k2,k3,x3,rfl,HX⟩:=hrel
                 obtain ⟨f,rfl⟩:∃ g,f=g + 1:=⟨f - 1,by omega⟩
                 clear HE x1 x2
                 by_cases hk:k < l.length
                 · have hk':(k:Int) < l.length:=by omega
                   have hd:=hdk.out k k1 hk
                   have y1:decide ((48:Int)≤((by8 l k:Nat):Int))=true:=by rw [decide_eq_true_eq];omega
                   have y2:decide (((by8 l k:Nat):Int)≤57)=true:=by rw [decide_eq_true_eq];omega
                   have y3:((by8 l k:Int) == 95)=false:=by rw [beq_eq_false_iff_ne];omega
                   have wk:IntKind.i64.wrap ((k:Int) + 1)=(k:Int) + 1:=IntWalk.i64_in _ (by omega)
                   clear hdA hU
                   by_cases hx4:x < 10000
                   · have hx4':(x:Int) < 10000:=by omega
                     have HN:=Lib.hid (show E=exGo l f (k + 1) (x * 10 + (by8 l k - 48)) by rw [HX.out,exGo,if_pos hk,if_pos hx4])
                     have hv:=Lib.hid (show (x:Int) * 10 + (by8 l k:Int) - 48=((x * 10 + (by8 l k - 48):Nat):Int) by omega)
                     clear HX
                     go_wp2
                     go_roundw
                     case rel=>exact ⟨k + 1,x * 10 + (by8 l k - 48),f,by go_num,rfl,by rw [← hv.out],by omega,by omega,by omega,by omega,(by first | rfl | trivial),HN⟩
                     case measure=>simp [intOf];omega
                   · have hx4':¬ (x:Int) < 10000:=by omega
                     have HN:=Lib.hid (show E=exGo l f (k + 1) x by rw [HX.out,exGo,if_pos hk,if_neg hx4])
                     clear HX
                     go_wp2
                     go_roundw
                     case rel=>exact ⟨k + 1,x,f,by go_num,rfl,rfl,by omega,by omega,by omega,by omega,(by first | rfl | trivial),HN⟩
                     case measure=>simp [intOf];omega
                 · have hk':¬ (k:Int) < l.length:=by omega
                   obtain rfl:k=l.length:=by omega
                   have HN:E=x:=by rw [HX.out,exGo,if_neg hk]
                   subst HN
                   have t1:IntKind.i64.wrap (D + -(E:Int))=D + -(E:Int):=IntWalk.i64_in _ (by omega)
                   have t2:IntKind.i64.wrap (D + -(E:Int) - (S.nm:Int))=D + -(E:Int) - (S.nm:Int):=IntWalk.i64_in _ (by omega)
                   clear HX hdk hdA hU
                   by_cases hm:S.mant=0
                   · have d3:((S.mant:Int) != 0)=false:=by rw [hm];rfl
                     have HP4:=Lib.hid (show pow l false F0=0 by rw [HP3.out,if_pos hm])
                     clear hm HP3
                     go_wp2
                     refine bodyPost_ret (v:=.tuple #[.int .u64 (S.mant:Int),.int .i64 0,.bool ng,.bool S.trunc,.bool false,.int .i64 (l.length:Int),.bool true]) (by simp [results,Tryz.results222,go_sem]) rfl ?_
                     rw [HR.out,HP4.out]
                     exact ⟨rfl,rfl⟩
                   · have d3:((S.mant:Int) != 0)=true:=by rw [bne_iff_ne];omega
                     have HP4:=Lib.hid (show pow l false F0=D + -(E:Int) - (S.nm:Int) by rw [HP3.out,if_neg hm])
                     clear hm HP3
                     go_wp2
                     refine bodyPost_ret (v:=.tuple #[.int .u64 (S.mant:Int),.int .i64 (D + -(E:Int) - (S.nm:Int)),.bool ng,.bool S.trunc,.bool false,.int .i64 (l.length:Int),.bool true]) (by simp [results,Tryz.results222,go_sem]) rfl ?_
                     rw [HR.out,HP4.out]
                     exact ⟨rfl,rfl⟩
             have d1:((by8 l (S.i + 1):Int) == 43)=false:=by rw [beq_eq_false_iff_ne];omega
             have d2:((by8 l (S.i + 1):Int) == 45)=false:=by rw [beq_eq_false_iff_ne];omega
             have hat:exAt l S.i=S.i + 1:=by unfold exAt;rw [if_neg (by omega)]
             have hof:exOf l S.i=(E:Int):=by unfold exOf;rw [if_neg (by omega),hE]
             rw [hat] at hM3 hdA hdk hE hA0
             rw [hof] at HP3
             have HE:=Lib.hid (show E=exGo l (l.length + 1) (S.i + 1) 0 from hE.symm)
             have hA':((S.i:Int) + 1) < l.length:=by omega
             have x1:decide (((by8 l (S.i + 1):Nat):Int) < 48)=false:=by rw [decide_eq_false_iff_not];omega
             have x2:decide ((57:Int) < ((by8 l (S.i + 1):Nat):Int))=false:=by rw [decide_eq_false_iff_not];omega
             clear hof hat hE
             go_wp2_with (first | (go_at_call 237;refine (LWm _).mono ?_;rintro e w1 ⟨rfl,rfl⟩))
             go_loopw [7,9,20] (fun i us e wr=>∃ (k x f:Nat),i=.int .i64 (k:Int)∧us=.bool false∧e=.int .i64 (x:Int)∧(S.i + 1)≤k∧k≤l.length∧l.length < k + f∧x < 100010∧wr=w∧Hid (E=exGo l f k x)) (fun i _ _ _=>l.length + 1 - (intOf i).toNat)
             case atStart=>exact ⟨(S.i + 1),0,l.length + 1,by push_cast;rfl,rfl,rfl,by omega,by omega,by omega,by omega,(by first | rfl | trivial),HE⟩
             case round =>
               obtain ⟨k,x,f,rfl,rfl,rfl,k1,k2,k3,x3,rfl,HX⟩:=hrel
               obtain ⟨f,rfl⟩:∃ g,f=g + 1:=⟨f - 1,by omega⟩
               clear HE x1 x2
               by_cases hk:k < l.length
               · have hk':(k:Int) < l.length:=by omega
                 have hd:=hdk.out k k1 hk
                 have y1:decide ((48:Int)≤((by8 l k:Nat):Int))=true:=by rw [decide_eq_true_eq];omega
                 have y2:decide (((by8 l k:Nat):Int)≤57)=true:=by rw [decide_eq_true_eq];omega
                 have y3:((by8 l k:Int) == 95)=false:=by rw [beq_eq_false_iff_ne];omega
                 have wk:IntKind.i64.wrap ((k:Int) + 1)=(k:Int) + 1:=IntWalk.i64_in _ (by omega)
                 clear hdA hU
                 by_cases hx4:x < 10000
                 · have hx4':(x:Int) < 10000:=by omega
                   have HN:=Lib.hid (show E=exGo l f (k + 1) (x * 10 + (by8 l k - 48)) by rw [HX.out,exGo,if_pos hk,if_pos hx4])
                   have hv:=Lib.hid (show (x:Int) * 10 + (by8 l k:Int) - 48=((x * 10 + (by8 l k - 48):Nat):Int) by omega)
                   clear HX
                   go_wp2
                   go_roundw
                   case rel=>exact ⟨k + 1,x * 10 + (by8 l k - 48),f,by go_num,rfl,by rw [← hv.out],by omega,by omega,by omega,by omega,(by first | rfl | trivial),HN⟩
                   case measure=>simp [intOf];omega
                 · have hx4':¬ (x:Int) < 10000:=by omega
                   have HN:=Lib.hid (show E=exGo l f (k + 1) x by rw [HX.out,exGo,if_pos hk,if_neg hx4])
                   clear HX
                   go_wp2
                   go_roundw
                   case rel=>exact ⟨k + 1,x,f,by go_num,rfl,rfl,by omega,by omega,by omega,by omega,(by first | rfl | trivial),HN⟩
                   case measure=>simp [intOf];omega
               · have hk':¬ (k:Int) < l.length:=by omega
                 obtain rfl:k=l.length:=by omega
                 have HN:E=x:=by rw [HX.out,exGo,if_neg hk]
                 subst HN
                 have t1:IntKind.i64.wrap (D + (E:Int))=D + (E:Int):=IntWalk.i64_in _ (by omega)
                 have t2:IntKind.i64.wrap (D + (E:Int) - (S.nm:Int))=D + (E:Int) - (S.nm:Int):=IntWalk.i64_in _ (by omega)
                 clear HX hdk hdA hU
                 by_cases hm:S.mant=0
                 · have d3:((S.mant:Int) != 0)=false:=by rw [hm];rfl
                   have HP4:=Lib.hid (show pow l false F0=0 by rw [HP3.out,if_pos hm])
                   clear hm HP3
                   go_wp2
                   refine bodyPost_ret (v:=.tuple #[.int .u64 (S.mant:Int),.int .i64 0,.bool ng,.bool S.trunc,.bool false,.int .i64 (l.length:Int),.bool true]) (by simp [results,Tryz.results222,go_sem]) rfl ?_
                   rw [HR.out,HP4.out]
                   exact ⟨rfl,rfl⟩
                 · have d3:((S.mant:Int) != 0)=true:=by rw [bne_iff_ne];omega
                   have HP4:=Lib.hid (show pow l false F0=D + (E:Int) - (S.nm:Int) by rw [HP3.out,if_neg hm])
                   clear hm HP3
                   go_wp2
                   refine bodyPost_ret (v:=.tuple #[.int .u64 (S.mant:Int),.int .i64 (D + (E:Int) - (S.nm:Int)),.bool ng,.bool S.trunc,.bool false,.int .i64 (l.length:Int),.bool true]) (by simp [results,Tryz.results222,go_sem]) rfl ?_
                   rw [HR.out,HP4.out]
                   exact ⟨rfl,rfl⟩
     · exact absurd hH (by decide)
end Rf
end Go.Proofs.YtgdolcoiihagfaaGreatDoor
