/- The library's rounding of any number written by sixteens that is whole. The library's rounding of any number written by sixteens that is whole, walked. -/
import Derived.Test.YtgdolcoiihagfaaGreatDoorUsY
namespace Go.Proofs.YtgdolcoiihagfaaGreatDoor
open Go Go.RowKit
set_option linter.all false
set_option maxRecDepth 100000
set_option maxHeartbeats 100000000
namespace Hx
open Rf (up dn F64)
def rn (k:Nat) (e:Int):Nat × Int :=
 if (k &&& 3) ||| (k / 4 &&& 1)=3 then (if k / 4 + 1=9007199254740992 then (4503599627370496,e + 2 + 1) else (k / 4 + 1,e + 2)) else (k / 4,e + 2)
def dnm (q:Nat) (e:Int):Int:=if q / 4503599627370496=0 then -1023 else e
def odd1 (k:Nat) (tr:Bool):Nat:=if tr then k ||| 1 else k
def fin (q:Nat) (e:Int):Nat × Bool:=if 1023 < e then (9218868437227405312,true) else ((q &&& 4503599627370495) ||| (e + 1023).toNat * 4503599627370496,false)
def hexF (m:Nat) (p:Int) (tr:Bool):Nat × Bool :=
 let D:=dn 64 (odd1 (up 64 m (p + 52)).1 tr) (up 64 m (p + 52)).2
 let R:=rn D.1 D.2
 fin R.1 (dnm R.1 R.2)
theorem up_lt:∀ (f m:Nat) (e:Int),m < 18446744073709551616→(up f m e).1 < 18446744073709551616
 | 0,m,e,h=>h
 | f + 1,m,e,h=>by
   rw [up];split
   · exact up_lt f (m * 2) (e - 1) (by omega)
   · exact h
theorem half_or (k:Nat):k / 2 ||| k % 2≤k / 2 + 1:=by
 have h1:k % 2=0∨k % 2=1:=by omega
 rcases h1 with h | h <;> rw [h]
 · rw [Nat.or_zero];omega
 · have:k / 2 ||| 1=k / 2 + 1∨k / 2 ||| 1=k / 2:=by
     rcases (show k / 2 % 2=0∨k / 2 % 2=1 by omega) with g | g
     · left
       have e:k / 2=2 * (k / 4):=by omega
       rw [e,show 2 * (k / 4)=(k / 4) <<< 1 by rw [Nat.shiftLeft_eq];omega,← Nat.shiftLeft_add_eq_or_of_lt (by decide)]
     · right
       have e:k / 2=2 * (k / 4) + 1:=by omega
       rw [e,show 2 * (k / 4) + 1=(k / 4) <<< 1 + 1 by rw [Nat.shiftLeft_eq];omega,Nat.shiftLeft_add_eq_or_of_lt (by decide),Nat.or_assoc]
       rfl
   omega
theorem dn_bd:∀ (f k:Nat) (e:Int),e≤(dn f k e).2∧(dn f k e).2≤e + f
 | 0,k,e=>by simp [dn]
 | f + 1,k,e=>by
   rw [dn];split
   · have:=dn_bd f (k / 2 ||| k % 2) (e + 1);omega
   · simp only;omega
theorem half_lt (k f:Nat) (h:k < 36028797018963968 * 2 ^ (f + 1)):k / 2 ||| k % 2 < 36028797018963968 * 2 ^ f:=by
 have:=half_or k
 rw [Nat.pow_succ] at h
 rcases Nat.lt_or_ge (k / 2 + 1) (36028797018963968 * 2 ^ f) with g | g
 · omega
 · -- k is the last one below: then its half is odd
   have hev:(36028797018963968 * 2 ^ f) % 2=0:=by omega
   have hkk:k / 2 % 2=1:=by omega
   have:k / 2 ||| k % 2≤k / 2:=by
     rcases (show k % 2=0∨k % 2=1 by omega) with h | h <;> rw [h]
     · rw [Nat.or_zero];omega
     · have e:k / 2=2 * (k / 4) + 1:=by omega
       rw [e,show 2 * (k / 4) + 1=(k / 4) <<< 1 + 1 by rw [Nat.shiftLeft_eq];omega,Nat.shiftLeft_add_eq_or_of_lt (by decide),Nat.or_assoc]
       exact Nat.le_refl _
   omega
theorem dn_lt:∀ (f k:Nat) (e:Int),k < 36028797018963968 * 2 ^ f→(dn f k e).1 < 36028797018963968
 | 0,k,e,h=>by rw [Nat.pow_zero] at h;rw [dn];simp only;omega
 | f + 1,k,e,h=>by
   rw [dn];split
   · exact dn_lt f _ (e + 1) (half_lt k f h)
   · simp only;omega
end Hx
namespace Hx
open Rf (up dn F64)
theorem hexf_any (s:List UInt8) (m:Nat) (p:Int) (tr:Bool) (w:World) (hF:F64 w) (hm:m < 18446744073709551616) (hp0:0≤p) (hp:p≤10000000) :
   Calls Tryz.prog 223 #[.string ⟨s.toArray⟩,.pointer (some ⟨13,0,none⟩),.int .u64 (m:Int),.int .i64 p,.bool false,.bool tr] w fun e w'=>e=.returned (.tuple #[.float .f64 (hexF m p tr).1,Us.errV (hexF m p tr).2])∧Pur w w':=by
 have c0:=fun x:PW w=>(hF.pur x.pur).c0
 have c1:=fun x:PW w=>(hF.pur x.pur).c1
 have c2:=fun x:PW w=>(hF.pur x.pur).c2
 have h6:=@run_callFunc_extern Tryz.prog 231 _ Go.Extern.MathFloatBits.float64frombits Tryz.func231 (by kernel_rfl) (by kernel_rfl) (by kernel_rfl) (by kernel_rfl)
 have fb:∀ (n:Int) (w:World),(Go.Extern.MathFloatBits.float64frombits #[.int .u64 n]).run Tryz.prog w=.ok (.float .f64 n.toNat) w:=fun n w=>rfl
 obtain ⟨jf,hfi,hfz⟩:=Option.map_eq_some_iff.1 Rf.fi_info
 obtain ⟨U,hU⟩:∃ U,up 64 m (p + 52)=U:=⟨_,rfl⟩
 have HU:=Lib.hid (show U=up 64 m (p + 52) from hU.symm)
 have hUe:=Rf.up_bd 64 m (p + 52)
 have hUl:=up_lt 64 m (p + 52) hm
 have HR:=Lib.hid (show hexF m p tr=(let D:=dn 64 (odd1 U.1 tr) U.2
   let R:=rn D.1 D.2
   fin R.1 (dnm R.1 R.2)) by unfold hexF;rw [hU])
 generalize hexF m p tr=X at *
 rw [hU] at hUe hUl
 clear hU
 go_enter Tryz.func223,Tryz.ntmps223
 go_wp2
 refine wp_region_pur (by kernel_rfl) (by kernel_rfl) ?_
 repeat (go_big_quiet_step (fail))
 refine wpQuiet_nil ?_
 intro w1 h1
 have z0:=(hF.pur h1).c0
 have z1:=(hF.pur h1).c1
 have z2:=(hF.pur h1).c2
 clear c0 c1 c2
 have wp52:IntKind.i64.wrap (p + 52)=p + 52:=IntWalk.i64_in _ (by omega)
 go_upto_block 0 with (fail)
 go_cut [2,3] from 42 to 57 (fun a b wx=>a=.int .u64 (U.1:Int)∧b=.int .i64 U.2∧w1=wx)
 case first =>
   clear z1 z2 HR hUe hUl
   have HM:=Lib.hid (show m=0∨18014398509481984≤m * 2 ^ 64 by omega)
   go_wp2_with fail
   go_loopw [2,3] (fun a b wr=>∃ (k f:Nat) (e:Int),a=.int .u64 (k:Int)∧b=.int .i64 e∧f≤64∧p + f - 12≤e∧e≤p + 52∧Hid (U=up f k e)∧Hid (k=0∨18014398509481984≤k * 2 ^ f)∧wr=w1) (fun a _ _=>Rf.bigN - (intOf a).toNat)
   case atStart=>exact ⟨m,64,p + 52,rfl,rfl,by omega,by omega,by omega,HU,HM,(by first | rfl | trivial)⟩
   case round =>
     obtain ⟨k,f,e,rfl,rfl,f1,e1,e2,H,HK,rfl⟩:=hrel
     clear HU HM
     by_cases hk:k=0
     · have d1:((k:Int) != 0)=false:=by rw [hk];rfl
       have HN:=Lib.hid (show U=(k,e) by
         rw [H.out]
         cases f with
         | zero=>rfl
         | succ f=>rw [up,if_neg (fun h=>h.1 hk)])
       clear hk H HK
       go_wp2
       go_meet
       rw [HN.out]
       exact ⟨rfl,rfl,rfl⟩
     · have d1:((k:Int) != 0)=true:=by rw [bne_iff_ne];omega
       by_cases hq:k / 18014398509481984=0
       · obtain ⟨f,rfl⟩:∃ g,f=g + 1:=by
           cases f with
           | zero=>rcases HK.out with h | h <;> omega
           | succ f=>exact ⟨f,rfl⟩
         have d2:((k:Int) / 18014398509481984 == 0)=true:=by rw [beq_iff_eq];omega
         have w2:IntKind.u64.wrap ((k:Int) * 2)=(k:Int) * 2:=IntWalk.u64_in _ (by omega)
         have w3:IntKind.i64.wrap (e - 1)=e - 1:=IntWalk.i64_in _ (by omega)
         have HN:=Lib.hid (show U=up f (k * 2) (e - 1) by rw [H.out,up,if_pos ⟨hk,hq⟩])
         have HK2:=Lib.hid (show k * 2=0∨18014398509481984≤k * 2 * 2 ^ f by
           rcases HK.out with h | h
           · exact absurd h hk
           · right;rw [Nat.pow_succ] at h;rw [Nat.mul_assoc,Nat.mul_comm 2];exact h)
         have hd:=Lib.hid (show Rf.bigN - k * 2 < Rf.bigN - k by unfold Rf.bigN;omega)
         clear H HK hk hq
         go_wp2
         go_roundw
         case rel=>exact ⟨k * 2,f,e - 1,by push_cast;rfl,rfl,by omega,by omega,by omega,HN,HK2,(by first | rfl | trivial)⟩
         case measure=>exact hd.out
       · have d2:((k:Int) / 18014398509481984 == 0)=false:=by rw [beq_eq_false_iff_ne];omega
         have HN:=Lib.hid (show U=(k,e) by
           rw [H.out]
           cases f with
           | zero=>rfl
           | succ f=>rw [up,if_neg (fun h=>hq h.2)])
         clear hk H HK hq
         go_wp2
         go_meet
         rw [HN.out]
         exact ⟨rfl,rfl,rfl⟩
 case rest =>
   obtain ⟨rfl,rfl,rfl⟩:=hcut
   clear HU
   obtain ⟨k0,e0⟩:=U
   obtain ⟨hE1,hE2⟩:=hUe
   simp only at hE1 hE2 hUl HR
   have k1l:odd1 k0 tr < 18446744073709551616:=by
     unfold odd1;split
     · exact Nat.or_lt_two_pow (n:=64) hUl (by decide)
     · exact hUl
   have hk1:odd1 k0 tr=if tr then k0 ||| 1 else k0:=rfl
   obtain ⟨k1,hkk⟩:∃ k1,odd1 k0 tr=k1:=⟨_,rfl⟩
   rw [hkk] at HR k1l hk1
   have HK1:=Lib.hid hk1
   have wj:∀ x:Int,x=x:=fun x=>rfl
   clear wj hkk hk1
   have bo:=u64_or_nat k0 1 hUl (by decide)
   rw [show ((1:Nat):Int)=1 from rfl] at bo
   go_upto_region 7 with (fail)
   go_upto_if 58 with (fail)
   go_cut [2] from 59 to 60 (fun a wx=>a=.int .u64 (k1:Int)∧w1=wx)
   case first =>
     clear HR
     cases tr with
     | true =>
       have e:k0 ||| 1=k1:=by rw [HK1.out];rfl
       rw [e] at bo
       clear HK1 e
       go_wp2
       go_meet
       exact ⟨rfl,rfl⟩
     | false =>
       have e:k1=k0:=by rw [HK1.out];rfl
       have HE:=Lib.hid e
       clear HK1 e bo
       go_wp2
       go_meet
       exact ⟨by rw [HE.out],rfl⟩
   case rest =>
     obtain ⟨rfl,rfl⟩:=hcut
     clear HK1 bo
     obtain ⟨D,hD⟩:∃ D,dn 64 k1 e0=D:=⟨_,rfl⟩
     have hDe:=dn_bd 64 k1 e0
     have hDl:=dn_lt 64 k1 e0 (Nat.lt_of_lt_of_le k1l (by decide))
     rw [hD] at hDe hDl HR
     have HD:=Lib.hid (show D=dn 64 k1 e0 from hD.symm)
     clear hD
     go_upto_block 2 with (fail)
     go_cut [2,3] from 61 to 76 (fun a b wx=>a=.int .u64 (D.1:Int)∧b=.int .i64 D.2∧w1=wx)
     case first =>
       clear HR hDe hDl
       have HM:=Lib.hid (show k1 < 36028797018963968 * 2 ^ 64 by exact Nat.lt_of_lt_of_le k1l (by decide))
       go_wp2_with fail
       go_loopw [2,3] (fun a b wr=>∃ (k f:Nat) (e:Int),a=.int .u64 (k:Int)∧b=.int .i64 e∧f≤64∧k < 18446744073709551616∧e + f=e0 + 64∧Hid (D=dn f k e)∧Hid (k < 36028797018963968 * 2 ^ f)∧wr=w1) (fun a _ _=>(intOf a).toNat)
       case atStart=>exact ⟨k1,64,e0,rfl,rfl,by omega,k1l,rfl,HD,HM,(by first | rfl | trivial)⟩
       case round =>
         obtain ⟨k,f,e,rfl,rfl,f1,kl,e1,H,HK,rfl⟩:=hrel
         clear HD HM
         by_cases hq:k / 36028797018963968≠0
         · have d2:((k:Int) / 36028797018963968 != 0)=true:=by rw [bne_iff_ne];omega
           obtain ⟨f,rfl⟩:∃ g,f=g + 1:=by
             cases f with
             | zero=>have:=HK.out;rw [Nat.pow_zero] at this;omega
             | succ f=>exact ⟨f,rfl⟩
           have HN:=Lib.hid (show D=dn f (k / 2 ||| k % 2) (e + 1) by rw [H.out,dn,if_pos hq])
           have HK2:=Lib.hid (half_lt k f HK.out)
           have b1:bits .and .u64 (k:Int) 1=((k % 2:Nat):Int):=by
             have:=u64_and_nat k 1 kl (by decide)
             rw [show ((1:Nat):Int)=1 from rfl] at this
             rw [this,show k &&& 1=k % 2 from Nat.and_two_pow_sub_one_eq_mod k 1]
           have ho:=half_or k
           obtain ⟨hf,hhf⟩:∃ hf,k / 2=hf:=⟨_,rfl⟩
           obtain ⟨md,hmd⟩:∃ md,k % 2=md:=⟨_,rfl⟩
           have e2:(k:Int) / 2=(hf:Int):=by omega
           rw [hhf,hmd] at HN HK2 ho
           rw [hmd] at b1
           have b2:=u64_or_nat hf md (by omega) (by omega)
           obtain ⟨z,hz⟩:∃ z,hf ||| md=z:=⟨_,rfl⟩
           rw [hz] at HN HK2 ho b2
           have zk:=Lib.hid (show z < k by omega)
           have zl:z < 18446744073709551616:=by omega
           have w3:IntKind.i64.wrap (e + 1)=e + 1:=IntWalk.i64_in _ (by omega)
           clear H HK hq hhf hmd hz ho
           go_wp2
           go_roundw
           case rel=>exact ⟨z,f,e + 1,rfl,rfl,by omega,zl,by omega,HN,HK2,(by first | rfl | trivial)⟩
           case measure=>simp only [intOf,Int.toNat_natCast];exact zk.out
         · have d2:((k:Int) / 36028797018963968 != 0)=false:=by rw [bne_eq_false_iff_eq];omega
           have HN:=Lib.hid (show D=(k,e) by
             rw [H.out]
             cases f with
             | zero=>rfl
             | succ f=>rw [dn,if_neg hq])
           clear H HK hq
           go_wp2
           go_meet
           rw [HN.out]
           exact ⟨rfl,rfl,rfl⟩
     case rest =>
       obtain ⟨rfl,rfl,rfl⟩:=hcut
       clear HD
       obtain ⟨k,e⟩:=D
       simp only at hDe hDl HR
       have d2:decide (e < -1024)=false:=by rw [decide_eq_false_iff_not];omega
       have el:-100≤e∧e≤20000000:=by omega
       obtain ⟨Q,hQ⟩:∃ Q,k / 4=Q:=⟨_,rfl⟩
       have hq4:(k:Int) / 4=(Q:Int):=by omega
       have hQ2:Q < 9007199254740992:=by omega
       have b1:=u64_and_nat k 3 (by omega) (by decide)
       rw [show ((3:Nat):Int)=3 from rfl] at b1
       have b2:=u64_and_nat Q 1 (by omega) (by decide)
       rw [show ((1:Nat):Int)=1 from rfl] at b2
       obtain ⟨r3,hr3⟩:∃ r3,k &&& 3=r3:=⟨_,rfl⟩
       obtain ⟨q1,hq1⟩:∃ q1,Q &&& 1=q1:=⟨_,rfl⟩
       have r3l:r3≤3:=by rw [← hr3];exact Nat.and_le_right
       have q1l:q1≤1:=by rw [← hq1];exact Nat.and_le_right
       rw [hr3] at b1
       rw [hq1] at b2
       have b3:=u64_or_nat r3 q1 (by omega) (by omega)
       obtain ⟨rd,hrd⟩:∃ rd,r3 ||| q1=rd:=⟨_,rfl⟩
       rw [hrd] at b3
       obtain ⟨R,hR⟩:∃ R,rn k e=R:=⟨_,rfl⟩
       have HRn:=Lib.hid (show R=if rd=3 then (if Q + 1=9007199254740992 then (4503599627370496,e + 2 + 1) else (Q + 1,e + 2)) else (Q,e + 2) by
         rw [← hR];unfold rn;rw [hQ,hr3,hq1,hrd])
       rw [hR] at HR
       have hRb:R.1≤9007199254740992∧-98≤R.2∧R.2≤20000003:=by
         rw [HRn.out];split
         · split <;> simp only <;> omega
         · simp only;omega
       have w4:IntKind.i64.wrap (e + 2)=e + 2:=IntWalk.i64_in _ (by omega)
       clear hQ hr3 hq1 hrd hR hUl hE1 hE2 hDe hDl k1l hm
       go_upto_block 4 with (fail)
       go_cut [2,3] from 77 to 91 (fun a b wx=>a=.int .u64 (k:Int)∧b=.int .i64 e∧w1=wx)
       case first =>
         clear HR HRn
         go_wp2_with fail
         go_loopw [2,3] (fun a b wr=>a=.int .u64 (k:Int)∧b=.int .i64 e∧Hid (w1=wr)) (fun _ _ _=>0)
         case atStart=>exact ⟨rfl,rfl,Lib.hid rfl⟩
         case round =>
           obtain ⟨rfl,rfl,hw⟩:=hrel
           by_cases k1':1 < k
           · have d1:decide ((1:Int) < (k:Int))=true:=by rw [decide_eq_true_eq];omega
             go_wp2
             go_meet
             exact ⟨rfl,rfl,hw.out⟩
           · have d1:decide ((1:Int) < (k:Int))=false:=by rw [decide_eq_false_iff_not];omega
             go_wp2
             go_meet
             exact ⟨rfl,rfl,hw.out⟩
       case rest =>
         obtain ⟨rfl,rfl,rfl⟩:=hcut
         clear d2
         go_upto_region 19 with (fail)
         go_upto_if 103 with (fail)
         go_cut [2,3] from 104 to 117 (fun a b wx=>a=.int .u64 (R.1:Int)∧b=.int .i64 R.2∧w1=wx)
         case first =>
           clear HR
           by_cases g3:rd=3
           · have t1:((rd:Int) == 3)=true:=by rw [beq_iff_eq];omega
             have w5:IntKind.u64.wrap ((Q:Int) + 1)=(Q:Int) + 1:=IntWalk.u64_in _ (by omega)
             have w6:IntKind.i64.wrap (e + 2 + 1)=e + 2 + 1:=IntWalk.i64_in _ (by omega)
             by_cases g4:Q + 1=9007199254740992
             · have t2:((Q:Int) + 1 == 9007199254740992)=true:=by rw [beq_iff_eq];omega
               have HN:=Lib.hid (show R=(4503599627370496,e + 2 + 1) by rw [HRn.out,if_pos g3,if_pos g4])
               have t3:((Q:Int) + 1) / 2=4503599627370496:=by omega
               subst g3
               clear HRn g4
               go_wp2
               go_meet
               rw [HN.out]
               exact ⟨rfl,rfl,rfl⟩
             · have t2:((Q:Int) + 1 == 9007199254740992)=false:=by rw [beq_eq_false_iff_ne];omega
               have HN:=Lib.hid (show R=(Q + 1,e + 2) by rw [HRn.out,if_pos g3,if_neg g4])
               subst g3
               clear HRn g4
               go_wp2
               go_meet
               rw [HN.out]
               exact ⟨rfl,rfl,rfl⟩
           · have t1:((rd:Int) == 3)=false:=by rw [beq_eq_false_iff_ne];omega
             have HN:=Lib.hid (show R=(Q,e + 2) by rw [HRn.out,if_neg g3])
             clear HRn g3
             go_wp2
             go_meet
             rw [HN.out]
             exact ⟨rfl,rfl,rfl⟩
         case rest =>
           obtain ⟨rfl,rfl,rfl⟩:=hcut
           clear HRn b1 b2 b3 w4 hq4
           obtain ⟨q,hq0⟩:∃ q,R.1=q:=⟨_,rfl⟩
           obtain ⟨ee,he0⟩:∃ ee,R.2=ee:=⟨_,rfl⟩
           rw [hq0,he0] at HR hRb ⊢
           clear hq0 he0
           obtain ⟨E,hE⟩:∃ E,dnm q ee=E:=⟨_,rfl⟩
           rw [hE] at HR
           have HE:=Lib.hid (show E=if q / 4503599627370496=0 then -1023 else ee from hE.symm)
           have hEb:-1023≤E∧E≤20000003:=by rw [HE.out];split <;> omega
           clear hE
           obtain ⟨qz,hqz⟩:∃ qz,((q:Int) / 4503599627370496 == 0)=qz:=⟨_,rfl⟩
           go_upto_region 24 with (fail)
           go_upto_if 124 with (fail)
           go_cut [3] from 125 to 128 (fun b wx=>b=.int .i64 E∧w1=wx)
           case first =>
             clear HR
             cases qz with
             | true =>
               have e1:E=-1023:=by rw [HE.out,if_pos (by rw [beq_iff_eq] at hqz;omega)]
               have H1:=Lib.hid e1
               clear HE e1 hqz hEb
               go_wp2
               go_meet
               exact ⟨by rw [H1.out],rfl⟩
             | false =>
               have e1:E=ee:=by rw [HE.out,if_neg (by rw [beq_eq_false_iff_ne] at hqz;omega)]
               have H1:=Lib.hid e1
               clear HE e1 hqz hEb
               go_wp2
               go_meet
               exact ⟨by rw [H1.out],rfl⟩
           case rest =>
             obtain ⟨rfl,rfl⟩:=hcut
             clear HE hqz
             by_cases big:1023 < E
             · have t1:decide ((1023:Int) < E)=true:=by rw [decide_eq_true_eq];exact big
               have HX:=Lib.hid (show X=(9218868437227405312,true) by rw [HR.out];unfold fin;rw [if_pos big])
               have a1:bits .and .u64 4503599627370496 4503599627370495=0:=by decide
               have a2:bits .and .i64 2047 2047=2047:=by decide
               have a3:bits .or .u64 0 9218868437227405312=9218868437227405312:=by decide
               clear HR big hEb hRb
               go_upto_region 32 with (fail)
               have y0':=fun x:PW w1=>(hF.pur (h1.trans x.pur)).c0
               have y1':=fun x:PW w1=>(hF.pur (h1.trans x.pur)).c1
               have y2':=fun x:PW w1=>(hF.pur (h1.trans x.pur)).c2
               clear z0 z1 z2
               go_wp2
               refine wp_region_pur (by kernel_rfl) (by kernel_rfl) ?_
               repeat (go_big_quiet_step (fail))
               refine wpQuiet_nil ?_
               intro w3 h3
               have hF3:=hF.pur (h1.trans h3)
               obtain ⟨ca,ta,hca⟩:=hF3.g64
               obtain ⟨cb,tb,hcb⟩:=hF3.g32
               have PE:(binOp BinOp.eql 248 (.pointer (some ⟨13,0,none⟩)) (.pointer (some ⟨12,0,none⟩))).run Tryz.prog w3=.ok (.bool false) w3 :=
                 run_eql_ptr_other w3 Tryz.underlying248 hfi (by rw [hfz];decide) (by decide) hca hcb
               clear hca hcb
               go_wp2
               go_ret2
               rw [HX.out]
               exact ⟨rfl,h1.trans h3⟩
             · have t1:decide ((1023:Int) < E)=false:=by rw [decide_eq_false_iff_not];exact big
               obtain ⟨V,hV⟩:=Int.eq_ofNat_of_zero_le (show 0≤E + 1023 by omega)
               have hX1:X=((q &&& 4503599627370495) ||| V * 4503599627370496,false):=by
                 rw [HR.out];unfold fin;rw [if_neg big,hV,Int.toNat_natCast]
               have ql:q < 18446744073709551616:=by omega
               have a1:=u64_and_nat q 4503599627370495 ql (by decide)
               rw [show ((4503599627370495:Nat):Int)=4503599627370495 from rfl] at a1
               obtain ⟨L,hL⟩:∃ L,q &&& 4503599627370495=L:=⟨_,rfl⟩
               have Ll:L < 18446744073709551616:=by rw [← hL];exact Nat.lt_of_le_of_lt Nat.and_le_left ql
               rw [hL] at a1 hX1
               have HX:=Lib.hid hX1
               have V1:V≤2046:=by omega
               have wV:IntKind.i64.wrap (E - -1023)=(V:Int):=by rw [show E - -1023=(V:Int) by omega];exact IntWalk.i64_in _ (by omega)
               have wV':IntKind.i64.wrap (E + 1023)=(V:Int):=by rw [show E + 1023=(V:Int) by omega];exact IntWalk.i64_in _ (by omega)
               have a2:bits .and .i64 (V:Int) 2047=(V:Int):=by
                 have:=bits_mask .i64 63 (by decide) (fun n h0 h1=>IntWalk.i64_in _ (by omega)) 11 (by decide) (V:Int) (by omega) (by omega)
                 rw [show ((2:Int) ^ 11 - 1)=2047 from rfl] at this
                 rw [this];omega
               have a4:IntKind.u64.wrap (V:Int)=(V:Int):=IntWalk.u64_in _ (by omega)
               have a5:IntKind.u64.wrap ((V:Int) * 4503599627370496)=(V:Int) * 4503599627370496:=IntWalk.u64_in _ (by omega)
               have a3:bits .or .u64 (L:Int) ((V:Int) * 4503599627370496)=((L ||| V * 4503599627370496:Nat):Int):=by
                 have:=u64_or_nat L (V * 4503599627370496) Ll (by omega)
                 rw [← this,show ((V * 4503599627370496:Nat):Int)=(V:Int) * 4503599627370496 by omega]
               clear HR big hEb hRb hV hX1 hL ql Ll V1
               go_upto_region 32 with (fail)
               have y0':=fun x:PW w1=>(hF.pur (h1.trans x.pur)).c0
               have y1':=fun x:PW w1=>(hF.pur (h1.trans x.pur)).c1
               have y2':=fun x:PW w1=>(hF.pur (h1.trans x.pur)).c2
               clear z0 z1 z2
               go_wp2
               refine wp_region_pur (by kernel_rfl) (by kernel_rfl) ?_
               repeat (go_big_quiet_step (fail))
               refine wpQuiet_nil ?_
               intro w3 h3
               have hF3:=hF.pur (h1.trans h3)
               obtain ⟨ca,ta,hca⟩:=hF3.g64
               obtain ⟨cb,tb,hcb⟩:=hF3.g32
               have PE:(binOp BinOp.eql 248 (.pointer (some ⟨13,0,none⟩)) (.pointer (some ⟨12,0,none⟩))).run Tryz.prog w3=.ok (.bool false) w3 :=
                 run_eql_ptr_other w3 Tryz.underlying248 hfi (by rw [hfz];decide) (by decide) hca hcb
               clear hca hcb
               go_wp2
               go_ret2
               rw [HX.out]
               exact ⟨rfl,h1.trans h3⟩
end Hx
end Go.Proofs.YtgdolcoiihagfaaGreatDoor
