/- strconv's shortest digits of a float, in plain words. strconv's shortest digits: the small parts. strconv's shortest digits: shortFloat. strconv's digits laid in a buffer, without the noughts at their end. strconv's number in the form d.ddde+dd: what the growing text is. strconv's number in the form d.ddde+dd: fmtEFG. strconv's number in the form d.ddde+dd: a float's parts, in plain words. -/
import Derived.Test.YtgdolcoiihagfaaGreatDoorUsA
import Derived.Deep.DeepCutAuto
import Derived.Deep.AppendLies
namespace Go.Proofs.YtgdolcoiihagfaaGreatDoor
open Go Go.RowKit
set_option linter.all false
set_option maxRecDepth 100000
set_option maxHeartbeats 100000000
namespace Ft
open Us
/-- the decimal logarithm of 2^x, cut -/
def l10 (x:Int):Int:=x * 78913 / 262144
def skw (x:Int):Int:=(x * 631305 - 261663) / 2097152
/-- how many bits below the number's own -/
def zO (E:Int):Nat:=if -1085≤E then 11 else (-1074 - E).toNat
def edge (m:Nat) (E:Int):Bool:=decide (m=9223372036854775808) && decide (-1085 < E)
def pO (m:Nat) (E:Int):Int:=if edge m E=true then -skw (E + 11) else -l10 (E + (zO E:Int))
def mnO (m:Nat) (E:Int):Nat:=if edge m E=true then m - 512 else m - 2 ^ (zO E - 1)
def mxO (m:Nat) (E:Int):Nat:=if edge m E=true then m + 1024 else m + 2 ^ (zO E - 1)
def odO (m:Nat) (E:Int):Nat:=m / 2 ^ zO E % 2
def kO (m:Nat) (E:Int):Nat:=(pO m E + 348).toNat
def sO (m:Nat) (E:Int):Nat:=(-(E + lg (pO m E) + 3)).toNat
def uO (Hi Lo:Nat→Nat) (m:Nat) (E:Int) (x:Nat):Nat:=usc x (Hi (kO m E)) (Lo (kO m E)) (sO m E)
def dmn (Hi Lo:Nat→Nat) (m:Nat) (E:Int):Nat:=(uO Hi Lo m E (mnO m E) + odO m E + 3) / 4
def dmx (Hi Lo:Nat→Nat) (m:Nat) (E:Int):Nat:=(uO Hi Lo m E (mxO m E) - odO m E) / 4
/-- the shortest digits as a number, and the power of ten -/
def sh (Hi Lo:Nat→Nat) (m:Nat) (E:Int):Nat × Int :=
 if dmn Hi Lo m E≤dmx Hi Lo m E / 10 * 10 then (dmx Hi Lo m E / 10,-(pO m E - 1))
 else if dmn Hi Lo m E < dmx Hi Lo m E then (rnd (uO Hi Lo m E m),-pO m E) else (dmn Hi Lo m E,-pO m E)
/-- what a float's mantissa, its high bit set, and its exponent are -/
structure V (m:Nat) (E:Int):Prop where
 m0:9223372036854775808≤m
 m1:m < 18446744073709551616
 e0:-1137≤E
 e1:E≤960
 z:m % 2 ^ zO E=0
theorem zO_le {E:Int} (h:-1137≤E):11≤zO E∧zO E≤63:=by unfold zO;split <;> omega
theorem V.p {m:Nat} {E:Int} (h:V m E):-296≤pO m E∧pO m E≤328∧4≤-(E + lg (pO m E) + 3)∧-(E + lg (pO m E) + 3)≤58:=by
 have h0:=h.e0
 have h1:=h.e1
 unfold pO lg
 split
 · rename_i g
   have:-1085 < E:=by
     unfold edge at g
     simp only [Bool.and_eq_true,decide_eq_true_eq] at g
     exact g.2
   unfold skw
   omega
 · unfold l10 zO
   split <;> omega
theorem V.ends {m:Nat} {E:Int} (h:V m E):4611686018427387904≤mnO m E∧mxO m E < 18446744073709551616∧mnO m E < 18446744073709551616∧4611686018427387904≤mxO m E:=by
 have m0:=h.m0
 have m1:=h.m1
 have hz:=zO_le h.e0
 have hm:=h.z
 unfold mnO mxO
 by_cases g:edge m E=true
 · rw [if_pos g,if_pos g]
   have:m=9223372036854775808:=by
     unfold edge at g
     simp only [Bool.and_eq_true,decide_eq_true_eq] at g
     exact g.1
   omega
 · rw [if_neg g,if_neg g]
   obtain ⟨z,hzz⟩:∃ z,zO E=z + 1:=⟨zO E - 1,by omega⟩
   rw [hzz] at hm hz ⊢
   rw [Nat.add_sub_cancel]
   have hp:2 ^ (z + 1)=2 * 2 ^ z:=by rw [Nat.pow_succ];omega
   rw [hp] at hm
   have hle:2 ^ z≤2 ^ 62:=Nat.pow_le_pow_right (by decide) (by omega)
   have hdv:2 * 2 ^ z ∣ 18446744073709551616:=by
     rw [← hp]
     exact Nat.pow_dvd_pow 2 (show z + 1≤64 by omega)
   have hpos:0 < 2 ^ z:=Nat.pow_pos (by decide)
   generalize 2 ^ z=y at *
   obtain ⟨a,ha⟩:=Nat.dvd_of_mod_eq_zero hm
   obtain ⟨b,hb⟩:=hdv
   have hab:a < b:=by
     apply Nat.lt_of_mul_lt_mul_left (a:=2 * y)
     omega
   have:2 * y * (a + 1)≤2 * y * b:=Nat.mul_le_mul_left _ hab
   rw [Nat.mul_add] at this
   omega
theorem usc_ge {x A B s:Nat} (hx:4611686018427387904≤x) (hA:9223372036854775808≤A) (hx1:x < 18446744073709551616) (hA1:A < 18446744073709551616) (hs:s≤58):7≤usc x A B s:=by
 have h1:4611686018427387904 * 9223372036854775808≤x * A:=Nat.mul_le_mul hx hA
 have h3:x * A < 18446744073709551616 * 18446744073709551616:=Nat.mul_lt_mul'' hx1 hA1
 obtain ⟨hi,hhi⟩:∃ hi,x * A / 18446744073709551616=hi:=⟨_,rfl⟩
 have h2:2305843009213693952≤hi:=by omega
 have h4:hi < 18446744073709551616:=by omega
 have hp:2 ^ s≤288230376151711744:=Nat.pow_le_pow_right (n:=2) (by decide) hs
 have hpos:0 < 2 ^ s:=Nat.pow_pos (by decide)
 have hd:∀ n,2305843009213693951≤n→7≤n / 2 ^ s:=fun n hn=>by
   rw [Nat.le_div_iff_mul_le hpos]
   omega
 unfold usc
 rw [hhi]
 split
 · exact Nat.le_trans (hd hi (by omega)) Nat.left_le_or
 · refine Nat.le_trans (hd _ ?_) Nat.left_le_or
   have:b2 (decide (x * A % 18446744073709551616 < x * B / 18446744073709551616))≤1:=by cases (decide (x * A % 18446744073709551616 < x * B / 18446744073709551616)) <;> decide
   generalize b2 (decide (x * A % 18446744073709551616 < x * B / 18446744073709551616))=b at *
   omega
theorem usc_small {x A B s:Nat} (hx1:x < 18446744073709551616) (hA1:A < 18446744073709551616) (hs:4≤s):usc x A B s < 1152921504606846976:=by
 have h3:x * A < 18446744073709551616 * 18446744073709551616:=Nat.mul_lt_mul'' hx1 hA1
 obtain ⟨hi,hhi⟩:∃ hi,x * A / 18446744073709551616=hi:=⟨_,rfl⟩
 have h4:hi < 18446744073709551616:=by omega
 have hp:16≤2 ^ s:=Nat.pow_le_pow_right (n:=2) (by decide) hs
 have hpos:0 < 2 ^ s:=Nat.pow_pos (by decide)
 have hd:∀ n,n < 18446744073709551616→n / 2 ^ s < 1152921504606846976:=fun n hn=>by
   rw [Nat.div_lt_iff_lt_mul hpos]
   calc n < 1152921504606846976 * 16:=by omega
     _≤1152921504606846976 * 2 ^ s:=Nat.mul_le_mul_left _ hp
 have hb:∀ b,b2 b < 1152921504606846976:=fun b=>by cases b <;> decide
 unfold usc
 rw [hhi]
 split
 · exact Nat.or_lt_two_pow (n:=60) (hd hi h4) (by decide)
 · exact Nat.or_lt_two_pow (n:=60) (hd _ (Nat.mod_lt _ (by decide))) (hb _)
/-- what is asked of the table's greater halves -/
def Big (Hi Lo:Nat→Nat):Prop:=∀ k,k < 696→9223372036854775808≤Hi k∧Hi k < 18446744073709551616∧Lo k < 18446744073709551616
theorem V.u {Hi Lo:Nat→Nat} {m:Nat} {E:Int} (h:V m E) (hT:Big Hi Lo) {x:Nat} (h0:4611686018427387904≤x) (h1:x < 18446744073709551616):7≤uO Hi Lo m E x∧uO Hi Lo m E x < 1152921504606846976:=by
 have hp:=h.p
 have hk:=hT (kO m E) (by unfold kO;omega)
 exact ⟨usc_ge h0 hk.1 h1 hk.2.1 (by unfold sO;omega),usc_small h1 hk.2.1 (by unfold sO;omega)⟩
theorem rnd_pos {u:Nat} (h:7≤u) (h1:u < 1152921504606846976):1≤rnd u:=by
 unfold rnd
 rw [Nat.mod_eq_of_lt (show u + 1 < 18446744073709551616 by omega),Nat.mod_eq_of_lt (show u + 1 + u / 4 % 2 < 18446744073709551616 by omega)]
 omega
theorem odO_le (m:Nat) (E:Int):odO m E≤1:=by unfold odO;omega
/-- there is a digit -/
theorem sh_pos {Hi Lo:Nat→Nat} {m:Nat} {E:Int} (h:V m E) (hT:Big Hi Lo):1≤(sh Hi Lo m E).1∧(sh Hi Lo m E).1 < 4611686018427387904∧-340≤(sh Hi Lo m E).2∧(sh Hi Lo m E).2≤340:=by
 obtain ⟨e1,e2,e3,e4⟩:=h.ends
 have u1:=h.u hT e1 e3
 have u2:=h.u hT e4 e2
 have u3:=h.u hT (x:=m) (by have:=h.m0;omega) h.m1
 have o1:=odO_le m E
 have hp:=h.p
 have hr:=rnd_pos u3.1 u3.2
 have hr2:=rnd_lt (uO Hi Lo m E m)
 have a1:1≤dmn Hi Lo m E∧dmn Hi Lo m E < 1152921504606846976:=by unfold dmn;omega
 have a2:dmx Hi Lo m E < 1152921504606846976:=by unfold dmx;omega
 unfold sh
 split
 · simp only;omega
 · split
   · simp only;omega
   · simp only;omega
/-- the digits without the noughts at their end -/
def cutz (l:List UInt8):List UInt8:=(l.reverse.dropWhile (· == 48)).reverse
/-- the number's text of the form d.ddde+dd -/
def expo (e:Int):List UInt8 :=
 (if e < 0 then 45 else 43) :: (if e.natAbs < 100 then [UInt8.ofNat (48 + e.natAbs / 10),UInt8.ofNat (48 + e.natAbs % 10)] else [UInt8.ofNat (48 + e.natAbs / 100),UInt8.ofNat (48 + e.natAbs / 10 % 10),UInt8.ofNat (48 + e.natAbs % 10)])
def sci (T:List UInt8) (dp:Int):List UInt8:=(T.take 1 ++ if T.length≤1 then [] else 46 :: T.drop 1) ++ (101 :: expo (dp - 1))
end Ft
namespace Ft
open Us
theorem l10_any (x:Int) (w:World) (h0:-100000≤x) (h1:x≤100000):Calls Tryz.prog 207 #[.int .i64 x] w fun e w'=>e=.returned (.int .i64 (l10 x))∧w=w':=by
 have w1:IntKind.i64.wrap (x * 78913)=x * 78913:=IntWalk.i64_in _ (by omega)
 go_enter Tryz.func207,Tryz.ntmps207
 go_wp2
 go_ret
 exact ⟨rfl,rfl⟩
theorem skw_any (x:Int) (w:World) (h0:-100000≤x) (h1:x≤100000):Calls Tryz.prog 238 #[.int .i64 x] w fun e w'=>e=.returned (.int .i64 (skw x))∧w=w':=by
 have w1:IntKind.i64.wrap (x * 631305)=x * 631305:=IntWalk.i64_in _ (by omega)
 have w2:IntKind.i64.wrap (x * 631305 - 261663)=x * 631305 - 261663:=IntWalk.i64_in _ (by omega)
 go_enter Tryz.func238,Tryz.ntmps238
 go_wp2
 go_ret
 exact ⟨rfl,rfl⟩
theorem nudge_up (u o:Nat) (w:World) (h:u < 1152921504606846976) (ho:o≤1):Calls Tryz.prog 242 #[.int .u64 (u:Int),.int .i64 (o:Int)] w fun e w'=>e=.returned (.int .u64 ((u + o:Nat):Int))∧w=w':=by
 have w1:IntKind.u64.wrap (o:Int)=(o:Int):=IntWalk.u64_in _ (by omega)
 have w2:IntKind.u64.wrap ((u:Int) + (o:Int))=((u + o:Nat):Int):=by rw [show (u:Int) + (o:Int)=((u + o:Nat):Int) by omega];exact IntWalk.u64_in _ (by omega)
 go_enter Tryz.func242,Tryz.ntmps242
 go_wp2
 go_ret
 exact ⟨rfl,rfl⟩
theorem nudge_dn (u o:Nat) (w:World) (h:u < 1152921504606846976) (ho:o≤1) (h7:7≤u):Calls Tryz.prog 242 #[.int .u64 (u:Int),.int .i64 (-(o:Int))] w fun e w'=>e=.returned (.int .u64 ((u - o:Nat):Int))∧w=w':=by
 obtain ⟨y,hy⟩:∃ y:Nat,IntKind.u64.wrap (-(o:Int))=(y:Int)∧(y=0∧o=0∨y=18446744073709551615∧o=1):=by
   have:o=0∨o=1:=by omega
   rcases this with rfl | rfl
   · exact ⟨0,by decide,.inl ⟨rfl,rfl⟩⟩
   · exact ⟨18446744073709551615,by decide,.inr ⟨rfl,rfl⟩⟩
 obtain ⟨w1,hy2⟩:=hy
 have w2:IntKind.u64.wrap ((u:Int) + (y:Int))=((u - o:Nat):Int):=by rw [IntKind.wrap_u64];omega
 clear hy2
 go_enter Tryz.func242,Tryz.ntmps242
 go_wp2
 go_ret
 exact ⟨rfl,rfl⟩
theorem ceil_any (u:Nat) (w:World) (h:u < 2305843009213693952):Calls Tryz.prog 243 #[.int .u64 (u:Int)] w fun e w'=>e=.returned (.int .u64 (((u + 3) / 4:Nat):Int))∧w=w':=by
 have w1:IntKind.u64.wrap ((u:Int) + 3)=(u:Int) + 3:=IntWalk.u64_in _ (by omega)
 have hv:=Lib.hid (show (((u + 3) / 4:Nat):Int)=((u:Int) + 3) / 4 by omega)
 clear h
 go_enter Tryz.func243,Tryz.ntmps243
 go_wp2
 go_ret
 rw [hv.out]
 exact ⟨rfl,rfl⟩
theorem floor_any (u:Nat) (w:World) (h:u < 2305843009213693952):Calls Tryz.prog 244 #[.int .u64 (u:Int)] w fun e w'=>e=.returned (.int .u64 ((u / 4:Nat):Int))∧w=w':=by
 have w1:IntKind.u64.wrap ((u:Int) + 0)=(u:Int):=by rw [Int.add_zero];exact IntWalk.u64_in _ (by omega)
 have w2:IntKind.u64.wrap (u:Int)=(u:Int):=IntWalk.u64_in _ (by omega)
 have hv:=Lib.hid (show ((u / 4:Nat):Int)=(u:Int) / 4 by omega)
 clear h
 go_enter Tryz.func244,Tryz.ntmps244
 go_wp2
 go_ret
 rw [hv.out]
 exact ⟨rfl,rfl⟩
end Ft
namespace Ft
open Us
/-- the three ways to the ends -/
inductive Way (m:Nat) (E:Int):Prop where
 | a (h1:((m:Int) == 9223372036854775808)=true) (h2:decide (-1085 < E)=true) (h:edge m E=true)
 | b (b1 b2:Bool) (h1:((m:Int) == 9223372036854775808)=b1) (h2:decide (-1085 < E)=b2) (hb:(b1 && b2)=false) (h3:decide (-1085≤E)=true) (h:edge m E=false) (hz:zO E=11)
 | c (b1:Bool) (h1:((m:Int) == 9223372036854775808)=b1) (h2:decide (-1085 < E)=false) (h3:decide (-1085≤E)=false) (h:edge m E=false)
theorem way (m:Nat) (E:Int):Way m E:=by
 by_cases g3:-1085≤E
 · by_cases g:edge m E=true
   · have g0:=g
     unfold edge at g
     simp only [Bool.and_eq_true,decide_eq_true_eq] at g
     exact .a (by rw [beq_iff_eq];omega) (by rw [decide_eq_true_eq];exact g.2) g0
   · refine .b _ _ rfl rfl ?_ (by rw [decide_eq_true_eq];exact g3) ((Bool.not_eq_true _).mp g) (by unfold zO;rw [if_pos g3])
     have g0:=(Bool.not_eq_true _).mp g
     unfold edge at g0
     rw [← g0]
     congr 1
     rw [Bool.eq_iff_iff,beq_iff_eq,decide_eq_true_eq]
     omega
 · refine .c _ rfl (by rw [decide_eq_false_iff_not];omega) (by rw [decide_eq_false_iff_not];exact g3) ?_
   unfold edge
   rw [show decide (-1085 < E)=false by rw [decide_eq_false_iff_not];omega,Bool.and_false]
theorem short_any {Hi Lo:Nat→Nat} {w:World} (m:Nat) (E:Int) (hT:PT Hi Lo w) (hB:Big Hi Lo) (hg:17 < w.heap.size) (hV:V m E) :
   Calls Tryz.prog 212 #[.int .u64 (m:Int),.int .i64 E] w fun e w'=>e=.returned (.tuple #[.int .u64 ((sh Hi Lo m E).1:Int),.int .i64 (sh Hi Lo m E).2])∧Pur w w':=by
 have m0:=hV.m0
 have m1:=hV.m1
 have E0:=hV.e0
 have E1:=hV.e1
 have SK:=fun w=>skw_any (E + 11) w (by omega) (by omega)
 have LT:=fun w=>l10_any (E + 11) w (by omega) (by omega)
 have hsk:-2000≤skw (E + 11)∧skw (E + 11)≤2000:=by unfold skw;omega
 have hlt:-2000≤l10 (E + 11)∧l10 (E + 11)≤2000:=by unfold l10;omega
 have wE:IntKind.i64.wrap (E + 11)=E + 11:=IntWalk.i64_in _ (by omega)
 have en:=hV.ends
 have wS:IntKind.i64.wrap (-(skw (E + 11)))=-(skw (E + 11)):=IntWalk.i64_in _ (by omega)
 have wL:IntKind.i64.wrap (-(l10 (E + 11)))=-(l10 (E + 11)):=IntWalk.i64_in _ (by omega)
 go_enter Tryz.func212,Tryz.ntmps212
 go_upto_region 12 with (fail)
 go_cut [28] from 20 to 132 (fun t wx=>t=.bool (edge m E)∧wx=w)
 case first =>
   rcases way m E with ⟨h1,h2,h⟩ | ⟨b1,b2,h1,h2,hb,h3,h,hz⟩ | ⟨b1,h1,h2,h3,h⟩
   · clear hT hB hV SK LT
     go_wp2
     go_meet
     exact ⟨by rw [h],rfl⟩
   · clear hT hB hV SK LT
     cases b1 <;> cases b2
     all_goals first | (exact absurd hb (by decide)) | skip
     all_goals
       go_wp2
       go_meet
       exact ⟨by rw [h],rfl⟩
   · clear hT hB hV SK LT
     cases b1
     all_goals
       go_wp2
       go_meet
       exact ⟨by rw [h],rfl⟩
 case rest =>
   obtain ⟨rfl,rfl⟩:=hcut
   obtain ⟨ed,hed⟩:∃ ed,edge m E=ed:=⟨_,rfl⟩
   rw [hed]
   go_upto_if 28 with (fail)
   go_cut [5,8,9,10,11] from 29 to 96 (fun p x8 x9 o z wx=>p=.int .i64 (pO m E)∧x8=.int .u64 (mnO m E:Int)∧x9=.int .u64 (mxO m E:Int)∧o=.int .i64 (odO m E:Int)∧wx=wc)
   case first =>
     clear hT hB
     rcases way m E with ⟨h1,h2,h⟩ | ⟨b1,b2,h1,h2,hb,h3,h,hz⟩ | ⟨b1,h1,h2,h3,h⟩
     · have hm:m=9223372036854775808:=by rw [beq_iff_eq] at h1;omega
       have w1:IntKind.u64.wrap ((m:Int) - 512)=((m - 512:Nat):Int):=by rw [show (m:Int) - 512=((m - 512:Nat):Int) by omega];exact IntWalk.u64_in _ (by omega)
       have w2:IntKind.u64.wrap ((m:Int) + 1024)=(m:Int) + 1024:=IntWalk.u64_in _ (by omega)
       have hp:=Lib.hid (show pO m E=-(skw (E + 11)) by unfold pO;rw [if_pos h])
       have hn:=Lib.hid (show mnO m E=m - 512 by unfold mnO;rw [if_pos h])
       have hx:=Lib.hid (show (mxO m E:Int)=(m:Int) + 1024 by unfold mxO;rw [if_pos h];omega)
       have ho:=Lib.hid (show (odO m E:Int)=(m:Int) / 2048 % 2 by
         have hE:-1085 < E:=by rw [decide_eq_true_eq] at h2;exact h2
         unfold odO zO;rw [if_pos (by omega)];omega)
       obtain rfl:ed=true:=hed.symm.trans h
       have hod:bits .and .i64 ((m:Int) / 2048) 1=(m:Int) / 2048 % 2:=by
         have:=bits_mask .i64 63 (by decide) wraps_i64 1 (by decide) ((m:Int) / 2048) (by omega) (by omega)
         rw [show ((2:Int) ^ 1 - 1)=1 from rfl] at this
         rw [this]
         rfl
       clear hm hV LT en hed
       go_wp2_with fail
       refine (SK _).mono ?_
       rintro e w1 ⟨rfl,rfl⟩
       go_wp2
       go_meet
       exact ⟨by rw [hp.out],by rw [hn.out],by rw [hx.out],by rw [ho.out],rfl⟩
     · have w1:IntKind.u64.wrap ((m:Int) - 1024)=((m - 1024:Nat):Int):=by rw [show (m:Int) - 1024=((m - 1024:Nat):Int) by omega];exact IntWalk.u64_in _ (by omega)
       have en2:=en.2.1
       have hx0:mxO m E=m + 1024:=by unfold mxO;rw [if_neg (by rw [h];decide),hz]
       rw [hx0] at en2
       have w2:IntKind.u64.wrap ((m:Int) + 1024)=(m:Int) + 1024:=IntWalk.u64_in _ (by omega)
       have hp:=Lib.hid (show pO m E=-(l10 (E + 11)) by unfold pO;rw [if_neg (by rw [h];decide),hz];rfl)
       have hn:=Lib.hid (show mnO m E=m - 1024 by unfold mnO;rw [if_neg (by rw [h];decide),hz])
       have hx:=Lib.hid (show (mxO m E:Int)=(m:Int) + 1024 by rw [hx0];omega)
       have ho:=Lib.hid (show (odO m E:Int)=(m:Int) / 2048 % 2 by unfold odO;rw [hz];omega)
       obtain rfl:ed=false:=hed.symm.trans h
       have hod:bits .and .i64 ((m:Int) / 2048) 1=(m:Int) / 2048 % 2:=by
         have:=bits_mask .i64 63 (by decide) wraps_i64 1 (by decide) ((m:Int) / 2048) (by omega) (by omega)
         rw [show ((2:Int) ^ 1 - 1)=1 from rfl] at this
         rw [this]
         rfl
       clear hx0 hV SK en hz hed
       go_wp2_with fail
       refine (LT _).mono ?_
       rintro e w1 ⟨rfl,rfl⟩
       go_wp2
       go_meet
       exact ⟨by rw [hp.out],by rw [hn.out],by rw [hx.out],by rw [ho.out],rfl⟩
     · obtain rfl:ed=false:=hed.symm.trans h
       have hE:E < -1085:=by rw [decide_eq_false_iff_not] at h3;omega
       obtain ⟨z,hz⟩:∃ z,zO E=z:=⟨_,rfl⟩
       have hzE:(z:Int)=-1074 - E:=by rw [← hz];unfold zO;rw [if_neg (by omega)];omega
       have hz1:12≤z∧z≤63:=by omega
       obtain ⟨y,hy⟩:∃ y,z - 1=y:=⟨_,rfl⟩
       have wa:IntKind.i64.wrap (-1085 - E)=-1085 - E:=IntWalk.i64_in _ (by omega)
       have wb:IntKind.i64.wrap (11 + (-1085 - E))=(z:Int):=by rw [show 11 + (-1085 - E)=(z:Int) by omega];exact IntWalk.i64_in _ (by omega)
       have wc':IntKind.i64.wrap (E + (z:Int))=-1074:=by rw [show E + (z:Int)=-1074 by omega];decide
       have wd:IntKind.i64.wrap ((z:Int) - 1)=(y:Int):=by rw [show (z:Int) - 1=(y:Int) by omega];exact IntWalk.i64_in _ (by omega)
       have L3:=fun w=>l10_any (-1074) w (by omega) (by omega)
       have hl3:l10 (-1074)=-324:=by decide
       rw [hl3] at L3
       obtain ⟨Y,hY⟩:∃ Y:Nat,2 ^ y=Y:=⟨_,rfl⟩
       have hYl:Y≤4611686018427387904:=by rw [← hY];exact Nat.pow_le_pow_right (n:=2) (by decide) (show y≤62 by omega)
       have hYi:(2:Int) ^ y=(Y:Int):=by rw [← hY,Int.natCast_pow];rfl
       have wY:IntKind.u64.wrap ((2:Int) ^ y)=(Y:Int):=by rw [hYi];exact IntWalk.u64_in _ (by omega)
       have en2:=en.2.1
       have hx0:mxO m E=m + Y:=by unfold mxO;rw [if_neg (by rw [h];decide),hz,hy,hY]
       have hn0:mnO m E=m - Y:=by unfold mnO;rw [if_neg (by rw [h];decide),hz,hy,hY]
       rw [hx0] at en2
       have w1:IntKind.u64.wrap ((m:Int) - (Y:Int))=((m - Y:Nat):Int):=by rw [show (m:Int) - (Y:Int)=((m - Y:Nat):Int) by omega];exact IntWalk.u64_in _ (by omega)
       have w2:IntKind.u64.wrap ((m:Int) + (Y:Int))=(m:Int) + (Y:Int):=IntWalk.u64_in _ (by omega)
       have hp:=Lib.hid (show pO m E=324 by unfold pO;rw [if_neg (by rw [h];decide),hz,show E + (z:Int)=-1074 by omega];decide)
       have hn:=Lib.hid hn0
       have hx:=Lib.hid (show (mxO m E:Int)=(m:Int) + (Y:Int) by rw [hx0];omega)
       obtain ⟨Q,hQ⟩:∃ Q:Nat,m / 2 ^ z=Q:=⟨_,rfl⟩
       have hQi:(m:Int) / 2 ^ z=(Q:Int):=by rw [← hQ,Int.natCast_ediv,Int.natCast_pow];rfl
       have hQl:Q≤m:=by rw [← hQ];exact Nat.div_le_self _ _
       have hQ2:Q < 9223372036854775808:=by
         rw [← hQ,Nat.div_lt_iff_lt_mul (Nat.pow_pos (by decide))]
         have:2≤2 ^ z:=Nat.pow_le_pow_right (n:=2) (by decide) (show 1≤z by omega)
         have:=Nat.mul_le_mul_left 9223372036854775808 this
         omega
       have wQ:IntKind.i64.wrap (Q:Int)=(Q:Int):=IntWalk.i64_in _ (by omega)
       have hod:bits .and .i64 (Q:Int) 1=(Q:Int) % 2:=by
         have:=bits_mask .i64 63 (by decide) wraps_i64 1 (by decide) (Q:Int) (by omega) (by omega)
         rw [show ((2:Int) ^ 1 - 1)=1 from rfl] at this
         rw [this]
         rfl
       have ho:=Lib.hid (show (odO m E:Int)=(Q:Int) % 2 by unfold odO;rw [hz,hQ];omega)
       have z64:z < 64:=by omega
       have y64:y < 64:=by omega
       clear hx0 hn0 hV SK LT en hed hQ hz hzE hE hY hy hYl hl3 hz1 hYi
       go_wp2_with fail
       refine (L3 _).mono ?_
       rintro e w1 ⟨rfl,rfl⟩
       go_wp2
       go_meet
       exact ⟨by rw [hp.out],by rw [hn.out],by rw [hx.out],by rw [ho.out],rfl⟩
   case rest =>
     obtain ⟨rfl,rfl,rfl,rfl,rfl⟩:=hcut
     have hp:=hV.p
     obtain ⟨X8,h8⟩:∃ x,mnO m E=x:=⟨_,rfl⟩
     obtain ⟨X9,h9⟩:∃ x,mxO m E=x:=⟨_,rfl⟩
     obtain ⟨O,hO⟩:∃ x,odO m E=x:=⟨_,rfl⟩
     obtain ⟨P,hP⟩:∃ x,pO m E=x:=⟨_,rfl⟩
     have hO1:=odO_le m E
     have U1:=hV.u hB en.1 en.2.2.1
     have U2:=hV.u hB en.2.2.2 en.2.1
     have U3:=hV.u hB (x:=m) (by omega) m1
     obtain ⟨k,hk⟩:=Int.eq_ofNat_of_zero_le (show 0≤P + 348 by omega)
     obtain ⟨S,hS⟩:=Int.eq_ofNat_of_zero_le (show 0≤-(E + lg P + 3) by rw [← hP];omega)
     have hkO:kO m E=k:=by unfold kO;rw [hP,hk];rfl
     have hSO:sO m E=S:=by unfold sO;rw [hP,hS];rfl
     have hk2:k < 696:=by omega
     have hS2:S≤58:=by rw [hP,hS] at hp;omega
     have hBk:=hB k hk2
     have hlg:-2000≤lg P∧lg P≤2000:=by unfold lg;omega
     have LG:=fun w=>log2_any P w (by omega) (by omega)
     have PS:=fun (W:World) (hW:W=wc.alloc (.cells #[.int .u64 0,.int .u64 0,.int .i64 0] 271))=>prescale_any (w:=W) (q:=wc.heap.size) (k:=k) (a:=0) (b:=0) (s:=0) (e:=E) (p:=P) (lp:=lg P) (hT.pur (by rw [hW];exact (Pur.refl _).alloc _)) (by rw [hW];exact bk_new _ _) (Nat.ne_of_lt hg) hk hk2 (by omega) (by omega)
     rw [hS] at PS
     have hand:bits .and .i64 (S:Int) 63=(S:Int):=by
       have:=bits_mask .i64 63 (by decide) wraps_i64 6 (by decide) (S:Int) (by omega) (by omega)
       rw [show ((2:Int) ^ 6 - 1)=63 from rfl] at this
       rw [this];omega
     unfold uO at U1 U2 U3
     rw [hkO,hSO] at U1 U2 U3
     rw [h8] at U1 en
     rw [h9] at U2 en
     rw [hO] at hO1
     have HS:=Lib.hid (show sh Hi Lo m E=if (usc X8 (Hi k) (Lo k) S + O + 3) / 4≤(usc X9 (Hi k) (Lo k) S - O) / 4 / 10 * 10 then ((usc X9 (Hi k) (Lo k) S - O) / 4 / 10,-(P - 1))
       else if (usc X8 (Hi k) (Lo k) S + O + 3) / 4 < (usc X9 (Hi k) (Lo k) S - O) / 4 then (rnd (usc m (Hi k) (Lo k) S),-P) else ((usc X8 (Hi k) (Lo k) S + O + 3) / 4,-P) by
       unfold sh dmn dmx uO;rw [hkO,hSO,hP,h8,h9,hO])
     have US:=fun (W:World) (hW:Scl W wc.heap.size (Hi k) (Lo k) (S:Int)) (x:Nat) (hx:x < 18446744073709551616)=>uscale_any (x:=x) hW hx hBk.2.1 hBk.2.2 hand (by omega)
     rw [h8,h9,hO,hP]
     obtain ⟨u1,hu1⟩:∃ u,usc X8 (Hi k) (Lo k) S=u:=⟨_,rfl⟩
     obtain ⟨u2,hu2⟩:∃ u,usc X9 (Hi k) (Lo k) S=u:=⟨_,rfl⟩
     obtain ⟨u3,hu3⟩:∃ u,usc m (Hi k) (Lo k) S=u:=⟨_,rfl⟩
     have US1:=fun W hW=>US W hW X8 en.2.2.1
     have US2:=fun W hW=>US W hW X9 en.2.1
     have US3:=fun W hW=>US W hW m m1
     rw [hu1] at US1 U1
     rw [hu2] at US2 U2
     rw [hu3] at US3 U3
     rw [hu1,hu2,hu3] at HS
     have NU:=fun w=>nudge_up u1 O w U1.2 hO1
     have ND:=fun w=>nudge_dn u2 O w U2.2 hO1 U2.1
     have CE:=fun w=>ceil_any (u1 + O) w (by omega)
     have FL:=fun w=>floor_any (u2 - O) w (by omega)
     have RN:=fun w=>round_any u3 w (by omega)
     have wO:IntKind.i64.wrap (-(O:Int))=-(O:Int):=IntWalk.i64_in _ (by omega)
     have wP0:IntKind.i64.wrap (-P)=-P:=IntWalk.i64_in _ (by omega)
     have wP1:IntKind.i64.wrap (P - 1)=P - 1:=IntWalk.i64_in _ (by omega)
     have wP2:IntKind.i64.wrap (-(P - 1))=-(P - 1):=IntWalk.i64_in _ (by omega)
     obtain ⟨D1,hD1⟩:∃ d,(u1 + O + 3) / 4=d:=⟨_,rfl⟩
     obtain ⟨D2,hD2⟩:∃ d,(u2 - O) / 4=d:=⟨_,rfl⟩
     rw [hD1] at CE HS
     rw [hD2] at FL HS
     have hd2:D2 < 1152921504606846976:=by omega
     obtain ⟨T,hT'⟩:∃ t,D2 / 10=t:=⟨_,rfl⟩
     rw [hT'] at HS
     have eT:(D2:Int) / 10=(T:Int):=by omega
     have eT2:(D2:Int).tdiv 10=(T:Int):=by rw [Int.tdiv_eq_ediv_of_nonneg (by omega)];omega
     obtain ⟨T10,hT10⟩:∃ t,T * 10=t:=⟨_,rfl⟩
     rw [hT10] at HS
     have wT:IntKind.u64.wrap ((T:Int) * 10)=(T10:Int):=by rw [show (T:Int) * 10=(T10:Int) by omega];exact IntWalk.u64_in _ (by omega)
     have wh:=Nat.lt_irrefl wc.heap.size
     clear hT hB hV hp h8 h9 hO hP hk hS hkO hSO hk2 hBk US hu1 hu2 hu3 hD1 hD2 hT' hT10 hed en wh
     go_wp2_with fail
     refine (LG _).mono ?_
     rintro e w1 ⟨rfl,rfl⟩
     go_wp2_with fail
     refine (PS _ rfl).mono ?_
     rintro e w2 ⟨rfl,s2,g2⟩
     have P2:=((Chg.of_pur ((Pur.refl _).alloc _)).trans g2).to_pur (fun b hb=>by simp at hb;omega)
     go_wp2_with fail
     refine (US1 _ s2).mono ?_
     rintro e w3 ⟨rfl,p3⟩
     have s3:Scl w3 _ _ _ _:=bk_pur s2 p3
     go_wp2_with fail
     refine (NU _).mono ?_
     rintro e w4 ⟨rfl,rfl⟩
     go_wp2_with fail
     refine (CE _).mono ?_
     rintro e w4 ⟨rfl,rfl⟩
     go_wp2_with fail
     refine (US2 _ s3).mono ?_
     rintro e w5 ⟨rfl,p5⟩
     have s5:Scl w5 _ _ _ _:=bk_pur s3 p5
     go_wp2_with fail
     refine (ND _).mono ?_
     rintro e w6 ⟨rfl,rfl⟩
     go_wp2_with fail
     refine (FL _).mono ?_
     rintro e w6 ⟨rfl,rfl⟩
     by_cases c1:D1≤T10
     · have d1:decide ((D1:Int)≤(T10:Int))=true:=by rw [decide_eq_true_eq];omega
       have HV:=Lib.hid (HS.out.trans (if_pos c1))
       clear HS
       go_wp2
       go_ret2
       rw [HV.out]
       exact ⟨rfl,(P2.trans p3).trans p5⟩
     · have d1:decide ((D1:Int)≤(T10:Int))=false:=by rw [decide_eq_false_iff_not];omega
       by_cases c2:D1 < D2
       · have d2:decide ((D1:Int) < (D2:Int))=true:=by rw [decide_eq_true_eq];omega
         have HV:=Lib.hid ((HS.out.trans (if_neg c1)).trans (if_pos c2))
         clear HS
         go_wp2_with fail
         refine (US3 _ s5).mono ?_
         rintro e w7 ⟨rfl,p7⟩
         go_wp2_with fail
         refine (RN _).mono ?_
         rintro e w8 ⟨rfl,rfl⟩
         go_wp2
         go_ret2
         rw [HV.out]
         exact ⟨rfl,((P2.trans p3).trans p5).trans p7⟩
       · have d2:decide ((D1:Int) < (D2:Int))=false:=by rw [decide_eq_false_iff_not];omega
         have HV:=Lib.hid ((HS.out.trans (if_neg c1)).trans (if_neg c2))
         clear HS
         go_wp2
         go_ret2
         rw [HV.out]
         exact ⟨rfl,(P2.trans p3).trans p5⟩
end Ft
open Go Go.RowKit Go.Sort Go.Lib
namespace Ft
open Us
theorem chg_putRow {α:Type} [Inhabited α] (enc:α→Value) (w:World) (b off:Nat) (d:Array α):Chg [b] w (putRow enc w b off d):=by
 refine ⟨rfl,rfl,rfl,?_,fun k hk hn=>?_⟩
 · unfold putRow mapBlock;simp
 · unfold putRow mapBlock
   simp only [List.mem_singleton] at hn
   rw [Array.getElem?_modify,if_neg (fun h=>hn h.symm)]
/-- the buffer's block, not written yet -/
def z32:Array Value:=Array.replicate 32 (.int .u8 0)
theorem holds32 {w:World} {q:Nat} {t:TypeId} (h:w.heap[q]?=some (.cells z32 t (0,0))) (nd:Nat) (hn:nd≤32):Holds (fun (b:UInt8)=>Value.int .u8 (b.toNat:Int)) w q 0 (Array.replicate nd (0:UInt8)):=fun j hj=>by
 have hj':j < nd:=by simpa using hj
 refine ⟨?_,bk_free h _⟩
 rw [Nat.zero_add,bk_cell h j (.int .u8 0) (by unfold z32;rw [Array.getElem?_replicate,if_pos (by omega)])]
 rw [getElem!_pos _ j hj]
 simp
theorem cutz_stop {l:List UInt8} {j:Nat} {c:UInt8} (h:l[j]?=some c) (hc:c≠48):cutz (l.take (j + 1))=l.take (j + 1):=by
 have e:l.take (j + 1)=l.take j ++ [c]:=by rw [List.take_succ,h];rfl
 unfold cutz
 rw [e,List.reverse_append]
 simp [hc]
theorem cutz_on {l:List UInt8} {j:Nat} (h:l[j]?=some 48):cutz (l.take (j + 1))=cutz (l.take j):=by
 have e:l.take (j + 1)=l.take j ++ [48]:=by rw [List.take_succ,h];rfl
 unfold cutz
 rw [e,List.reverse_append]
 simp
theorem set_any {w:World} {q:Nat} {t:TypeId} (d:Nat) (p:Int) (hq:w.heap[q]?=some (.cells z32 t (0,0))) (h1:1≤d) (h2:d < 4611686018427387904) (hp:-100000≤p∧p≤100000) :
   Calls Tryz.prog 206 #[.slice (some ⟨q,0,none⟩) 32 32,.int .u64 (d:Int),.int .i64 p,.int .i64 (nDigits d:Int)] w fun e w'=>e=.returned (.tuple #[.int .i64 ((nDigits d:Int) + p),.int .i64 ((cutz (decDigits d)).length:Int)])∧Chg [q] w w' ∧
     ∀ j c,(decDigits d)[j]?=some c→w'.cell? ⟨q,j,none⟩=some (.int .u8 (c.toNat:Int)):=by
 have hn20:nDigits d≤20:=by have:=numDigits_eq d h1 (by omega);split at this <;> omega
 have hlen:=decDigits_length d
 have FM:=fun c=>Tryz.internal_strconv_formatBase10 q 0 c d (Array.replicate (nDigits d) 0) w (holds32 hq _ (by omega)) (by rw [Array.size_replicate];exact lt_pow_nDigits d) (by omega) (by rw [Array.size_replicate];omega)
 simp only [Array.size_replicate] at FM
 obtain ⟨nd,hnd⟩:∃ nd,nDigits d=nd:=⟨_,rfl⟩
 rw [hnd] at FM hlen hn20 ⊢
 have t1:decide ((nd:Int)≤32)=true:=by rw [decide_eq_true_eq];omega
 have a0:(0:Int)≤(nd:Int):=by omega
 have a1:(nd:Int)≤32:=by omega
 have wp:IntKind.i64.wrap ((nd:Int) + p)=(nd:Int) + p:=IntWalk.i64_in _ (by omega)
 go_enter Tryz.func206,Tryz.ntmps206
 go_wp2_with fail
 refine (FM _).mono ?_
 rintro e w1 ⟨rfl,k,v',dk,hw1,hF⟩
 have hC:Chg [q] w w1:=by rw [hw1];exact (chg_putRow _ w q 0 dk).pur ((Pur.refl _).drewN k)
 have hcell:∀ j c,(decDigits d)[j]?=some c→w1.cell? ⟨q,j,none⟩=some (.int .u8 (c.toNat:Int)):=fun j c hj=>by
   obtain ⟨hjl,hjc⟩:=List.getElem?_eq_some_iff.1 hj
   rw [hw1,World.cell?_drewN]
   have h5:=cell?_putRow (fun (b:UInt8)=>Value.int .u8 (b.toNat:Int)) w q 0 _ dk (holds32 hq nd (by omega)) (by rw [hF.size,Array.size_replicate]) j (by rw [hF.size];omega)
   rw [Nat.zero_add] at h5
   rw [h5]
   rw [← hnd] at hF
   rw [← row_is_numeral hF j hjl,hjc]
 clear FM hw1 hF hq
 go_wp2
 go_loopw [3] (fun n wr=>∃ j:Nat,n=.int .i64 (j:Int)∧j≤nd∧wr=w1∧Hid (cutz (decDigits d)=cutz ((decDigits d).take j))) (fun n _=>(RowKit.intOf n).toNat)
 case atStart=>exact ⟨nd,rfl,Nat.le_refl _,rfl,Lib.hid (by rw [List.take_of_length_le (by omega)])⟩
 case round =>
   obtain ⟨j,rfl,hj,rfl,H⟩:=hrel
   rcases j with _ | j
   · have HL:=Lib.hid (show (cutz (decDigits d)).length=0 by rw [H.out];rfl)
     clear H
     go_wp2
     go_ret2
     rw [HL.out]
     exact ⟨rfl,hC,hcell⟩
   · obtain ⟨c,hc⟩:∃ c,(decDigits d)[j]?=some c:=⟨_,List.getElem?_eq_getElem (by omega)⟩
     have cj:=hcell j c hc
     have b0:decide ((0:Int) < ((j + 1:Nat):Int))=true:=by rw [decide_eq_true_eq];omega
     have b0':(0:Int) < ((j + 1:Nat):Int):=by omega
     have w2:IntKind.i64.wrap (((j + 1:Nat):Int) - 1)=(j:Int):=by rw [show ((j + 1:Nat):Int) - 1=(j:Int) by omega];exact IntWalk.i64_in _ (by omega)
     have w3:IntKind.i64.wrap ((j:Int) + 1 - 1)=(j:Int):=by rw [show (j:Int) + 1 - 1=(j:Int) by omega];exact IntWalk.i64_in _ (by omega)
     have j0:(0:Int)≤(j:Int):=by omega
     have j32:(j:Int) < 32:=by omega
     rcases hb:((c.toNat:Int) == 48) with _ | _
     · have hc48:c≠48:=by
         intro h
         rw [h] at hb
         exact absurd hb (by decide)
       have HL:=Lib.hid (show (cutz (decDigits d)).length=j + 1 by rw [H.out,cutz_stop hc hc48,List.length_take];omega)
       clear H hc48
       go_wp2
       go_ret2
       rw [HL.out]
       exact ⟨rfl,hC,hcell⟩
     · have hc48:c=48:=by
         rw [beq_iff_eq] at hb
         exact UInt8.toNat_inj.1 (by rw [show (48:UInt8).toNat=48 from rfl];omega)
       rw [hc48] at hc
       have HN:=Lib.hid (H.out.trans (cutz_on hc))
       clear H hc48
       go_wp2
       go_roundw
       case rel=>exact ⟨j,by go_num,by omega,by first | rfl | trivial,HN⟩
       case measure=>simp [RowKit.intOf] <;> omega
end Ft
namespace Ft
open Us
/-- a text that grows, beside a buffer q that holds T -/
structure Ds (B q:Nat) (T:List UInt8) (w0 w:World) (v:Value) (xs:List UInt8):Prop where
 own:w.ownsRow B 5 1 v xs.length (byteCells xs)
 ne:v.ownBlock≠some q
 hq:q < w.heap.size
 buf:∀ j c,T[j]?=some c→w.cell? ⟨q,j,none⟩=some (.int .u8 (c.toNat:Int))
 le:B≤w0.heap.size
 up:w0.heap.size≤w.heap.size
 chg:∀ g,v.ownBlock=some g→B≤g
 pur:Below B w0 w
theorem Ds.alloc {B q:Nat} {T:List UInt8} {w0 w:World} {v:Value} {xs:List UInt8} (h:Ds B q T w0 w v xs) (o:Obj):Ds B q T w0 (w.alloc o) v xs :=
 have p:=(Pur.refl w).alloc o
 ⟨h.own.alloc _,h.ne,Nat.lt_of_lt_of_le h.hq p.size,fun j c hc=>Us.cellp (h.buf j c hc) p,h.le,Nat.le_trans h.up p.size,h.chg,h.pur.alloc (Nat.le_trans h.le h.up) o⟩
section
variable {P:Program}
/-- one append -/
theorem wpList_ds {B q:Nat} {T:List UInt8} {w0 w:World} {v:Value} {xs:List UInt8} {ops:Array Oper} {rest:List Oper} {o:Oper} {a:Act} {Q:Exit→Act→World→Prop} (hgd:o.guard=none) (s x:Operand) (t:TypeId)
   (ho:o.op=.call { callee:=.builtin .append,args:=#[s,x],argTypes:=#[t,t] })
   (i:TypeInfo) (ht:P.underlying t=some (.slice 5)) (hi:P.info? 5=some i) (hz:i.zero=some (.int .u8 0)) (hsize:i.size=1) (hby:i.bytes=1)
   (hs:a.eval s=v) (H:Ds B q T w0 w v xs) (ad:Addr) (m c:Nat) (news:List UInt8) (hx:a.eval x=.slice (some ad) m c) (hl:news.length=m) (hnews:∀ j b,news[j]?=some b→w.cell? (ad.add j)=some (.int .u8 (b.toNat:Int)))
   (hm:0 < m) (hlen:xs.length + m≤1000)
   (h:∀ g cap w',Ds B q T w0 w' (.slice (some ⟨g,0,none⟩) (xs.length + m) cap) (xs ++ news)→wpList P ops Q rest (a.put o.dst (.slice (some ⟨g,0,none⟩) (xs.length + m) cap)) w'):wpList P ops Q (o :: rest) a w:=by
 refine wpList_append_lies w hgd s x t ho B 5 i (.int .u8 0) 1 1 ht hi hz hsize hby rfl (by decide) v xs.length (byteCells xs) hs H.own ad m c (byteCells news) hx (by rw [byteCells_length,hl];omega) ?_ ?_ hm (by unfold maxLen;omega) (by omega) (Nat.le_trans H.le H.up) w.heap.size rfl ?_
 · intro j u hu
   unfold byteCells at hu
   rw [List.getElem?_map] at hu
   obtain ⟨b,hb,rfl⟩:=Option.map_eq_some_iff.1 hu
   exact hnews j b hb
 · exact byteCells_one news
 · intro g cap w' hown hgrow hat hlt
   refine h g cap w' ⟨?_,?_,?_,?_,H.le,?_,?_,?_⟩
   · rw [List.length_append,hl,byteCells_append];exact hown
   · intro e
     simp only [Value.ownBlock,Option.some.injEq] at e
     subst e
     rcases hat with e | e
     · exact H.ne e
     · have:=H.hq;omega
   · exact Nat.lt_of_lt_of_le H.hq hgrow.size
   · intro j b hb
     rw [hgrow.cell_far _ H.hq (fun e=>H.ne e.symm)]
     exact H.buf j b hb
   · exact Nat.le_trans H.up hgrow.size
   · intro g' e
     simp only [Value.ownBlock,Option.some.injEq] at e
     subst e
     rcases hat with e | e
     · exact H.chg _ e
     · have:=H.le;have:=H.up;omega
   · exact H.pur.grown hgrow (Nat.le_trans H.le H.up) (fun k hk=>H.chg k hk)
end
end Ft
namespace Ft
open Us
theorem u8i:(Tryz.prog.info? 5).map (fun i=>(i.zero,i.size,i.bytes))=some (some (.int .u8 0),1,1):=by kernel_rfl
theorem news_at (w:World) (cs:Array Value) (t:TypeId) (news:List UInt8) (h:cs.toList=byteCells news):∀ j b,news[j]?=some b→(w.alloc (.cells cs t)).cell? ((⟨w.heap.size,0,none⟩:Addr).add j)=some (.int .u8 (b.toNat:Int)):=by
 intro j b hj
 rw [add_plain,Nat.zero_add]
 refine bk_cell (bk_new _ _) j _ ?_
 rw [← Array.getElem?_toList,h]
 unfold byteCells
 rw [List.getElem?_map,hj]
 rfl
theorem byte48 {n:Nat} (h:n < 10):(UInt8.ofNat (48 + n)).toNat=48 + n:=by
 rw [UInt8.toNat_ofNat']
 omega
/-- the signs of a power's digits -/
structure Pw (X:Int) (sg:Bool) (e:Nat):Prop where
 sgn:decide (X < 0)=sg
 abs:X.natAbs=e
 val:X=if sg then -(e:Int) else (e:Int)
theorem pw (X:Int):∃ sg e,Pw X sg e:=⟨decide (X < 0),X.natAbs,rfl,rfl,by
 by_cases h:X < 0
 · rw [decide_eq_true h];simp only [if_true];omega
 · rw [decide_eq_false h];simp only [Bool.false_eq_true,if_false];omega⟩
theorem efg_any {B q:Nat} {w0 w:World} {v:Value} (c:UInt8) (R:List UInt8) (dp:Int) (H:Ds B q (c :: R) w0 w v []) (hR:R.length≤20) (hdp:-400≤dp∧dp≤400) :
   Calls Tryz.prog 203 #[v,.bool false,.slice (some ⟨q,0,none⟩) 32 32,.int .i64 dp,.int .i64 ((R.length + 1:Nat):Int),.int .i64 (R.length:Int),.int .u8 101,.bool true] w fun e w'=>∃ v',e=.returned v'∧Ds B q (c :: R) w0 w' v' (sci (c :: R) dp):=by
 obtain ⟨i0,hi,hz0,hz1,hz2⟩:=info_parts u8i
 obtain ⟨sg,e,hpw⟩:=pw (dp - 1)
 have he:e≤401:=by have:=hpw.abs;omega
 have c0:=H.buf 0 c rfl
 obtain ⟨N,hN⟩:∃ N,R.length + 1=N:=⟨_,rfl⟩
 obtain ⟨n,hn⟩:∃ n,R.length=n:=⟨_,rfl⟩
 rw [hN,hn]
 have nz:((N:Int) != 0)=true:=by rw [bne_iff_ne];omega
 have wX:IntKind.i64.wrap (dp - 1)=dp - 1:=IntWalk.i64_in _ (by omega)
 go_enter Tryz.func203,Tryz.ntmps203
 go_wp2_with (at_builtin;refine wpList_ds rfl _ _ 75 rfl i0 Tryz.underlying75 hi hz0 hz1 hz2 (by rfl) (H.alloc _) ⟨_,0,none⟩ 1 1 [c] (by rfl) rfl (news_at _ _ _ _ (by rfl)) (by decide) (by decide) ?_)
 intro g1 k1 w1 D1
 have D1:Ds B q (c :: R) w0 w1 (.slice (some ⟨g1,0,none⟩) 1 k1) [c]:=D1
 go_upto_if 92 with (fail)
 go_cut [0,20,21] from 91 to 119 (fun d _ _ wx=>∃ (g k:Nat) (xs:List UInt8),d=.slice (some ⟨g,0,none⟩) xs.length k∧xs=(c :: R).take 1 ++ (if (c :: R).length≤1 then [] else 46 :: (c :: R).drop 1)∧Ds B q (c :: R) w0 wx (.slice (some ⟨g,0,none⟩) xs.length k) xs)
 case first =>
   rcases Nat.eq_zero_or_pos n with hn0 | hR1
   · have hR0:R=[]:=List.length_eq_zero_iff.1 (by omega)
     subst hn0
     go_wp2
     go_meet
     exact ⟨g1,k1,[c],rfl,by rw [hR0];rfl,D1⟩
   · have hR2:¬ n=0:=by omega
     have hR3:(0:Int) < (n:Int):=by omega
     have wn:IntKind.i64.wrap ((n:Int) + 1)=(N:Int):=by rw [show (n:Int) + 1=(N:Int) by omega];exact IntWalk.i64_in _ (by omega)
     have mN:min (N:Int) (N:Int)=(N:Int):=by omega
     have t1:decide ((1:Int) < (N:Int))=true:=by rw [decide_eq_true_eq];omega
     have s1:(1:Int)≤(N:Int):=by omega
     have s2:(N:Int)≤32:=by omega
     have wz:IntKind.i64.wrap ((N:Int) - (N:Int))=0:=by rw [Int.sub_self];decide
     have hxs:=Lib.hid (show [c] ++ [46] ++ R=(c :: R).take 1 ++ (if (c :: R).length≤1 then [] else 46 :: (c :: R).drop 1) by
       rw [if_neg (by rw [List.length_cons];omega)];simp)
     have hRl:R.length=N - 1:=by omega
     have hN1:2≤N:=by omega
     have hN20:N≤21:=by omega
     clear hN hn
     go_wp2_with (at_builtin;refine wpList_ds rfl _ _ 75 rfl i0 Tryz.underlying75 hi hz0 hz1 hz2 (by rfl) (D1.alloc _) ⟨_,0,none⟩ 1 1 [46] (by rfl) rfl (news_at _ _ _ _ (by rfl)) (by decide) (by simp) ?_)
     intro g2 k2 w2 D2
     have D2:Ds B q (c :: R) w0 w2 (.slice (some ⟨g2,0,none⟩) 2 k2) ([c] ++ [46]):=D2
     have nw:∀ j b,R[j]?=some b→w2.cell? ((⟨q,1,none⟩:Addr).add j)=some (.int .u8 (b.toNat:Int)):=fun j b hj=>by
       rw [add_plain]
       exact D2.buf (1 + j) b (by rw [Nat.add_comm 1 j,List.getElem?_cons_succ];exact hj)
     go_wp2_with (at_builtin;refine wpList_ds rfl _ _ 75 rfl i0 Tryz.underlying75 hi hz0 hz1 hz2 (by rfl) D2 ⟨q,1,none⟩ _ _ R (by rfl) hRl nw (by omega) (by simp only [List.length_append,List.length_cons,List.length_nil];omega) ?_)
     intro g3 k3 w3 D3
     go_wp2
     go_loopw [0,114] (fun d i wr=>d=.slice (some ⟨g3,0,none⟩) (2 + (N - 1)) k3∧i=.int .i64 0∧wr=w3) (fun _ _ _=>0)
     case atStart=>exact ⟨rfl,rfl,by first | rfl | trivial⟩
     case round =>
       obtain ⟨rfl,rfl,rfl⟩:=hrel
       go_wp2
       go_meet
       have hl:([c] ++ [46] ++ R).length=2 + (N - 1):=by rw [List.length_append,hRl];rfl
       refine ⟨g3,k3,[c] ++ [46] ++ R,by rw [hl],hxs.out,?_⟩
       rw [hl]
       exact D3
 case rest =>
   obtain ⟨g,k,xs,rfl,hx0,D⟩:=hcut
   have hxl:xs.length≤24:=by
     rw [hx0]
     split <;> simp <;> omega
   have n0:((N:Int) == 0)=false:=by rw [beq_eq_false_iff_ne];omega
   have hxs:=Lib.hid hx0
   clear D1 H hN hn hx0
   go_wp2_with (at_builtin;refine wpList_ds rfl _ _ 75 rfl i0 Tryz.underlying75 hi hz0 hz1 hz2 (by rfl) (D.alloc _) ⟨_,0,none⟩ 1 1 [101] (by rfl) rfl (news_at _ _ _ _ (by rfl)) (by decide) (by omega) ?_)
   intro g4 k4 w4 D4
   have hfin:∀ (sb:UInt8) (ds:List UInt8),expo (dp - 1)=sb :: ds→xs ++ [101] ++ [sb] ++ ds=sci (c :: R) dp:=fun sb ds h=>by
     unfold sci
     rw [h,← hxs.out]
     simp
   have hexp:expo (dp - 1)=(if dp - 1 < 0 then 45 else 43) :: (if e < 100 then [UInt8.ofNat (48 + e / 10),UInt8.ofNat (48 + e % 10)] else [UInt8.ofNat (48 + e / 100),UInt8.ofNat (48 + e / 10 % 10),UInt8.ofNat (48 + e % 10)]):=by
     unfold expo;rw [hpw.abs]
   have hv:=hpw.val
   have hs:=hpw.sgn
   have e0:(0:Int)≤(e:Int):=by omega
   obtain ⟨t,ht⟩:∃ t,e / 10=t:=⟨_,rfl⟩
   obtain ⟨r,hr⟩:∃ r,e % 10=r:=⟨_,rfl⟩
   obtain ⟨h,hh⟩:∃ h,e / 100=h:=⟨_,rfl⟩
   obtain ⟨r2,hr2⟩:∃ r,t % 10=r:=⟨_,rfl⟩
   have q1:(e:Int).tdiv 10=(t:Int):=by rw [Int.tdiv_eq_ediv_of_nonneg e0];omega
   have q2:(e:Int) / 10=(t:Int):=by omega
   have q3:(e:Int).tmod 10=(r:Int):=by rw [Int.tmod_eq_emod_of_nonneg e0];omega
   have q4:(e:Int) % 10=(r:Int):=by omega
   have q5:(e:Int).tdiv 100=(h:Int):=by rw [Int.tdiv_eq_ediv_of_nonneg e0];omega
   have q6:(e:Int) / 100=(h:Int):=by omega
   have q7:(t:Int).tmod 10=(r2:Int):=by rw [Int.tmod_eq_emod_of_nonneg (by omega)];omega
   have q8:(t:Int) % 10=(r2:Int):=by omega
   have u1:IntKind.u8.wrap (t:Int)=(t:Int):=by rw [IntKind.wrap_u8];omega
   have u2:IntKind.u8.wrap (r:Int)=(r:Int):=by rw [IntKind.wrap_u8];omega
   have u3:IntKind.u8.wrap (h:Int)=(h:Int):=by rw [IntKind.wrap_u8];omega
   have tl:t≤40:=by omega
   have rl:r < 10:=by omega
   have hl:h < 10:=by omega
   have r2l:r2 < 10:=by omega
   obtain ⟨br,hbr⟩:∃ b,UInt8.ofNat (48 + r)=b:=⟨_,rfl⟩
   obtain ⟨bh,hbh⟩:∃ b,UInt8.ofNat (48 + h)=b:=⟨_,rfl⟩
   obtain ⟨br2,hbr2⟩:∃ b,UInt8.ofNat (48 + r2)=b:=⟨_,rfl⟩
   have nr:br.toNat=48 + r:=by rw [← hbr];exact byte48 rl
   have nh:bh.toNat=48 + h:=by rw [← hbh];exact byte48 hl
   have nr2:br2.toNat=48 + r2:=by rw [← hbr2];exact byte48 r2l
   have v1:IntKind.u8.wrap ((r:Int) + 48)=(br.toNat:Int):=by rw [IntKind.wrap_u8];omega
   have v2:IntKind.u8.wrap ((h:Int) + 48)=(bh.toNat:Int):=by rw [IntKind.wrap_u8];omega
   have v3:IntKind.u8.wrap ((r2:Int) + 48)=(br2.toNat:Int):=by rw [IntKind.wrap_u8];omega
   rw [hr,hh,ht] at hexp
   have key:∀ (sb:UInt8),(if dp - 1 < 0 then (45:UInt8) else 43)=sb→Hid (
       (e < 10→xs ++ [101] ++ [sb] ++ [48,br]=sci (c :: R) dp)∧(10≤e→e < 100→∀ bt,UInt8.ofNat (48 + t)=bt→xs ++ [101] ++ [sb] ++ [bt,br]=sci (c :: R) dp)∧(100≤e→xs ++ [101] ++ [sb] ++ [bh,br2,br]=sci (c :: R) dp)):=fun sb hsb=>Lib.hid (by
     rw [hsb,hr2,hbr,hbh,hbr2] at hexp
     refine ⟨fun he=>?_,fun h10 he bt hbt=>?_,fun he=>?_⟩
     · rw [if_pos (by omega)] at hexp
       have:t=0:=by omega
       rw [this] at hexp
       exact hfin sb _ hexp
     · rw [if_pos he,hbt] at hexp
       exact hfin sb _ hexp
     · rw [if_neg (by omega)] at hexp
       exact hfin sb _ hexp)
   cases sg
   · have hX:dp - 1=(e:Int):=by rw [hv];rfl
     have KY:=(key 43 (by rw [if_neg (by omega)])).out
     have sX:decide ((e:Int) < 0)=false:=by rw [decide_eq_false_iff_not];omega
     have sX':¬ (e:Int) < 0:=by omega
     replace wX:=wX.trans hX
     clear key hfin hexp hv hs hpw hdp nr nh nr2 hbr hbh hbr2 ht hr hh hr2
     have D4:Ds B q (c :: R) w0 w4 (.slice (some ⟨g4,0,none⟩) (xs.length + 1) k4) (xs ++ [101]):=D4
     have xl4:(xs ++ [101]).length=xs.length + 1:=by simp
     obtain ⟨x4,hx4⟩:∃ x,xs ++ [101]=x:=⟨_,rfl⟩
     rw [hx4] at D4 xl4
     rw [hx4] at KY
     obtain ⟨K1,K2,K3⟩:=KY
     go_wp2_with (at_builtin;refine wpList_ds rfl _ _ 75 rfl i0 Tryz.underlying75 hi hz0 hz1 hz2 (by rfl) (D4.alloc _) ⟨_,0,none⟩ 1 1 [43] (by rfl) rfl (news_at _ _ _ _ (by rfl)) (by decide) (by omega) ?_)
     intro g5 k5 w5 D5
     have xl5:(x4 ++ [43]).length=xs.length + 1 + 1:=by rw [List.length_append,xl4];rfl
     obtain ⟨x5,hx5⟩:∃ x,x4 ++ [43]=x:=⟨_,rfl⟩
     rw [hx5] at D5 xl5 K1 K2 K3
     have D5:Ds B q (c :: R) w0 w5 (.slice (some ⟨g5,0,none⟩) x5.length k5) x5:=by rw [xl5];exact D5
     rw [← xl5]
     have xl6:x5.length≤30:=by omega
     clear xl4 xl5 hx4 hx5
     by_cases h10:e < 10
     · have d10:decide ((e:Int) < 10)=true:=by rw [decide_eq_true_eq];omega
       have hr0:(e:Int)=(r:Int):=by rw [Int.emod_eq_of_lt e0 (by omega)] at q4;exact q4
       have v0:IntKind.u8.wrap (e:Int)=(r:Int):=by rw [hr0];exact u2
       have HF:=Lib.hid (K1 h10)
       clear K1 K2 K3 q1 q2 q3 q4 q5 q6 q7 q8 hr0
       go_wp2_with (at_builtin;refine wpList_ds rfl _ _ 75 rfl i0 Tryz.underlying75 hi hz0 hz1 hz2 (by rfl) (D5.alloc _) ⟨_,0,none⟩ 2 2 [48,br] (by rfl) rfl (news_at _ _ _ _ (by rfl)) (by decide) (by omega) ?_)
       intro g6 k6 w6 D6
       rw [HF.out] at D6
       go_wp2
       go_ret
       exact ⟨_,rfl,D6⟩
     · have d10:decide ((e:Int) < 10)=false:=by rw [decide_eq_false_iff_not];omega
       by_cases h100:e < 100
       · have d100:decide ((e:Int) < 100)=true:=by rw [decide_eq_true_eq];omega
         obtain ⟨bt,hbt⟩:∃ b,UInt8.ofNat (48 + t)=b:=⟨_,rfl⟩
         have nt:bt.toNat=48 + t:=by rw [← hbt];exact byte48 (by omega)
         have v4:IntKind.u8.wrap ((t:Int) + 48)=(bt.toNat:Int):=by rw [IntKind.wrap_u8];omega
         have HF:=Lib.hid (K2 (by omega) h100 bt hbt)
         clear K1 K2 K3 nt hbt
         go_wp2_with (at_builtin;refine wpList_ds rfl _ _ 75 rfl i0 Tryz.underlying75 hi hz0 hz1 hz2 (by rfl) (D5.alloc _) ⟨_,0,none⟩ 2 2 [bt,br] (by rfl) rfl (news_at _ _ _ _ (by rfl)) (by decide) (by omega) ?_)
         intro g6 k6 w6 D6
         rw [HF.out] at D6
         go_wp2
         go_ret
         exact ⟨_,rfl,D6⟩
       · have d100:decide ((e:Int) < 100)=false:=by rw [decide_eq_false_iff_not];omega
         have HF:=Lib.hid (K3 (by omega))
         clear K1 K2 K3
         go_wp2_with (at_builtin;refine wpList_ds rfl _ _ 75 rfl i0 Tryz.underlying75 hi hz0 hz1 hz2 (by rfl) (D5.alloc _) ⟨_,0,none⟩ 3 3 [bh,br2,br] (by rfl) rfl (news_at _ _ _ _ (by rfl)) (by decide) (by omega) ?_)
         intro g6 k6 w6 D6
         rw [HF.out] at D6
         go_wp2
         go_ret
         exact ⟨_,rfl,D6⟩
   · have hX:dp - 1=-(e:Int):=by rw [hv];rfl
     have KY:=(key 45 (by rw [decide_eq_true_eq] at hs;rw [if_pos hs])).out
     have sX:decide (-(e:Int) < 0)=true:=by rw [← hX];exact hs
     have sX':-(e:Int) < 0:=by rw [decide_eq_true_eq] at sX;exact sX
     have wE:IntKind.i64.wrap (e:Int)=(e:Int):=IntWalk.i64_in _ (by omega)
     have wE2:IntKind.i64.wrap (-(-(e:Int)))=(e:Int):=by rw [Int.neg_neg];exact wE
     replace wX:=wX.trans hX
     clear key hfin hexp hv hs hpw hdp nr nh nr2 hbr hbh hbr2 ht hr hh hr2
     have D4:Ds B q (c :: R) w0 w4 (.slice (some ⟨g4,0,none⟩) (xs.length + 1) k4) (xs ++ [101]):=D4
     have xl4:(xs ++ [101]).length=xs.length + 1:=by simp
     obtain ⟨x4,hx4⟩:∃ x,xs ++ [101]=x:=⟨_,rfl⟩
     rw [hx4] at D4 xl4
     rw [hx4] at KY
     obtain ⟨K1,K2,K3⟩:=KY
     go_wp2_with (at_builtin;refine wpList_ds rfl _ _ 75 rfl i0 Tryz.underlying75 hi hz0 hz1 hz2 (by rfl) (D4.alloc _) ⟨_,0,none⟩ 1 1 [45] (by rfl) rfl (news_at _ _ _ _ (by rfl)) (by decide) (by omega) ?_)
     intro g5 k5 w5 D5
     have xl5:(x4 ++ [45]).length=xs.length + 1 + 1:=by rw [List.length_append,xl4];rfl
     obtain ⟨x5,hx5⟩:∃ x,x4 ++ [45]=x:=⟨_,rfl⟩
     rw [hx5] at D5 xl5 K1 K2 K3
     have D5:Ds B q (c :: R) w0 w5 (.slice (some ⟨g5,0,none⟩) x5.length k5) x5:=by rw [xl5];exact D5
     rw [← xl5]
     have xl6:x5.length≤30:=by omega
     clear xl4 xl5 hx4 hx5
     by_cases h10:e < 10
     · have d10:decide ((e:Int) < 10)=true:=by rw [decide_eq_true_eq];omega
       have hr0:(e:Int)=(r:Int):=by rw [Int.emod_eq_of_lt e0 (by omega)] at q4;exact q4
       have v0:IntKind.u8.wrap (e:Int)=(r:Int):=by rw [hr0];exact u2
       have HF:=Lib.hid (K1 h10)
       clear K1 K2 K3 q1 q2 q3 q4 q5 q6 q7 q8 hr0
       go_wp2_with (at_builtin;refine wpList_ds rfl _ _ 75 rfl i0 Tryz.underlying75 hi hz0 hz1 hz2 (by rfl) (D5.alloc _) ⟨_,0,none⟩ 2 2 [48,br] (by rfl) rfl (news_at _ _ _ _ (by rfl)) (by decide) (by omega) ?_)
       intro g6 k6 w6 D6
       rw [HF.out] at D6
       go_wp2
       go_ret
       exact ⟨_,rfl,D6⟩
     · have d10:decide ((e:Int) < 10)=false:=by rw [decide_eq_false_iff_not];omega
       by_cases h100:e < 100
       · have d100:decide ((e:Int) < 100)=true:=by rw [decide_eq_true_eq];omega
         obtain ⟨bt,hbt⟩:∃ b,UInt8.ofNat (48 + t)=b:=⟨_,rfl⟩
         have nt:bt.toNat=48 + t:=by rw [← hbt];exact byte48 (by omega)
         have v4:IntKind.u8.wrap ((t:Int) + 48)=(bt.toNat:Int):=by rw [IntKind.wrap_u8];omega
         have HF:=Lib.hid (K2 (by omega) h100 bt hbt)
         clear K1 K2 K3 nt hbt
         go_wp2_with (at_builtin;refine wpList_ds rfl _ _ 75 rfl i0 Tryz.underlying75 hi hz0 hz1 hz2 (by rfl) (D5.alloc _) ⟨_,0,none⟩ 2 2 [bt,br] (by rfl) rfl (news_at _ _ _ _ (by rfl)) (by decide) (by omega) ?_)
         intro g6 k6 w6 D6
         rw [HF.out] at D6
         go_wp2
         go_ret
         exact ⟨_,rfl,D6⟩
       · have d100:decide ((e:Int) < 100)=false:=by rw [decide_eq_false_iff_not];omega
         have HF:=Lib.hid (K3 (by omega))
         clear K1 K2 K3
         go_wp2_with (at_builtin;refine wpList_ds rfl _ _ 75 rfl i0 Tryz.underlying75 hi hz0 hz1 hz2 (by rfl) (D5.alloc _) ⟨_,0,none⟩ 3 3 [bh,br2,br] (by rfl) rfl (news_at _ _ _ _ (by rfl)) (by decide) (by omega) ?_)
         intro g6 k6 w6 D6
         rw [HF.out] at D6
         go_wp2
         go_ret
         exact ⟨_,rfl,D6⟩
end Ft
namespace Ft
open Us
def exO (b:Nat):Nat:=b / 4503599627370496
/-- the mantissa with the bit that is not written -/
def maO (b:Nat):Nat:=if exO b=0 then b % 4503599627370496 else b % 4503599627370496 + 4503599627370496
def shO (b:Nat):Nat:=64 - Lib.bitLen (maO b)
def mO (b:Nat):Nat:=maO b * 2 ^ shO b
def EO (b:Nat):Int:=(if exO b=0 then 1 else (exO b:Int)) - 1023 - (shO b:Int) - 52
theorem bitLen_eq {d k:Nat} (h0:2 ^ k≤d) (h1:d < 2 ^ (k + 1)) (h2:d < 18446744073709551616):Lib.bitLen d=k + 1:=by
 have hd:d≠0:=by have:=Nat.pow_pos (n:=k) (show 0 < 2 by decide);omega
 obtain ⟨b1,b2,b3⟩:=Lib.bitLenAux_bounds 64 d h2 hd
 have b2':2 ^ (Lib.bitLen d - 1)≤d:=b2
 have b3':d < 2 ^ Lib.bitLen d:=b3
 have b1':1≤Lib.bitLen d:=b1
 have g1:k < Lib.bitLen d:=(Nat.pow_lt_pow_iff_right (show 1 < 2 by decide)).1 (Nat.lt_of_le_of_lt h0 b3')
 have g2:Lib.bitLen d - 1 < k + 1:=(Nat.pow_lt_pow_iff_right (show 1 < 2 by decide)).1 (Nat.lt_of_le_of_lt b2' h1)
 omega
theorem maO_pos {b:Nat} (h:0 < b):0 < maO b:=by
 unfold maO exO
 split <;> omega
theorem maO_lt (b:Nat):maO b < 9007199254740992:=by
 unfold maO
 split <;> omega
/-- the mantissa's high bit set -/
theorem v_of {b:Nat} (h0:0 < b) (h1:b < 9218868437227405312):V (mO b) (EO b)∧1≤Lib.bitLen (maO b)∧Lib.bitLen (maO b)≤53:=by
 have hp:=maO_pos h0
 have hl:=maO_lt b
 obtain ⟨b1,b2,b3⟩:=Lib.bitLenAux_bounds 64 (maO b) (by omega) (by omega)
 have b2':2 ^ (Lib.bitLen (maO b) - 1)≤maO b:=b2
 have b3':maO b < 2 ^ Lib.bitLen (maO b):=b3
 have b1':1≤Lib.bitLen (maO b):=b1
 have h53:Lib.bitLen (maO b)≤53:=by
   have:Lib.bitLen (maO b) - 1 < 53:=(Nat.pow_lt_pow_iff_right (show 1 < 2 by decide)).1 (Nat.lt_of_le_of_lt b2' (show maO b < 2 ^ 53 from hl))
   omega
 obtain ⟨L,hL⟩:∃ L,Lib.bitLen (maO b)=L + 1:=⟨Lib.bitLen (maO b) - 1,by omega⟩
 have hs:shO b=63 - L:=by unfold shO;rw [hL];omega
 rw [hL] at b2' b3' h53
 rw [Nat.add_sub_cancel] at b2'
 have hm0:9223372036854775808≤mO b:=by
   unfold mO
   rw [hs]
   have:=Nat.mul_le_mul_right (2 ^ (63 - L)) b2'
   rw [← Nat.pow_add,show L + (63 - L)=63 by omega] at this
   exact this
 have hm1:mO b < 18446744073709551616:=by
   unfold mO
   rw [hs]
   have:=Nat.mul_lt_mul_of_pos_right b3' (Nat.pow_pos (n:=63 - L) (show 0 < 2 by decide))
   rw [← Nat.pow_add,show L + 1 + (63 - L)=64 by omega] at this
   exact this
 have hz:zO (EO b)=shO b∧-1137≤EO b∧EO b≤960:=by
   unfold EO
   by_cases g:exO b=0
   · rw [if_pos g]
     have hlt:maO b < 4503599627370496:=by unfold maO;rw [if_pos g];omega
     have hL52:L < 52:=(Nat.pow_lt_pow_iff_right (show 1 < 2 by decide)).1 (Nat.lt_of_le_of_lt b2' (show maO b < 2 ^ 52 from hlt))
     rw [hs]
     unfold zO
     rw [if_neg (by omega)]
     omega
   · rw [if_neg g]
     have hge:4503599627370496≤maO b:=by unfold maO;rw [if_neg g];omega
     have hL52:Lib.bitLen (maO b)=52 + 1:=bitLen_eq (show 2 ^ 52≤maO b from hge) (show maO b < 2 ^ 53 from hl) (by omega)
     have:L=52:=by omega
     subst this
     have hex:exO b≤2046:=by unfold exO;omega
     have hex1:1≤exO b:=by omega
     rw [hs]
     unfold zO
     rw [if_pos (by omega)]
     omega
 refine ⟨⟨hm0,hm1,hz.2.1,hz.2.2,?_⟩,by omega,by omega⟩
 rw [hz.1]
 unfold mO
 exact Nat.mul_mod_left _ _
theorem dec_head {u:Nat} (h:1≤u):∃ c t,decDigits u=c :: t∧c≠48:=by
 induction u using Nat.strongRecOn with
 | _ u ih =>
   by_cases g:u < 10
   · refine ⟨UInt8.ofNat (48 + u),[],by rw [decDigits,dif_pos g],fun e=>?_⟩
     have:=congrArg UInt8.toNat e
     rw [byte48 g,show (48:UInt8).toNat=48 from rfl] at this
     omega
   · obtain ⟨c,t,h1,h2⟩:=ih (u / 10) (by omega) (by omega)
     refine ⟨c,t ++ [UInt8.ofNat (48 + u % 10)],?_,h2⟩
     rw [decDigits,dif_neg g,h1]
     rfl
theorem cutz_take (l:List UInt8):cutz l=l.take (cutz l).length:=by
 unfold cutz
 have h:l.reverse.dropWhile (· == 48) <:+ l.reverse:=List.dropWhile_suffix _
 obtain ⟨p,hp⟩:=h
 have hr:l=(l.reverse.dropWhile (· == 48)).reverse ++ p.reverse:=by rw [← List.reverse_append,hp,List.reverse_reverse]
 generalize (l.reverse.dropWhile (· == 48)).reverse=x at *
 rw [hr,List.take_left]
theorem dw_ne:∀ (l:List UInt8),(∃ x∈l,x≠48)→l.dropWhile (· == 48)≠[]
 | [],h=>by obtain ⟨x,hx,-⟩:=h;cases hx
 | y :: r,h=>by
   rw [List.dropWhile_cons]
   by_cases g:(y == 48)=true
   · rw [if_pos g]
     obtain ⟨x,hx,hn⟩:=h
     rcases List.mem_cons.1 hx with e | e
     · rw [e] at hn
       exact absurd (by simpa using g) hn
     · exact dw_ne r ⟨x,e,hn⟩
   · rw [if_neg g]
     exact List.cons_ne_nil _ _
theorem cutz_head {c:UInt8} {t:List UInt8} (h:c≠48):∃ R,cutz (c :: t)=c :: R:=by
 have h1:cutz (c :: t)≠[]:=by
   unfold cutz
   rw [Ne,List.reverse_eq_nil_iff]
   exact dw_ne _ ⟨c,by simp,h⟩
 have h2:=cutz_take (c :: t)
 cases hx:cutz (c :: t) with
 | nil=>exact absurd hx h1
 | cons d R =>
   rw [hx,List.length_cons,List.take_succ_cons] at h2
   simp only [List.cons.injEq] at h2
   exact ⟨R,by rw [h2.1]⟩
/-- a number's digits, the last of them no nought -/
def dgT (d:Nat):List UInt8:=cutz (decDigits d)
theorem dgT_form {d:Nat} (h:1≤d):∃ c R,dgT d=c :: R∧c≠48∧R.length + 1≤nDigits d:=by
 obtain ⟨c,t,h1,h2⟩:=dec_head h
 obtain ⟨R,hR⟩:=cutz_head (t:=t) h2
 refine ⟨c,R,by unfold dgT;rw [h1,hR],h2,?_⟩
 have e:=cutz_take (decDigits d)
 rw [h1,hR] at e
 have:=congrArg List.length e
 rw [List.length_take] at this
 rw [← decDigits_length,h1]
 simp only [List.length_cons] at this ⊢
 omega
end Ft
end Go.Proofs.YtgdolcoiihagfaaGreatDoor
