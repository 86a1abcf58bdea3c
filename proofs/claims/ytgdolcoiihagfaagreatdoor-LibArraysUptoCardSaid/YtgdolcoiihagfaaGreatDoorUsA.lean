/- The library's scaling of a number by a power of ten: the small parts. The library's scaling of a number by a power of ten. The library's reading of a decimal number by scaling. -/
import Derived.Test.YtgdolcoiihagfaaGreatDoorBase
import Derived.Test.YtgdolcoiihagfaaGreatDoorShelf
import Derived.Test.YtgdolcoiihagfaaGreatDoorTbE
import Derived.Laws.BitsAllLaws
import Derived.Laws.ShiftsVarLaws
import Derived.Lib.Hide
import Derived.Deep.RegionHeld
import Derived.LaidEqlPtr
namespace Go.Proofs.YtgdolcoiihagfaaGreatDoor
open Go Go.RowKit
set_option linter.all false
set_option maxRecDepth 100000
set_option maxHeartbeats 100000000
namespace Us
def b2 (b:Bool):Nat:=if b then 1 else 0
theorem bool2_any (b:Bool) (w:World):Calls Tryz.prog 230 #[.bool b] w fun e w'=>e=.returned (.int .u64 (b2 b:Int))∧w=w':=by
 cases b
 all_goals
   go_enter Tryz.func230,Tryz.ntmps230
   go_wp2
   go_ret
   exact ⟨rfl,rfl⟩
theorem bool2i_any (b:Bool) (w:World):Calls Tryz.prog 218 #[.bool b] w fun e w'=>e=.returned (.int .i64 (b2 b:Int))∧w=w':=by
 cases b
 all_goals
   go_enter Tryz.func218,Tryz.ntmps218
   go_wp2
   go_ret
   exact ⟨rfl,rfl⟩
/-- the binary logarithm of 10^p, cut -/
def lg (p:Int):Int:=p * 108853 / 32768
theorem log2_any (p:Int) (w:World) (h0:-1000000≤p) (h1:p≤1000000):Calls Tryz.prog 240 #[.int .i64 p] w fun e w'=>e=.returned (.int .i64 (lg p))∧w=w':=by
 have w1:IntKind.i64.wrap (p * 108853)=p * 108853:=IntWalk.i64_in _ (by omega)
 go_enter Tryz.func240,Tryz.ntmps240
 go_wp2
 go_ret
 exact ⟨rfl,rfl⟩
/-- the least unrounded number that is rounded to x -/
def unm (x:Nat):Nat:=x * 4 - 2
theorem unmin_any (x:Nat) (w:World) (h0:1≤x) (h1:x < 4611686018427387904):Calls Tryz.prog 246 #[.int .u64 (x:Int)] w fun e w'=>e=.returned (.int .u64 (unm x:Int))∧w=w':=by
 have w1:IntKind.u64.wrap ((x:Int) * 4)=(x:Int) * 4:=IntWalk.u64_in _ (by omega)
 have w2:IntKind.u64.wrap ((x:Int) * 4 - 2)=(x:Int) * 4 - 2:=IntWalk.u64_in _ (by omega)
 have hv:=Lib.hid (show (unm x:Int)=(x:Int) * 4 - 2 by unfold unm;omega)
 clear h0 h1
 go_enter Tryz.func246,Tryz.ntmps246
 go_wp2
 go_ret
 rw [hv.out]
 exact ⟨rfl,rfl⟩
/-- rounded to the nearest, to the even one of two -/
def rnd (u:Nat):Nat:=((u + 1) % 18446744073709551616 + u / 4 % 2) % 18446744073709551616 / 4
theorem round_any (u:Nat) (w:World) (h:u < 18446744073709551616):Calls Tryz.prog 245 #[.int .u64 (u:Int)] w fun e w'=>e=.returned (.int .u64 (rnd u:Int))∧w=w':=by
 obtain ⟨v,hv⟩:∃ v,(u + 1) % 18446744073709551616=v:=⟨_,rfl⟩
 have w1:IntKind.u64.wrap ((u:Int) + 1)=(v:Int):=by rw [IntKind.wrap_u64];omega
 obtain ⟨q,hq⟩:∃ q,u / 4=q:=⟨_,rfl⟩
 have e1:(u:Int) / 4=(q:Int):=by omega
 have b1:bits .and .u64 (q:Int) 1=((q % 2:Nat):Int):=by
   have:=u64_and_nat q 1 (by omega) (by decide)
   rw [show ((1:Nat):Int)=1 from rfl] at this
   rw [this,show (q &&& 1)=q % 2 from Nat.and_two_pow_sub_one_eq_mod q 1]
 obtain ⟨r,hr⟩:∃ r,q % 2=r:=⟨_,rfl⟩
 rw [hr] at b1
 obtain ⟨x,hx⟩:∃ x,(v + r) % 18446744073709551616=x:=⟨_,rfl⟩
 have w2:IntKind.u64.wrap ((v:Int) + (r:Int))=(x:Int):=by rw [IntKind.wrap_u64];omega
 have hR:=Lib.hid (show (rnd u:Int)=(x:Int) / 4 by unfold rnd;rw [hv,hq,hr,hx];omega)
 clear h hq hr hv hx
 go_enter Tryz.func245,Tryz.ntmps245
 go_wp2
 go_ret
 rw [hR.out]
 exact ⟨rfl,rfl⟩
theorem rnd_lt (u:Nat):rnd u < 4611686018427387904:=by unfold rnd;omega
end Us
namespace Us
/-- the table of the powers of ten, as the library lays it -/
structure PT (Hi Lo:Nat→Nat) (w:World):Prop where
 hi:∀ k,k < 696→w.cell? ⟨17,k * 2,none⟩=some (.int .u64 (Hi k:Int))∧Hi k < 18446744073709551616
 lo:∀ k,k < 696→w.cell? ⟨17,k * 2 + 1,none⟩=some (.int .u64 (Lo k:Int))∧Lo k < 18446744073709551616
theorem cellp {w w':World} {a:Addr} {v:Value} (h:w.cell? a=some v) (hp:Pur w w'):w'.cell? a=some v:=(hp.cell (World.block_lt_of_cell? w a h)).trans h
theorem PT.pur {Hi Lo:Nat→Nat} {w w':World} (h:PT Hi Lo w) (hp:Pur w w'):PT Hi Lo w' :=
 ⟨fun k hk=>⟨cellp (h.hi k hk).1 hp,(h.hi k hk).2⟩,fun k hk=>⟨cellp (h.lo k hk).1 hp,(h.lo k hk).2⟩⟩
/-- what a scaler holds -/
def Scl (w:World) (q:Nat) (a b:Nat) (s:Int):Prop:=w.heap[q]?=some (.cells #[.int .u64 (a:Int),.int .u64 (b:Int),.int .i64 s] 271 (0,0))
theorem prescale_any {Hi Lo:Nat→Nat} {w:World} {q k a b:Nat} {s e p lp:Int} (hT:PT Hi Lo w) (hq:Scl w q a b s) (hqn:17≠q) (hk:p + 348=(k:Int)) (hk2:k < 696)
   (he:-100000≤e∧e≤100000) (hlp:-100000≤lp∧lp≤100000) :
   Calls Tryz.prog 239 #[.pointer (some ⟨q,0,none⟩),.int .i64 e,.int .i64 p,.int .i64 lp] w fun e' w'=>e'=.returned (.tuple #[])∧Scl w' q (Hi k) (Lo k) (-(e + lp + 3))∧Chg [q] w w':=by
 have c0:=(hT.hi k hk2).1
 have c1:=(hT.lo k hk2).1
 have z0:=bk_cell hq 0 _ rfl
 have f0:=bk_free hq 0
 have K1:=bk_set hq 0 (.int .u64 (Hi k:Int))
 have K2:=bk_set K1 1 (.int .u64 (Lo k:Int))
 have K3:=bk_set K2 2 (.int .i64 (-(e + lp + 3)))
 have z1:=bk_cell K1 1 _ rfl
 have f1:=bk_free K1 1
 have z2:=bk_cell K2 2 _ rfl
 have f2:=bk_free K2 2
 have c1':(w.setCell ⟨q,0,none⟩ (.int .u64 (Hi k:Int))).cell? ⟨17,k * 2 + 1,none⟩=some (.int .u64 (Lo k:Int)):=by
   rw [World.cell?_setCell_far _ _ _ _ (by simpa using Ne.symm hqn)];exact c1
 have wk:IntKind.i64.wrap (p + 348)=(k:Int):=by rw [hk];exact IntWalk.i64_in _ (by omega)
 have k0:(0:Int)≤(k:Int):=by omega
 have kl:(k:Int) < 696:=by omega
 have w1:IntKind.i64.wrap (e + lp)=e + lp:=IntWalk.i64_in _ (by omega)
 have w2:IntKind.i64.wrap (e + lp + 3)=e + lp + 3:=IntWalk.i64_in _ (by omega)
 have w3:IntKind.i64.wrap (-(e + lp + 3))=-(e + lp + 3):=IntWalk.i64_in _ (by omega)
 clear hk hT hq
 go_enter Tryz.func239,Tryz.ntmps239
 go_wp2
 refine bodyPost_end (results_none rfl _ _ _) rfl ⟨rfl,K3,?_⟩
 exact (((Chg.refl [q] w).setCell (a:=⟨q,0,none⟩) (.inl (by simp)) _).setCell (a:=⟨q,1,none⟩) (.inl (by simp)) _).setCell (a:=⟨q,2,none⟩) (.inl (by simp)) _
/-- the unrounded product x * (A * 2^64 - B) / 2^(s + 64), cut -/
def usc (x A B s:Nat):Nat :=
 if x * A / 18446744073709551616 / 2 ^ s * 2 ^ s≠x * A / 18446744073709551616 then x * A / 18446744073709551616 / 2 ^ s ||| 1
 else (x * A / 18446744073709551616 + 18446744073709551616 - b2 (decide (x * A % 18446744073709551616 < x * B / 18446744073709551616))) % 18446744073709551616 / 2 ^ s |||
   b2 (decide (1 < (x * A % 18446744073709551616 + 18446744073709551616 - x * B / 18446744073709551616) % 18446744073709551616))
theorem uscale_any {w:World} {q x A B s:Nat} {t:Int} (hq:Scl w q A B t) (hx:x < 18446744073709551616) (hA:A < 18446744073709551616) (hB:B < 18446744073709551616) (hs:bits .and .i64 t 63=(s:Int)) (hs2:s < 64) :
   Calls Tryz.prog 241 #[.int .u64 (x:Int),.pointer (some ⟨q,0,none⟩)] w fun e w'=>e=.returned (.int .u64 (usc x A B s:Int))∧Pur w w':=by
 have M1:=Tryz.bits_Mul64 x A hx hA w
 have M2:=Tryz.bits_Mul64 x B hx hB w
 obtain ⟨hi,hhi⟩:∃ hi,x * A / 18446744073709551616=hi:=⟨_,rfl⟩
 obtain ⟨mid,hmid⟩:∃ mid,x * A % 18446744073709551616=mid:=⟨_,rfl⟩
 obtain ⟨m2,hm2⟩:∃ m2,x * B / 18446744073709551616=m2:=⟨_,rfl⟩
 obtain ⟨m3,hm3⟩:∃ m3,x * B % 18446744073709551616=m3:=⟨_,rfl⟩
 rw [hhi,hmid] at M1
 rw [hm2,hm3] at M2
 have z0:=bk_cell hq 0 _ rfl
 have z1:=bk_cell hq 1 _ rfl
 have z2:=bk_cell hq 2 _ rfl
 have hU:=Lib.hid (show usc x A B s=if hi / 2 ^ s * 2 ^ s≠hi then hi / 2 ^ s ||| 1 else (hi + 18446744073709551616 - b2 (decide (mid < m2))) % 18446744073709551616 / 2 ^ s ||| b2 (decide (1 < (mid + 18446744073709551616 - m2) % 18446744073709551616)) by
   unfold usc;rw [hhi,hmid,hm2])
 have BO:=fun b w=>bool2_any b w
 have hil:hi < 18446744073709551616:=by rw [← hhi];exact Nat.div_lt_of_lt_mul (Nat.lt_of_lt_of_le (Nat.mul_lt_mul'' hx hA) (by decide))
 have midl:mid < 18446744073709551616:=by rw [← hmid];exact Nat.mod_lt _ (by decide)
 have m2l:m2 < 18446744073709551616:=by rw [← hm2];exact Nat.div_lt_of_lt_mul (Nat.lt_of_lt_of_le (Nat.mul_lt_mul'' hx hB) (by decide))
 have cdiv:∀ n:Nat,((n / 2 ^ s:Nat):Int)=(n:Int) / 2 ^ s:=fun n=>by rw [Int.natCast_ediv,Int.natCast_pow];rfl
 have cmul:((hi / 2 ^ s * 2 ^ s:Nat):Int)=(hi:Int) / 2 ^ s * 2 ^ s:=by rw [Int.natCast_mul,cdiv,Int.natCast_pow];rfl
 have hle:hi / 2 ^ s * 2 ^ s≤hi:=Nat.div_mul_le_self _ _
 have wv:IntKind.u64.wrap ((hi:Int) / 2 ^ s * 2 ^ s)=(hi:Int) / 2 ^ s * 2 ^ s:=by rw [← cmul];exact IntWalk.u64_in _ (by omega)
 have dle:∀ n:Nat,n / 2 ^ s≤n:=fun n=>Nat.div_le_self _ _
 clear hq hhi hmid hm2 hm3
 by_cases hne:hi / 2 ^ s * 2 ^ s≠hi
 · have t1:(IntKind.u64.wrap ((hi:Int) / 2 ^ s * 2 ^ s) != (hi:Int))=true:=by rw [wv,← cmul,bne_iff_ne];omega
   have b1:bits .or .u64 ((hi:Int) / 2 ^ s) 1=((hi / 2 ^ s ||| 1:Nat):Int):=by
     rw [← cdiv]
     exact u64_or_nat (hi / 2 ^ s) 1 (by have:=dle hi;omega) (by decide)
   have hV:=Lib.hid (show usc x A B s=hi / 2 ^ s ||| 1 by rw [hU.out,if_pos hne])
   clear hU wv hne cmul cdiv dle hle M2 hx hA hB hil midl m2l
   go_enter Tryz.func241,Tryz.ntmps241
   go_wp2_with fail
   refine M1.mono ?_
   rintro e w1 ⟨rfl,rfl⟩
   go_wp2
   go_ret
   rw [hV.out]
   exact ⟨rfl,Pur.refl _⟩
 · have t1:(IntKind.u64.wrap ((hi:Int) / 2 ^ s * 2 ^ s) != (hi:Int))=false:=by rw [wv,← cmul,bne_eq_false_iff_eq];omega
   have hV:=Lib.hid (show usc x A B s=(hi + 18446744073709551616 - b2 (decide (mid < m2))) % 18446744073709551616 / 2 ^ s ||| b2 (decide (1 < (mid + 18446744073709551616 - m2) % 18446744073709551616)) by rw [hU.out,if_neg hne])
   have b2l:∀ b,b2 b≤1:=fun b=>by cases b <;> decide
   have B1:=fun w=>BO (decide (mid < m2)) w
   have l1:=b2l (decide (mid < m2))
   generalize b2 (decide (mid < m2))=y1 at *
   obtain ⟨h2,hh2⟩:∃ h2,(hi + 18446744073709551616 - y1) % 18446744073709551616=h2:=⟨_,rfl⟩
   have h2l:h2 < 18446744073709551616:=by rw [← hh2];exact Nat.mod_lt _ (by decide)
   have wh:IntKind.u64.wrap ((hi:Int) - (y1:Int))=(h2:Int):=by rw [IntKind.wrap_u64];omega
   obtain ⟨d,hd⟩:∃ d,(mid + 18446744073709551616 - m2) % 18446744073709551616=d:=⟨_,rfl⟩
   have wd:IntKind.u64.wrap ((mid:Int) - (m2:Int))=(d:Int):=by rw [IntKind.wrap_u64];omega
   rw [hh2,hd] at hV
   have B2:=fun w=>BO (decide (1 < d)) w
   have B3:∀ w,Calls Tryz.prog 230 #[.bool (decide ((1:Int) < (d:Int)))] w fun e w'=>e=.returned (.int .u64 (b2 (decide (1 < d)):Int))∧w=w':=fun w=>by
     rw [show decide ((1:Int) < (d:Int))=decide (1 < d) by rw [decide_eq_decide];omega];exact BO _ w
   have l2:=b2l (decide (1 < d))
   have b1:bits .or .u64 ((h2:Int) / 2 ^ s) (b2 (decide (1 < d)):Int)=((h2 / 2 ^ s ||| b2 (decide (1 < d)):Nat):Int):=by
     rw [← cdiv]
     exact u64_or_nat (h2 / 2 ^ s) (b2 (decide (1 < d))) (by have:=dle h2;omega) (by omega)
   generalize b2 (decide (1 < d))=y2 at *
   clear hU wv hne cmul cdiv dle hle hx hA hB hil midl m2l BO hd hh2 h2l l1 l2 b2l
   go_enter Tryz.func241,Tryz.ntmps241
   go_wp2_with fail
   refine M1.mono ?_
   rintro e w1 ⟨rfl,rfl⟩
   go_wp2_with fail
   refine M2.mono ?_
   rintro e w1 ⟨rfl,rfl⟩
   go_wp2_with fail
   refine (B1 _).mono ?_
   rintro e w1 ⟨rfl,rfl⟩
   go_wp2
   refine wp_region_pur (by kernel_rfl) (by kernel_rfl) ?_
   repeat (go_big_quiet_step (((go_at_call 230;first | with_reducible exact quiet_eq (B2 _) | with_reducible exact quiet_eq (B3 _)))))
   refine wpQuiet_nil ?_
   intro wq hq
   go_wp2
   go_ret
   rw [hV.out]
   exact ⟨rfl,hq⟩
end Us
namespace Us
/-- what a number's error is: none, or 'out of range' -/
def errV (b:Bool):Value:=if b then .iface 185 (.int .i64 1) else .nilIface
/-- a number of 53 bits and its power, packed -/
def pk (m:Nat) (e:Int):Nat × Bool :=
 if m &&& 4503599627370496=0 then (m,false)
 else if 972≤e then ((m &&& 9223372036854775808) ||| 9218868437227405312,true)
 else ((bits .or .u64 (bits .andNot .u64 (m:Int) 4503599627370496) ((1075 + e) * 4503599627370496)).toNat,false)
theorem pack_any (m:Nat) (e:Int) (w:World) (hm:m < 18446744073709551616) (h0:-1075≤e) (h1:e≤100000) :
   Calls Tryz.prog 262 #[.int .u64 (m:Int),.int .i64 e] w fun e' w'=>e'=.returned (.tuple #[.float .f64 (pk m e).1,errV (pk m e).2])∧w=w':=by
 have h6:=@run_callFunc_extern Tryz.prog 231 _ Go.Extern.MathFloatBits.float64frombits Tryz.func231 (by kernel_rfl) (by kernel_rfl) (by kernel_rfl) (by kernel_rfl)
 have fb:∀ (n:Int) (w:World),(Go.Extern.MathFloatBits.float64frombits #[.int .u64 n]).run Tryz.prog w=.ok (.float .f64 n.toNat) w:=fun n w=>rfl
 have b1:bits .and .u64 (m:Int) 4503599627370496=((m &&& 4503599627370496:Nat):Int):=u64_and_nat m 4503599627370496 hm (by decide)
 have b2:bits .and .u64 (m:Int) 9223372036854775808=((m &&& 9223372036854775808:Nat):Int):=u64_and_nat m 9223372036854775808 hm (by decide)
 have hP:pk m e=if m &&& 4503599627370496=0 then (m,false) else if 972≤e then ((m &&& 9223372036854775808) ||| 9218868437227405312,true) else ((bits .or .u64 (bits .andNot .u64 (m:Int) 4503599627370496) ((1075 + e) * 4503599627370496)).toNat,false):=rfl
 by_cases g1:m &&& 4503599627370496=0
 · have HP:=Lib.hid (show pk m e=(m,false) by rw [hP,if_pos g1])
   have d1:(((m &&& 4503599627370496:Nat):Int) == 0)=true:=by rw [g1];rfl
   clear hP g1 b2 hm
   go_enter Tryz.func262,Tryz.ntmps262
   go_wp2
   go_ret2
   rw [HP.out]
   exact ⟨rfl,rfl⟩
 · have d1:(((m &&& 4503599627370496:Nat):Int) == 0)=false:=by rw [beq_eq_false_iff_ne];omega
   by_cases g2:972≤e
   · have HP:=Lib.hid (show pk m e=((m &&& 9223372036854775808) ||| 9218868437227405312,true) by rw [hP,if_neg g1,if_pos g2])
     have b3:bits .or .u64 ((m &&& 9223372036854775808:Nat):Int) 9218868437227405312=(((m &&& 9223372036854775808) ||| 9218868437227405312:Nat):Int) :=
       u64_or_nat (m &&& 9223372036854775808) 9218868437227405312 (Nat.lt_of_le_of_lt Nat.and_le_left hm) (by decide)
     clear hP g1 hm
     go_enter Tryz.func262,Tryz.ntmps262
     go_wp2
     go_ret2
     rw [HP.out]
     exact ⟨rfl,rfl⟩
   · have g2':¬ (972:Int)≤e:=g2
     have HP:=Lib.hid (show pk m e=((bits .or .u64 (bits .andNot .u64 (m:Int) 4503599627370496) ((1075 + e) * 4503599627370496)).toNat,false) by rw [hP,if_neg g1,if_neg g2])
     have w1:IntKind.i64.wrap (1075 + e)=1075 + e:=IntWalk.i64_in _ (by omega)
     have w2:IntKind.u64.wrap (1075 + e)=1075 + e:=IntWalk.u64_in _ (by omega)
     clear hP g1 b2 hm
     go_enter Tryz.func262,Tryz.ntmps262
     go_wp2
     go_ret2
     rw [HP.out]
     exact ⟨rfl,rfl⟩
/-- what is read of d * 10^p: the bits, and whether it is out of range -/
def expo (d:Nat) (p:Int):Int:=min 1074 (53 - (Lib.bitLen d:Int) - lg p)
def scl (d:Nat) (p:Int):Int:=-(expo d p - (64 - (Lib.bitLen d:Int)) + lg p + 3)
def unr (Hi Lo:Nat→Nat) (d:Nat) (p:Int):Nat:=usc (d * 2 ^ (64 - Lib.bitLen d)) (Hi (p + 348).toNat) (Lo (p + 348).toNat) (scl d p).toNat
def half (u:Nat):Nat:=if 36028797018963966≤u then u / 2 ||| u % 2 else u ||| u % 2
def rd (Hi Lo:Nat→Nat) (d:Nat) (p:Int):Nat × Bool :=
 if 64≤scl d p then (0,false)
 else pk (rnd (half (unr Hi Lo d p))) (-(expo d p - (b2 (decide (36028797018963966≤unr Hi Lo d p)):Int)))
theorem usc_lt (x A B s:Nat) (hx:x < 18446744073709551616) (hA:A < 18446744073709551616) (hB:B < 18446744073709551616):usc x A B s < 18446744073709551616:=by
 have hil:x * A / 18446744073709551616 < 18446744073709551616:=Nat.div_lt_of_lt_mul (Nat.lt_of_lt_of_le (Nat.mul_lt_mul'' hx hA) (by decide))
 have b2l:∀ b,b2 b < 2 ^ 64:=fun b=>by cases b <;> decide
 unfold usc
 split
 · exact Nat.or_lt_two_pow (n:=64) (Nat.lt_of_le_of_lt (Nat.div_le_self _ _) hil) (by decide)
 · exact Nat.or_lt_two_pow (n:=64) (Nat.lt_of_le_of_lt (Nat.div_le_self _ _) (Nat.mod_lt _ (by decide))) (b2l _)
theorem parse_any {Hi Lo:Nat→Nat} {w:World} (d:Nat) (p:Int) (hT:PT Hi Lo w) (hg:17 < w.heap.size) (hd0:0 < d) (hd:d < 18446744073709551616) (hp0:-345≤p) (hp1:p≤310) :
   Calls Tryz.prog 233 #[.int .u64 (d:Int),.int .i64 p,.int .u64 0] w fun e w'=>e=.returned (.tuple #[.float .f64 (rd Hi Lo d p).1,errV (rd Hi Lo d p).2])∧Pur w w':=by
 have h6:=@run_callFunc_extern Tryz.prog 231 _ Go.Extern.MathFloatBits.float64frombits Tryz.func231 (by kernel_rfl) (by kernel_rfl) (by kernel_rfl) (by kernel_rfl)
 have fb:∀ (n:Int) (w:World),(Go.Extern.MathFloatBits.float64frombits #[.int .u64 n]).run Tryz.prog w=.ok (.float .f64 n.toNat) w:=fun n w=>rfl
 have BL:=Tryz.bits_Len64 (d:Int) w (by omega) (by omega)
 rw [Int.toNat_natCast] at BL
 have LG:=log2_any p w (by omega) (by omega)
 have hlg:-1147≤lg p∧lg p≤1030:=by unfold lg;omega
 have hbl:1≤Lib.bitLen d∧Lib.bitLen d≤64∧d * 2 ^ (64 - Lib.bitLen d) < 18446744073709551616:=by
   obtain ⟨h1,h2,h3⟩:=Lib.bitLenAux_bounds 64 d hd (by omega)
   have hle:Lib.bitLen d≤64:=by
     rcases Nat.lt_or_ge 64 (Lib.bitLen d) with h | h
     · have:2 ^ 64≤2 ^ (Lib.bitLen d - 1):=Nat.pow_le_pow_right (by decide) (by omega)
       have h2':2 ^ (Lib.bitLen d - 1)≤d:=h2
       omega
     · exact h
   refine ⟨h1,hle,?_⟩
   have h3':d < 2 ^ Lib.bitLen d:=h3
   have h4:d * 2 ^ (64 - Lib.bitLen d) < 2 ^ Lib.bitLen d * 2 ^ (64 - Lib.bitLen d):=Nat.mul_lt_mul_of_pos_right h3' (Nat.pow_pos (by decide))
   rw [← Nat.pow_add,Nat.add_sub_cancel' hle] at h4
   exact h4
 obtain ⟨bl,hb⟩:∃ bl,Lib.bitLen d=bl:=⟨_,rfl⟩
 obtain ⟨g,hgg⟩:∃ g,lg p=g:=⟨_,rfl⟩
 obtain ⟨E,hE⟩:∃ E,expo d p=E:=⟨_,rfl⟩
 have hE1:E=min 1074 (53 - (bl:Int) - g):=by rw [← hE];unfold expo;rw [hb,hgg]
 rw [hb] at BL hbl
 rw [hgg] at LG hlg
 go_enter Tryz.func233,Tryz.ntmps233
 go_wp2_with fail
 refine BL.mono ?_
 rintro e w1 ⟨rfl,rfl⟩
 go_wp2_with fail
 refine LG.mono ?_
 rintro e w1 ⟨rfl,rfl⟩
 obtain ⟨k,hk⟩:=Int.eq_ofNat_of_zero_le (show 0≤p + 348 by omega)
 obtain ⟨S,hS⟩:∃ S,scl d p=S:=⟨_,rfl⟩
 have hS1:S=-(min 1074 (53 - (bl:Int) - g) - (64 - (bl:Int)) + g + 3):=by rw [← hS];unfold scl;rw [hb,hgg,hE,hE1]
 have hS2:8≤S:=by omega
 have PS:=prescale_any (w:=w1.alloc (.cells #[.int .u64 0,.int .u64 0,.int .i64 0] 271)) (q:=w1.heap.size) (k:=k) (a:=0) (b:=0) (s:=0) (e:=min 1074 (53 - (bl:Int) - g) - (64 - (bl:Int))) (p:=p) (lp:=g) (hT.pur ((Pur.refl _).alloc _)) (bk_new _ _) (Nat.ne_of_lt hg) hk (by omega) (by omega) (by omega)
 rw [← hS1] at PS
 have hRD:=Lib.hid (show rd Hi Lo d p=if 64≤S then (0,false) else pk (rnd (half (usc (d * 2 ^ (64 - bl)) (Hi k) (Lo k) S.toNat))) (-(min 1074 (53 - (bl:Int) - g) - (b2 (decide (36028797018963966≤usc (d * 2 ^ (64 - bl)) (Hi k) (Lo k) S.toNat)):Int))) by
   unfold rd unr;rw [hS,hE,hb,hk,hE1];rfl)
 have hHi:=(hT.hi k (by omega)).2
 have hLo:=(hT.lo k (by omega)).2
 have hEb:-1074≤-(min 1074 (53 - (bl:Int) - g))∧-(min 1074 (53 - (bl:Int) - g))≤3000:=by omega
 clear hS hE hb hgg hk hT
 go_wp2_with fail
 refine PS.mono ?_
 rintro e w2 ⟨rfl,s2,g2⟩
 have z2:=bk_cell s2 2 _ rfl
 have P2:Pur w1 w2:=((Chg.of_pur ((Pur.refl w1).alloc _)).trans g2).to_pur (fun b hb=>by simp at hb;omega)
 by_cases h64:64≤S
 · have HV:=Lib.hid (show rd Hi Lo d p=(0,false) by rw [hRD.out,if_pos h64])
   have b0:bits .or .u64 0 0=0:=by decide
   clear hRD PS
   go_wp2
   go_ret2
   rw [HV.out]
   exact ⟨rfl,P2⟩
 · have h64':¬ (64:Int)≤S:=h64
   obtain ⟨X,hX⟩:∃ X,d * 2 ^ (64 - bl)=X:=⟨_,rfl⟩
   rw [hX] at hRD hbl
   have hXl:=hbl.2.2
   have bb1:=hbl.1
   have bb2:=hbl.2.1
   have wx:IntKind.u64.wrap ((d:Int) * 2 ^ (64 - bl))=(X:Int):=by
     rw [show (d:Int) * 2 ^ (64 - bl)=(X:Int) by rw [← hX,Int.natCast_mul,Int.natCast_pow];rfl]
     exact IntWalk.u64_in _ (by omega)
   have hand:bits .and .i64 S 63=(S.toNat:Int):=by
     have:=bits_mask .i64 63 (by decide) wraps_i64 6 (by decide) S (by omega) (by omega)
     rw [show ((2:Int) ^ 6 - 1)=63 from rfl] at this
     rw [this];omega
   have US:=uscale_any (x:=X) s2 hXl hHi hLo hand (by omega)
   have hUl:=usc_lt X (Hi k) (Lo k) S.toNat hXl hHi hLo
   have HV:=Lib.hid (hRD.out.trans (if_neg h64))
   have UM:∀ w,Calls Tryz.prog 246 #[.int .u64 9007199254740992] w fun e w'=>e=.returned (.int .u64 36028797018963966)∧w=w':=fun w=>unmin_any 9007199254740992 w (by decide) (by decide)
   have hEb2:-100000≤min 1074 (53 - (bl:Int) - g)∧min 1074 (53 - (bl:Int) - g)≤1074:=by omega
   generalize usc X (Hi k) (Lo k) S.toNat=U at *
   generalize min 1074 (53 - (bl:Int) - g)=E at *
   have BI:=fun b w=>bool2i_any b w
   have hE0:-1075≤-E:=by omega
   clear PS hRD hX hXl hbl hand hHi hLo hS1 hE1 h64
   rcases hc:decide (36028797018963966≤U) with _ | _
   · have hc':decide ((36028797018963966:Int)≤(U:Int))=false:=by rw [← hc,decide_eq_decide];omega
     have hh:half U=U ||| U % 2:=by unfold half;rw [if_neg (by simpa using hc)]
     rw [hc,hh] at HV
     have b1:bits .and .u64 (U:Int) 1=((U % 2:Nat):Int):=by
       have:=u64_and_nat U 1 hUl (by decide)
       rw [show ((1:Nat):Int)=1 from rfl] at this
       rw [this,show U &&& 1=U % 2 from Nat.and_two_pow_sub_one_eq_mod U 1]
     have hal:U % 2≤1:=by omega
     have b3:bits .or .u64 (U:Int) ((U % 2:Nat):Int)=((U ||| U % 2:Nat):Int):=u64_or_nat U (U % 2) hUl (by omega)
     have em:((U % 2:Nat):Int)=(U:Int) % 2:=by omega
     rw [em] at b1 b3
     clear em
     have hol:(U ||| U % 2) < 18446744073709551616:=Nat.or_lt_two_pow (n:=64) hUl (by omega)
     have RN:=fun w=>round_any (U ||| U % 2) w hol
     have hrl:=rnd_lt (U ||| U % 2)
     clear hUl hh hc hol hal
     generalize rnd (U ||| U % 2)=R at *
     have b4:bits .or .u64 0 (R:Int)=(R:Int):=by
       have:=u64_or_nat 0 R (by decide) (by omega)
       rw [show ((0:Nat):Int)=0 from rfl] at this
       rw [this,Nat.zero_or]
     have PK:=fun w=>pack_any R (-E) w (by omega) hE0 (by omega)
     have HV2:=Lib.hid (show rd Hi Lo d p=pk R (-E) by rw [HV.out];simp [b2])
     clear HV hrl
     go_wp2_with fail
     refine US.mono ?_
     rintro e w3 ⟨rfl,p3⟩
     go_wp2_with fail
     with_reducible refine (UM _).mono ?_
     rintro e w4 ⟨rfl,rfl⟩
     have BF:∀ w,Calls Tryz.prog 218 #[.bool false] w fun e w'=>e=.returned (.int .i64 0)∧w=w':=fun w=>BI false w
     go_wp2_with fail
     with_reducible refine (BF _).mono ?_
     rintro e w5 ⟨rfl,rfl⟩
     go_wp2_with fail
     with_reducible refine (RN _).mono ?_
     rintro e w6 ⟨rfl,rfl⟩
     go_wp2_with fail
     with_reducible refine (PK _).mono ?_
     rintro e w7 ⟨rfl,rfl⟩
     go_wp2
     go_ret2
     rw [HV2.out]
     exact ⟨rfl,P2.trans p3⟩
   · have hc':decide ((36028797018963966:Int)≤(U:Int))=true:=by rw [← hc,decide_eq_decide];omega
     have hh:half U=U / 2 ||| U % 2:=by unfold half;rw [if_pos (by simpa using hc)]
     rw [hc,hh] at HV
     have b1:bits .and .u64 (U:Int) 1=((U % 2:Nat):Int):=by
       have:=u64_and_nat U 1 hUl (by decide)
       rw [show ((1:Nat):Int)=1 from rfl] at this
       rw [this,show U &&& 1=U % 2 from Nat.and_two_pow_sub_one_eq_mod U 1]
     have hal:U % 2≤1:=by omega
     have hdl:U / 2 < 18446744073709551616:=by omega
     have b3:bits .or .u64 ((U:Int) / 2) ((U % 2:Nat):Int)=((U / 2 ||| U % 2:Nat):Int):=u64_or_nat (U / 2) (U % 2) hdl (by omega)
     have em:((U % 2:Nat):Int)=(U:Int) % 2:=by omega
     rw [em] at b1 b3
     clear em
     have hol:(U / 2 ||| U % 2) < 18446744073709551616:=Nat.or_lt_two_pow (n:=64) hdl (by omega)
     have RN:=fun w=>round_any (U / 2 ||| U % 2) w hol
     have hrl:=rnd_lt (U / 2 ||| U % 2)
     clear hUl hh hc hol hal hdl
     generalize rnd (U / 2 ||| U % 2)=R at *
     have b4:bits .or .u64 0 (R:Int)=(R:Int):=by
       have:=u64_or_nat 0 R (by decide) (by omega)
       rw [show ((0:Nat):Int)=0 from rfl] at this
       rw [this,Nat.zero_or]
     have w9:IntKind.i64.wrap (-(E - 1))=-(E - 1):=IntWalk.i64_in _ (by omega)
     have PK:=fun w=>pack_any R (-(E - 1)) w (by omega) (by omega) (by omega)
     have HV2:=Lib.hid (show rd Hi Lo d p=pk R (-(E - 1)) by rw [HV.out];simp [b2])
     clear HV hrl
     go_wp2_with fail
     refine US.mono ?_
     rintro e w3 ⟨rfl,p3⟩
     go_wp2_with fail
     with_reducible refine (UM _).mono ?_
     rintro e w4 ⟨rfl,rfl⟩
     have BT:∀ w,Calls Tryz.prog 218 #[.bool true] w fun e w'=>e=.returned (.int .i64 1)∧w=w':=fun w=>BI true w
     go_wp2_with fail
     with_reducible refine (BT _).mono ?_
     rintro e w5 ⟨rfl,rfl⟩
     go_wp2_with fail
     with_reducible refine (RN _).mono ?_
     rintro e w6 ⟨rfl,rfl⟩
     go_wp2_with fail
     with_reducible refine (PK _).mono ?_
     rintro e w7 ⟨rfl,rfl⟩
     go_wp2
     go_ret2
     rw [HV2.out]
     exact ⟨rfl,P2.trans p3⟩
end Us
end Go.Proofs.YtgdolcoiihagfaaGreatDoor
