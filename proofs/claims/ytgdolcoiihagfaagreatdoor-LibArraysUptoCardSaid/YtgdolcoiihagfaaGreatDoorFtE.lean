/- What layer 4 asks of the world. Whole numbers as floats. The text of a whole number of up to 15 digits is its digits, in plain words. esnum.Text at whole numbers, in plain words. -/
import Derived.Test.YtgdolcoiihagfaaGreatDoorPnX
import Derived.Test.YtgdolcoiihagfaaGreatDoorSgC
import Derived.Test.YtgdolcoiihagfaaGreatDoorFtC
import Derived.Test.YtgdolcoiihagfaaGreatDoorIeX
namespace Go.Proofs.YtgdolcoiihagfaaGreatDoor
open Go Go.RowKit
set_option linter.all false
set_option maxRecDepth 100000
set_option maxHeartbeats 100000000
open Lx (w16)
theorem Us.dec_rd {s:List UInt8} (h:Nm.decimal s=true) (hl:s.length≤100000):Us.RD s (Rf.digs s false 0).mant (Rf.pow s false 0) (Rf.digs s false 0).trunc:=fun w=>by
 obtain ⟨hW,hH,hS,hU,h0,hd,-⟩:=Nm.dec_whole h
 have hf0:Rf.from0 s=0:=by unfold Rf.from0;rw [hS,hH];rfl
 have hng:Rf.neg s=false:=by unfold Rf.neg;rw [beq_eq_false_iff_ne];exact hd 45 (by simp)
 refine (Rf.readFloat_dec s w (by omega) h0 hU (by rw [hS,hH,hf0];exact hW) (by rw [hS];exact hH)).mono ?_
 rintro e w' hp
 unfold Rf.RfPost at hp
 rw [hS,hH,hf0,hng] at hp
 exact hp
theorem Us.dec_int {Hi Lo T:Nat→Nat} {s:List UInt8} {m:Nat} (h:Nm.decimal s=true) (hl:s.length≤100000) (hm:m < 4503599627370496) (e1:(Rf.digs s false 0).mant=m) (e2:Rf.pow s false 0=0) (e3:(Rf.digs s false 0).trunc=false):Us.AD Hi Lo T s (floatOfInt .f64 (m:Int)) false:=by
 obtain ⟨hW,hH,hS,hU,h0,hd,-⟩:=Nm.dec_whole h
 have hs:∀ x,Us.sg false x=x:=fun x=>rfl
 rw [← hs (floatOfInt .f64 (m:Int))]
 refine Us.atof_int (n:=false) hm (fun w=>Rf.special_no s w h0 (hd 43 (by simp)) (hd 45 (by simp)) (hd 105 (by simp)) (hd 73 (by simp)) (hd 110 (by simp)) (hd 78 (by simp))) ?_
 have:=Us.dec_rd h hl
 rw [e1,e2,e3] at this
 exact this
namespace Ft
theorem of_any (l:List UInt8) (w:World) (hs:l.length≤1000000) :
   Calls Tryz.prog 20 #[.string ⟨l.toArray⟩] w fun e w'=>e=.returned (.string ⟨(w16 l).toArray⟩)∧Pur w w':=by
 have hsn:∀ n,n < l.length→w16 (l.take (n + 1))=w16 (l.take n) ++ unit8 (by8 l n):=by
   intro n hn
   rw [List.take_succ_eq_append_getElem hn]
   have e:unit8 (by8 l n)=[0,l[n]]:=by
     unfold unit8 by8
     have hl:=l[n].toNat_lt
     simp only [List.getD_eq_getElem?_getD,List.getElem?_eq_getElem hn,Option.getD_some]
     rw [Nat.div_eq_of_lt hl,Nat.mod_eq_of_lt hl]
     simp
   rw [e]
   simp only [w16,List.flatMap_append,List.flatMap_cons,List.flatMap_nil,List.append_nil]
 go_enter Tryz.func20,Tryz.ntmps20
 go_wp2
 go_loopw [3,4] (fun a k wr=>∃ n:Nat,n≤l.length∧k=.int .i64 n∧a=.string ⟨(w16 (l.take n)).toArray⟩∧Pur w wr) (fun _ k _=>l.length + 1 - (intOf k).toNat)
 case atStart=>exact ⟨0,by omega,rfl,rfl,Pur.refl w⟩
 case round =>
   obtain ⟨n,hn,rfl,rfl,hpr⟩:=hrel
   by_cases hlt:n < l.length
   · have hlt':(n:Int) < l.length:=by omega
     have cb:=by8_lt l n
     have HS:=Lib.hid (hsn n hlt)
     have hwl:=Nm.w16_len (l.take n)
     rw [List.length_take] at hwl
     have U:=fun w=>runit_any (by8 l n:Nat) w (by omega) (by omega)
     have ut:((by8 l n:Nat):Int).toNat=by8 l n:=by omega
     rw [ut] at U
     clear ut
     have z1:¬ 9223372036854775807 < (w16 (l.take n)).length + 2:=by omega
     generalize w16 (l.take n)=acc at *
     clear hsn
     go_wp2_with fail
     refine (U _).mono ?_
     rintro e w1 ⟨rfl,h1⟩
     go_wp2
     go_roundw
     case rel=>exact ⟨n + 1,by omega,by go_num,by rw [HS.out],hpr.trans h1⟩
     case measure=>simp [intOf];omega
   · obtain rfl:n=l.length:=by omega
     rw [List.take_length]
     clear hsn
     go_wp2
     go_ret
     exact ⟨rfl,hpr⟩
structure AK (w:World):Prop where
 x:XW P10.Hi0 P10.Lo0 w
 n:Nm.NW P10.Hi0 P10.Lo0 P10.T0 w
theorem AK.pur {w w':World} (h:AK w) (hp:Pur w w'):AK w':=⟨h.x.pur hp,h.n.pur hp⟩
end Ft
namespace Mt
set_option exponentiation.threshold 3000
theorem foi (z:Int):floatOfInt .f64 z=Ieee.double.write (.number (decide (z < 0)) z.natAbs 0):=rfl
theorem int_word (z:Int) (h:z.natAbs < 9007199254740992):∃ c,c < 9218868437227405312∧Ie.V c=z.natAbs * 2 ^ 1074∧floatOfInt .f64 z=Ieee.double.word (decide (z < 0)) c:=by
 obtain ⟨c,hc,hv⟩:=Ie.int_has z h
 exact ⟨c,hc,hv,by rw [foi];exact Ie.int_sv hc hv⟩
end Mt
open Go Go.RowKit Go.Sort Go.Lib
namespace Ft
open Us P10
set_option exponentiation.threshold 3000
theorem or_bit (q b:Nat) (hb:b≤1):q≤(q ||| b)∧(q ||| b)≤q + 1:=by
 refine ⟨Nat.left_le_or,?_⟩
 rcases (show b=0∨b=1 by omega) with rfl | rfl
 · rw [Nat.or_zero];omega
 · have:=Hx.half_or (2 * q + 1)
   rw [show (2 * q + 1) / 2=q by omega,show (2 * q + 1) % 2=1 by omega] at this
   exact this
theorem b2_le (b:Bool):b2 b≤1:=by cases b <;> decide
theorem usc0 {x A s:Nat} (hx:x < 18446744073709551616) (hA:A < 18446744073709551616):x * A / 2 ^ (64 + s)≤usc x A 0 s∧usc x A 0 s≤x * A / 2 ^ (64 + s) + 1:=by
 have e:x * A / 2 ^ (64 + s)=x * A / 18446744073709551616 / 2 ^ s:=by rw [Nat.pow_add,Nat.div_div_eq_div_mul]
 have hil:x * A / 18446744073709551616 < 18446744073709551616:=Nat.div_lt_of_lt_mul (Nat.lt_of_lt_of_le (Nat.mul_lt_mul'' hx hA) (by decide))
 rw [e]
 unfold usc
 split
 · exact or_bit _ 1 (Nat.le_refl _)
 · rw [show x * 0 / 18446744073709551616=0 by rw [Nat.mul_zero]]
   rw [show decide (x * A % 18446744073709551616 < 0)=false by rw [decide_eq_false_iff_not];omega]
   rw [show b2 false=0 from rfl,Nat.sub_zero,Nat.add_mod_right,Nat.mod_eq_of_lt hil]
   exact or_bit _ _ (b2_le _)
def ck (L:Nat) (p:Int) (h:Nat):Bool :=
 decide (Lo0 (p + 348).toNat=0) && decide (Hi0 (p + 348).toNat * 2 ^ (64 - L)=4 * 10 ^ p.toNat * 2 ^ (64 + (-((L:Int) - 64 + lg p + 3)).toNat)) &&
 decide (2 ^ (64 + (-((L:Int) - 64 + lg p + 3)).toNat) < h * Hi0 (p + 348).toNat) && decide (1024 * Hi0 (p + 348).toNat < 38 * 2 ^ (64 + (-((L:Int) - 64 + lg p + 3)).toNat)) && decide (1≤p) && decide (p≤20)
theorem cks:∀ L,L < 51→1≤L→ck L (-l10 ((L:Int) - 64 + 11)) 1024=true∧ck L (-skw ((L:Int) - 64 + 11)) 512=true:=by decide +kernel
theorem sh_core {n L h m:Nat} {p:Int} (hn:0 < n) (hm:n * 2 ^ (64 - L)=m) (hL:L≤64) (hc:ck L p h=true) (hh:h≤m) (hh2:h≤1024) (m1:m + 1024 < 18446744073709551616)
   (hp:pO m ((L:Int) - 64)=p) (hmn:mnO m ((L:Int) - 64)=m - h) (hmx:mxO m ((L:Int) - 64)=m + 1024) :
   sh Hi0 Lo0 m ((L:Int) - 64)=(n * 10 ^ (p.toNat - 1),-(p - 1)):=by
 unfold ck at hc
 simp only [Bool.and_eq_true,decide_eq_true_eq] at hc
 obtain ⟨⟨⟨⟨⟨c1,c2⟩,c3⟩,c4⟩,c5⟩,c6⟩:=hc
 have hA:Hi0 (p + 348).toNat < 18446744073709551616:=(pow_at (by omega)).2.2.1
 have hk:kO m ((L:Int) - 64)=(p + 348).toNat:=by unfold kO;rw [hp]
 have hs:sO m ((L:Int) - 64)=(-((L:Int) - 64 + lg p + 3)).toNat:=by unfold sO;rw [hp]
 have ho:=odO_le m ((L:Int) - 64)
 have hu:∀ x,uO Hi0 Lo0 m ((L:Int) - 64) x=usc x (Hi0 (p + 348).toNat) 0 (-((L:Int) - 64 + lg p + 3)).toNat:=fun x=>by unfold uO;rw [hk,hs,c1]
 generalize hAA:Hi0 (p + 348).toNat=A at *
 generalize hSS:(-((L:Int) - 64 + lg p + 3)).toNat=s at *
 have hT:0 < 2 ^ (64 + s):=Nat.pow_pos (by decide)
 have u1:=usc0 (x:=m - h) (s:=s) (by omega) hA
 have u2:=usc0 (x:=m + 1024) (s:=s) m1 hA
 obtain ⟨q,hq⟩:∃ q,p.toNat=q + 1:=⟨p.toNat - 1,by omega⟩
 -- m A = 4 N T
 have hmA:m * A=4 * (n * 10 ^ p.toNat) * 2 ^ (64 + s):=by
   rw [← hm]
   calc n * 2 ^ (64 - L) * A=n * (A * 2 ^ (64 - L)):=by rw [Nat.mul_assoc,Nat.mul_comm (2 ^ (64 - L)) A]
     _=n * (4 * 10 ^ p.toNat * 2 ^ (64 + s)):=by rw [c2]
     _=4 * (n * 10 ^ p.toNat) * 2 ^ (64 + s):=by rw [← Nat.mul_assoc,← Nat.mul_assoc,Nat.mul_comm n 4,Nat.mul_assoc 4]
 have hN:n * 10 ^ p.toNat=10 * (n * 10 ^ q):=by rw [hq,Nat.pow_succ,Nat.mul_comm (10 ^ q) 10,← Nat.mul_assoc,Nat.mul_comm n 10,Nat.mul_assoc]
 have hM:0 < n * 10 ^ q:=Nat.mul_pos hn (Nat.pow_pos (by decide))
 rw [hN] at hmA
 rw [show p.toNat - 1=q by omega]
 generalize n * 10 ^ q=M at *
 generalize 2 ^ (64 + s)=T at *
 have b1:(m - h) * A / T≤4 * (10 * M) - 2:=by
   have e:(m - h) * A + h * A=4 * (10 * M) * T:=by rw [← Nat.add_mul,Nat.sub_add_cancel hh,hmA]
   have e3:(4 * (10 * M) - 1) * T=4 * (10 * M) * T - T:=by rw [Nat.sub_mul,Nat.one_mul]
   have:(m - h) * A / T < 4 * (10 * M) - 1:=by
     rw [Nat.div_lt_iff_lt_mul hT,e3]
     generalize 4 * (10 * M) * T=P at *
     generalize (m - h) * A=Q at *
     generalize h * A=R at *
     omega
   omega
 have b2:4 * (10 * M) + 1≤(m + 1024) * A / T∧(m + 1024) * A / T≤4 * (10 * M) + 37:=by
   have e:(m + 1024) * A=1024 * A + 4 * (10 * M) * T:=by rw [Nat.add_mul,hmA,Nat.add_comm]
   have c3':T≤1024 * A:=Nat.le_of_lt (Nat.lt_of_lt_of_le c3 (Nat.mul_le_mul_right _ hh2))
   rw [e,Nat.add_mul_div_right _ _ hT]
   have d1:1≤1024 * A / T:=(Nat.le_div_iff_mul_le hT).2 (by omega)
   have d2:1024 * A / T < 38:=(Nat.div_lt_iff_lt_mul hT).2 c4
   omega
 have e1:dmn Hi0 Lo0 m ((L:Int) - 64)≤10 * M:=by unfold dmn;rw [hmn,hu];omega
 have e2:10 * M≤dmx Hi0 Lo0 m ((L:Int) - 64)∧dmx Hi0 Lo0 m ((L:Int) - 64)≤10 * M + 9:=by unfold dmx;rw [hmx,hu];omega
 unfold sh
 rw [if_pos (by omega),hp]
 congr 1
 omega
theorem bits_whole {n L:Nat} (h0:2 ^ (L - 1)≤n) (h1:n < 2 ^ L) (hL:1≤L) (hL2:L < 51) :
   ∃ b,floatOfInt .f64 (n:Int)=b∧0 < b∧b < 9218868437227405312∧mO b=n * 2 ^ (64 - L)∧EO b=(L:Int) - 64:=by
 have hn:n < 9007199254740992:=Nat.lt_of_lt_of_le h1 (Nat.pow_le_pow_right (n:=2) (by decide) (show L≤53 by omega))
 obtain ⟨c,hc,hv,e⟩:=Mt.int_word (n:Int) (by omega)
 rw [show decide ((n:Int) < 0)=false by rw [decide_eq_false_iff_not];omega] at e
 rw [show Ieee.double.word false c=c from rfl] at e
 have a0:4503599627370496≤n * 2 ^ (53 - L):=by
   calc 4503599627370496=2 ^ (L - 1) * 2 ^ (53 - L):=by rw [← Nat.pow_add,show L - 1 + (53 - L)=52 by omega]
     _≤n * 2 ^ (53 - L):=Nat.mul_le_mul_right _ h0
 have a1:n * 2 ^ (53 - L) < 9007199254740992:=by
   calc n * 2 ^ (53 - L) < 2 ^ L * 2 ^ (53 - L):=Nat.mul_lt_mul_of_pos_right h1 (Nat.pow_pos (by decide))
     _=9007199254740992:=by rw [← Nat.pow_add,show L + (53 - L)=53 by omega]
 obtain ⟨M,hM⟩:∃ M,n * 2 ^ (53 - L)=M:=⟨_,rfl⟩
 rw [hM] at a0 a1
 obtain ⟨b,hb⟩:∃ b,(L + 1022) * 4503599627370496 + (M - 4503599627370496)=b:=⟨_,rfl⟩
 have d1:b / 4503599627370496=L + 1022:=by omega
 have d2:b % 4503599627370496=M - 4503599627370496:=by omega
 have hcb:c=b:=by
   apply Ie.V_inj
   rw [hv]
   unfold Ie.V
   rw [if_neg (by omega),d1,d2]
   have key:∀ T,53 - L + (L + 1022 - 1)=T→n * 2 ^ T=n * 2 ^ (53 - L) * 2 ^ (L + 1022 - 1):=fun T hT=>by rw [Nat.mul_assoc,← Nat.pow_add,hT]
   have hM3:n * 2 ^ (53 - L)=4503599627370496 + (M - 4503599627370496):=hM.trans (by omega)
   exact (key 1074 (by omega)).trans (congrArg (· * 2 ^ (L + 1022 - 1)) hM3)
 subst hcb
 have hma:maO c=M:=by
   unfold maO exO
   rw [if_neg (by omega),d2];omega
 have hbl:Lib.bitLen M=53:=bitLen_eq (k:=52) a0 a1 (by omega)
 have hsh:shO c=11:=by unfold shO;rw [hma,hbl]
 refine ⟨c,e,by omega,hc,?_,?_⟩
 · unfold mO
   rw [hma,hsh,← hM,Nat.mul_assoc,← Nat.pow_add,show 53 - L + 11=64 - L by omega]
 · unfold EO exO
   rw [d1,hsh,if_neg (by omega)]
   omega
theorem bits_of (n:Nat) (h:0 < n) (h1:n < 1125899906842624):∃ L,2 ^ (L - 1)≤n∧n < 2 ^ L∧1≤L∧L < 51:=by
 refine ⟨n.log2 + 1,(Nat.le_log2 (by omega)).1 (Nat.le_refl _),(Nat.log2_lt (by omega)).1 (Nat.lt_succ_self _),by omega,?_⟩
 have:n.log2 < 50:=(Nat.log2_lt (by omega)).2 h1
 omega
theorem sh_whole {n L:Nat} (h0:2 ^ (L - 1)≤n) (h1:n < 2 ^ L) (hL:1≤L) (hL2:L < 51):∃ q:Nat,q≤20∧sh Hi0 Lo0 (n * 2 ^ (64 - L)) ((L:Int) - 64)=(n * 10 ^ q,-(q:Int)):=by
 have hn:0 < n:=Nat.lt_of_lt_of_le (Nat.pow_pos (by decide)) h0
 obtain ⟨k1,k2⟩:=cks L hL2 hL
 obtain ⟨m,hm⟩:∃ m,n * 2 ^ (64 - L)=m:=⟨_,rfl⟩
 have m0:9223372036854775808≤m:=by
   rw [← hm]
   calc 9223372036854775808=2 ^ (L - 1) * 2 ^ (64 - L):=by rw [← Nat.pow_add,show L - 1 + (64 - L)=63 by omega]
     _≤n * 2 ^ (64 - L):=Nat.mul_le_mul_right _ h0
 have m1:m + 16384≤18446744073709551616:=by
   have e1:(n + 1) * 2 ^ (64 - L)≤18446744073709551616:=by
     calc (n + 1) * 2 ^ (64 - L)≤2 ^ L * 2 ^ (64 - L):=Nat.mul_le_mul_right _ h1
       _=18446744073709551616:=by rw [← Nat.pow_add,show L + (64 - L)=64 by omega]
   have e2:16384≤2 ^ (64 - L):=Nat.pow_le_pow_right (n:=2) (by decide) (show 14≤64 - L by omega)
   rw [Nat.add_mul,hm,Nat.one_mul] at e1
   omega
 have hz:zO ((L:Int) - 64)=11:=by unfold zO;rw [if_pos (by omega)]
 rw [hm]
 by_cases g:edge m ((L:Int) - 64)=true
 · have hp:pO m ((L:Int) - 64)=-skw ((L:Int) - 64 + 11):=by unfold pO;rw [if_pos g]
   have:=sh_core hn hm (by omega) k2 (by omega) (by decide) (by omega) hp (by unfold mnO;rw [if_pos g]) (by unfold mxO;rw [if_pos g])
   unfold ck at k2
   simp only [Bool.and_eq_true,decide_eq_true_eq] at k2
   generalize -skw ((L:Int) - 64 + 11)=p at *
   exact ⟨p.toNat - 1,by omega,by rw [this];congr 1;omega⟩
 · have hp:pO m ((L:Int) - 64)=-l10 ((L:Int) - 64 + 11):=by unfold pO;rw [if_neg g,hz];rfl
   have:=sh_core hn hm (by omega) k1 (by omega) (by decide) (by omega) hp (by unfold mnO;rw [if_neg g,hz]) (by unfold mxO;rw [if_neg g,hz])
   unfold ck at k1
   simp only [Bool.and_eq_true,decide_eq_true_eq] at k1
   generalize -l10 ((L:Int) - 64 + 11)=p at *
   exact ⟨p.toNat - 1,by omega,by rw [this];congr 1;omega⟩
end Ft
namespace Ft
open Us P10
theorem dec_ten {x:Nat} (h:0 < x):decDigits (x * 10)=decDigits x ++ [48]:=by
 rw [decDigits,dif_neg (by omega),show x * 10 / 10=x by omega,show x * 10 % 10=0 by omega]
 rfl
theorem cutz_nought (l:List UInt8):cutz (l ++ [48])=cutz l:=by
 unfold cutz
 rw [List.reverse_append]
 rfl
theorem dgT_ten {n:Nat} (h:0 < n):∀ q,dgT (n * 10 ^ q)=dgT n∧nDigits (n * 10 ^ q)=nDigits n + q
 | 0=>by rw [Nat.pow_zero,Nat.mul_one];exact ⟨rfl,rfl⟩
 | q + 1=>by
   obtain ⟨h1,h2⟩:=dgT_ten h q
   have hp:0 < n * 10 ^ q:=Nat.mul_pos h (Nat.pow_pos (by decide))
   have e:n * 10 ^ (q + 1)=n * 10 ^ q * 10:=by rw [Nat.pow_succ,Nat.mul_assoc]
   refine ⟨?_,?_⟩
   · rw [← h1,e]
     unfold dgT
     rw [dec_ten hp,cutz_nought]
   · rw [e,← decDigits_length,dec_ten hp,List.length_append,decDigits_length,h2]
     rfl
theorem rep_eq (c:UInt8):∀ k,Lib.repeatL [c] k=List.replicate k c
 | 0=>rfl
 | k + 1=>by rw [Lib.repeatL,rep_eq c k];rfl
theorem dw_rep:∀ l:List UInt8,∃ k,l=List.replicate k 48 ++ l.dropWhile (· == 48)
 | []=>⟨0,rfl⟩
 | x :: l=>by
   by_cases g:x=48
   · obtain ⟨k,hk⟩:=dw_rep l
     refine ⟨k + 1,?_⟩
     rw [List.dropWhile_cons,if_pos (by rw [g];rfl),List.replicate_succ,List.cons_append,← hk,g]
   · refine ⟨0,?_⟩
     rw [List.dropWhile_cons,if_neg (by simpa using g)]
     rfl
theorem cutz_fill (l:List UInt8):cutz l ++ Lib.repeatL [48] (l.length - (cutz l).length)=l:=by
 obtain ⟨k,hk⟩:=dw_rep l.reverse
 have h:=congrArg List.reverse hk
 rw [List.reverse_reverse,List.reverse_append,List.reverse_replicate] at h
 have hc:l=cutz l ++ List.replicate k 48:=h
 rw [rep_eq]
 have hl:=congrArg List.length hc
 rw [List.length_append,List.length_replicate] at hl
 rw [show l.length - (cutz l).length=k by omega]
 exact hc.symm
theorem cutz_le (l:List UInt8):(cutz l).length≤l.length:=by
 rw [cutz_take]
 simp only [List.length_take]
 omega
theorem tx_whole {n:Nat} (h:0 < n) (h1:n < 1125899906842624):∃ b,floatOfInt .f64 (n:Int)=b∧0 < b∧b < 9218868437227405312∧tx Hi0 Lo0 b=decDigits n:=by
 obtain ⟨L,l0,l1,l2,l3⟩:=bits_of n h h1
 obtain ⟨b,e,b0,b1,hm,hE⟩:=bits_whole l0 l1 l2 l3
 obtain ⟨q,hq,hs⟩:=sh_whole l0 l1 l2 l3
 refine ⟨b,e,b0,b1,?_⟩
 obtain ⟨d1,d2⟩:=dgT_ten h q
 have hd:dO Hi0 Lo0 b=(n * 10 ^ q,-(q:Int)):=by unfold dO;rw [hm,hE,hs]
 have hnd:nDigits n≤20:=Lib.nDigits_le20 n (by omega)
 unfold tx
 rw [hd]
 show lay (dgT (n * 10 ^ q)) ((nDigits (n * 10 ^ q):Int) + -(q:Int))=_
 rw [d1,d2,show ((nDigits n + q:Nat):Int) + -(q:Int)=(nDigits n:Int) by omega]
 have hl:(decDigits n).length=nDigits n:=decDigits_length n
 have hc:=cutz_le (decDigits n)
 rw [hl] at hc
 unfold lay
 unfold dgT
 rw [if_pos ⟨by omega,by omega⟩]
 have:=cutz_fill (decDigits n)
 rw [hl] at this
 rw [show ((nDigits n:Int) - ((cutz (decDigits n)).length:Int)).toNat=nDigits n - (cutz (decDigits n)).length by omega]
 exact this
def zT (z:Int):List UInt8:=if z < 0 then 45 :: decDigits z.natAbs else decDigits z.natAbs
theorem txt_whole (z:Int) (h1:z.natAbs < 1125899906842624):txt Hi0 Lo0 (floatOfInt .f64 z)=zT z:=by
 by_cases h0:z=0
 · subst h0
   decide +kernel
 obtain ⟨b,e,b0,b1,ht⟩:=tx_whole (n:=z.natAbs) (by omega) h1
 obtain ⟨c,hc,hv,hz⟩:=Mt.int_word z (by omega)
 obtain ⟨c',hc',hv',hz'⟩:=Mt.int_word (z.natAbs:Int) (by omega)
 rw [show decide ((z.natAbs:Int) < 0)=false by rw [decide_eq_false_iff_not];omega] at hz'
 have hcc:c=b:=by
   apply Ie.V_inj
   rw [hv,← e,hz',show Ieee.double.word false c'=c' from rfl,hv',Int.natAbs_natCast]
 subst hcc
 have hs:=Ie.word_split (decide (z < 0)) c (by omega)
 have hp:txp Hi0 Lo0 c=decDigits z.natAbs:=by unfold txp;rw [if_neg (by omega),ht]
 rw [hz]
 unfold txt
 rw [if_neg (by unfold Ie.nan;rw [hs.2,decide_eq_true_eq];omega),if_neg (by rw [hs.2];omega),hs.2,hp]
 have hlt:9223372036854775808≤Ieee.double.word (decide (z < 0)) c↔z < 0:=by
   unfold Ieee.Format.word
   rw [Ie.d_sign]
   by_cases g:z < 0
   · rw [decide_eq_true g,if_pos rfl];omega
   · rw [decide_eq_false g,if_neg (by decide)];omega
 unfold zT
 simp only [hlt]
end Ft
end Go.Proofs.YtgdolcoiihagfaaGreatDoor
