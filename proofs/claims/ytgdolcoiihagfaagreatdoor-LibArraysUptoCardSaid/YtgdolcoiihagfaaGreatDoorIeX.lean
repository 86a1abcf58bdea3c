/- Floats of 64 bits as whole numbers of units of 2^-1074: what a word is worth, and that a number which the format has is written as itself. Floats of 64 bits as whole numbers of units: sums, comparisons, cuts. Floats of 64 bits: signs, infinities, and what is no number; how any two stand to each other. Floats of 64 bits: sums of unlike signs, times one, turned to whole numbers. -/
import Derived.Test.YtgdolcoiihagfaaGreatDoorBase
namespace Go.Proofs.YtgdolcoiihagfaaGreatDoor
open Go Go.RowKit
set_option linter.all false
set_option maxRecDepth 100000
namespace Ie
open Ieee
def V (r:Nat):Nat:=if r < 4503599627370496 then r else (4503599627370496 + r % 4503599627370496) * 2 ^ (r / 4503599627370496 - 1)
theorem d_least:double.leastPlace=-1074:=by decide
theorem d_bin:double.binade=4503599627370496:=by decide
theorem d_inf:double.infRung=9218868437227405312:=by decide
theorem d_sign:double.signWeight=9223372036854775808:=by decide
theorem read_word (s:Bool) (r:Nat) (h:r < 9218868437227405312):∃ (m k:Nat),double.read (double.word s r)=.number s m ((k:Int) - 1074)∧m * 2 ^ k=V r:=by
 have h1:double.word s r / 9223372036854775808 % 2=(if s then 1 else 0)∧double.word s r % 9223372036854775808=r:=by
   unfold Format.word
   rw [d_sign]
   cases s
   · simp only [Bool.false_eq_true,if_false];omega
   · simp only [if_true];omega
 unfold Format.read
 rw [d_sign,d_bin,d_inf,d_least]
 simp only
 rw [h1.1,h1.2]
 have hs:((if s then 1 else 0:Nat) == 1)=s:=by cases s <;> rfl
 rw [hs]
 by_cases g:r < 4503599627370496
 · rw [if_pos g]
   refine ⟨r,0,rfl,?_⟩
   unfold V
   rw [if_pos g];simp
 · rw [if_neg g,if_pos h]
   refine ⟨4503599627370496 + r % 4503599627370496,r / 4503599627370496 - 1,by rw [show (-1074:Int) + ((r / 4503599627370496 - 1:Nat):Int)=((r / 4503599627370496 - 1:Nat):Int) - 1074 by omega],?_⟩
   unfold V
   rw [if_neg g]
theorem cut0 (way:Toward) (hw:way=.even) (s:Bool) (n:Nat):way.cut s n 0=n:=by
 subst hw
 unfold Toward.cut
 have e0:1 <<< min 0 (n.log2 + 2)=1:=by rw [Nat.zero_min];rfl
 dsimp only
 rw [e0,Nat.div_one,Nat.mod_one]
 rfl
theorem log2_mul {m:Nat} (k:Nat) (h:m≠0):(m * 2 ^ k).log2=m.log2 + k:=by
 have hp:0 < 2 ^ k:=Nat.pow_pos (by decide)
 have h1:2 ^ m.log2≤m:=(Nat.le_log2 h).1 (Nat.le_refl _)
 have h2:m < 2 ^ (m.log2 + 1):=(Nat.log2_lt h).1 (Nat.lt_succ_self _)
 rw [Nat.log2_eq_iff (Nat.ne_of_gt (Nat.mul_pos (Nat.pos_of_ne_zero h) hp))]
 constructor
 · rw [Nat.pow_add];exact Nat.mul_le_mul_right _ h1
 · rw [show m.log2 + k + 1=m.log2 + 1 + k by omega,Nat.pow_add];exact Nat.mul_lt_mul_of_pos_right h2 hp
theorem cut_ev (s:Bool) (q d:Nat) (h:0 < q):Toward.even.cut s (q * 2 ^ d) d=q:=by
 have hpos:0 < 2 ^ d:=Nat.pow_pos (by decide)
 have hn:q * 2 ^ d≠0:=Nat.ne_of_gt (Nat.mul_pos h hpos)
 have hlog:d≤(q * 2 ^ d).log2:=(Nat.le_log2 hn).2 (Nat.le_mul_of_pos_left _ h)
 unfold Toward.cut
 dsimp only
 rw [Nat.min_eq_left (by omega),Nat.one_shiftLeft,Nat.mul_div_cancel _ hpos,Nat.mul_mod_left]
 have e1:decide (2 ^ d < 2 * 0)=false:=by rw [decide_eq_false_iff_not];omega
 have e2:(2 ^ d == 2 * 0)=false:=by rw [beq_eq_false_iff_ne];omega
 simp only [e1,e2,Bool.false_and,Bool.or_false]
 rfl
theorem nearest_eq (s:Bool) (m k r:Nat) (hr:r < 9218868437227405312) (h:m * 2 ^ k=V r):double.nearest s m ((k:Int) - 1074)=double.word s r:=by
 have hpk:0 < 2 ^ k:=Nat.pow_pos (by decide)
 unfold Format.nearest
 by_cases hm:m=0
 · subst hm
   rw [if_pos rfl]
   have:r=0:=by
     rw [Nat.zero_mul] at h
     unfold V at h
     split at h
     · exact h.symm
     · have:=Nat.mul_pos (show 0 < 4503599627370496 + r % 4503599627370496 by omega) (Nat.pow_pos (n:=r / 4503599627370496 - 1) (show 0 < 2 by decide))
       omega
   rw [this]
 rw [if_neg hm,d_least,d_bin,d_inf]
 rw [show ((double.fractionBits:Nat):Int)=52 from rfl]
 -- the units, and where their last kept digit stands
 have hN0:V r≠0:=by rw [← h];exact Nat.ne_of_gt (Nat.mul_pos (Nat.pos_of_ne_zero hm) hpk)
 have hlog:(V r).log2=m.log2 + k:=by
   rw [← h]
   exact log2_mul k hm
 obtain ⟨L,q,hq0,hqL,hL,hres⟩:∃ L q,0 < q∧q * 2 ^ L=V r∧L=(V r).log2 - 52∧L * 4503599627370496 + q=r:=by
   by_cases g:r < 4503599627370496
   · have hv:V r=r:=by unfold V;rw [if_pos g]
     rw [hv] at hN0 ⊢
     have:r.log2 < 52:=(Nat.log2_lt hN0).2 g
     exact ⟨0,r,by omega,by simp,by omega,by omega⟩
   · have hv:V r=(4503599627370496 + r % 4503599627370496) * 2 ^ (r / 4503599627370496 - 1):=by unfold V;rw [if_neg g]
     refine ⟨r / 4503599627370496 - 1,4503599627370496 + r % 4503599627370496,by omega,hv.symm,?_,by omega⟩
     rw [hv,log2_mul _ (by omega)]
     have:(4503599627370496 + r % 4503599627370496).log2=52:=by
       rw [Nat.log2_eq_iff (by omega)]
       constructor
       · have:(2:Nat) ^ 52=4503599627370496:=by decide
         omega
       · have:(2:Nat) ^ 53=9007199254740992:=by decide
         omega
     omega
 have hmax:max ((k:Int) - 1074 + (m.log2:Int) - 52) (-1074)=(L:Int) - 1074:=by omega
 rw [hmax]
 dsimp only
 rw [show ((L:Int) - 1074 - -1074).toNat=L by omega]
 have hkept:Toward.even.cut s (m <<< ((k:Int) - 1074 - ((L:Int) - 1074)).toNat) ((L:Int) - 1074 - ((k:Int) - 1074)).toNat=q:=by
   rw [Nat.shiftLeft_eq]
   rcases Nat.le_total L k with g | g
   · rw [show ((k:Int) - 1074 - ((L:Int) - 1074)).toNat=k - L by omega,show ((L:Int) - 1074 - ((k:Int) - 1074)).toNat=0 by omega,cut0 _ rfl]
     have e:m * 2 ^ (k - L) * 2 ^ L=q * 2 ^ L:=by rw [Nat.mul_assoc,← Nat.pow_add,Nat.sub_add_cancel g,h,hqL]
     exact Nat.eq_of_mul_eq_mul_right (Nat.pow_pos (by decide)) e
   · rw [show ((k:Int) - 1074 - ((L:Int) - 1074)).toNat=0 by omega,show ((L:Int) - 1074 - ((k:Int) - 1074)).toNat=L - k by omega,Nat.pow_zero,Nat.mul_one]
     have e:m=q * 2 ^ (L - k):=by
       apply Nat.eq_of_mul_eq_mul_right hpk
       rw [h,← hqL,Nat.mul_assoc,← Nat.pow_add,Nat.sub_add_cancel g]
     rw [e]
     exact cut_ev s q _ hq0
 rw [hkept,hres,Nat.min_eq_left (by omega)]
theorem has {N M e:Nat} (h:N=M * 2 ^ e) (hM:M < 9007199254740992) (he:e≤2045):∃ r,r < 9218868437227405312∧V r=N:=by
 by_cases h0:N=0
 · exact ⟨0,by decide,by rw [h0];rfl⟩
 -- the significand made full, as far as the exponent allows
 have key:∀ (j M e:Nat),N=M * 2 ^ e→M < 9007199254740992→e≤2045→(4503599627370496≤M∨e=0∨e≤j)→∃ r,r < 9218868437227405312∧V r=N:=by
   intro j
   induction j with
   | zero =>
     intro M e h hM he hc
     by_cases g:4503599627370496≤M
     · refine ⟨e * 4503599627370496 + M,by omega,?_⟩
       have e1:(e * 4503599627370496 + M) / 4503599627370496 - 1=e:=by omega
       have e2:(e * 4503599627370496 + M) % 4503599627370496=M - 4503599627370496:=by omega
       unfold V
       rw [if_neg (by omega),e1,e2,show 4503599627370496 + (M - 4503599627370496)=M by omega,h]
     · have:e=0:=by omega
       subst this
       exact ⟨M,by omega,by unfold V;rw [if_pos (by omega),h];simp⟩
   | succ j ih =>
     intro M e h hM he hc
     by_cases g:4503599627370496≤M
     · exact ih M e h hM he (.inl g)
     · by_cases g0:e=0
       · exact ih M e h hM he (.inr (.inl g0))
       · refine ih (M * 2) (e - 1) ?_ (by omega) (by omega) (by omega)
         rw [h,Nat.mul_assoc,← Nat.pow_succ',show (e - 1).succ=e by omega]
 exact key e M e h hM he (.inr (.inr (Nat.le_refl _)))
theorem V_lt {a b:Nat} (h:a < b):V a < V b:=by
 have hp:∀ e:Nat,0 < 2 ^ e:=fun e=>Nat.pow_pos (by decide)
 unfold V
 by_cases g:b < 4503599627370496
 · rw [if_pos (by omega),if_pos g];exact h
 · rw [if_neg g]
   by_cases g2:a < 4503599627370496
   · rw [if_pos g2]
     have:=Nat.le_mul_of_pos_right (4503599627370496 + b % 4503599627370496) (hp (b / 4503599627370496 - 1))
     omega
   · rw [if_neg g2]
     obtain ⟨x,hx⟩:∃ x,a / 4503599627370496 - 1=x:=⟨_,rfl⟩
     obtain ⟨y,hy⟩:∃ y,b / 4503599627370496 - 1=y:=⟨_,rfl⟩
     rw [hx,hy]
     have hxy:x≤y:=by omega
     rcases Nat.lt_or_ge x y with g3 | g3
     · have h1:(4503599627370496 + a % 4503599627370496) * 2 ^ x < 9007199254740992 * 2 ^ x:=Nat.mul_lt_mul_of_pos_right (by omega) (hp x)
       have h2:4503599627370496 * 2 ^ (x + 1)≤(4503599627370496 + b % 4503599627370496) * 2 ^ y:=Nat.mul_le_mul (by omega) (Nat.pow_le_pow_right (by decide) g3)
       rw [Nat.pow_succ] at h2
       omega
     · obtain rfl:x=y:=by omega
       exact Nat.mul_lt_mul_of_pos_right (by omega) (hp x)
theorem V_inj {a b:Nat} (h:V a=V b):a=b:=by
 rcases Nat.lt_trichotomy a b with g | g | g
 · have:=V_lt g;omega
 · exact g
 · have:=V_lt g;omega
theorem V_le {a b:Nat}:V a≤V b↔a≤b:=by
 constructor
 · intro h
   rcases Nat.lt_or_ge b a with g | g
   · have:=V_lt g;omega
   · exact g
 · intro h
   rcases Nat.lt_or_ge a b with g | g
   · exact Nat.le_of_lt (V_lt g)
   · rw [show a=b by omega];exact Nat.le_refl _
end Ie
namespace Ie
open Ieee
set_option exponentiation.threshold 3000
def sv (s:Bool) (r:Nat):Int:=if s then -(V r:Int) else (V r:Int)
theorem signed_up (s:Bool) (m k b:Nat) (hb:b≤k):signed s m (((k:Int) - 1074) - ((b:Int) - 1074)).toNat * 2 ^ b=(if s then -((m * 2 ^ k:Nat):Int) else ((m * 2 ^ k:Nat):Int)):=by
 rw [show (((k:Int) - 1074) - ((b:Int) - 1074)).toNat=k - b by omega]
 have e:(m <<< (k - b)) * 2 ^ b=m * 2 ^ k:=by rw [Nat.shiftLeft_eq,Nat.mul_assoc,← Nat.pow_add,Nat.sub_add_cancel hb]
 have e2:((m <<< (k - b):Nat):Int) * 2 ^ b=((m * 2 ^ k:Nat):Int):=by rw [← e,Int.natCast_mul,Int.natCast_pow];rfl
 unfold signed
 cases s
 · simp only [Bool.false_eq_true,if_false];exact e2
 · simp only [if_true];rw [Int.neg_mul,e2]
theorem min_place (k l:Nat):min ((k:Int) - 1074) ((l:Int) - 1074)=((min k l:Nat):Int) - 1074:=by omega
theorem order_sv (s t:Bool) {a b:Nat} (ha:a < 9218868437227405312) (hb:b < 9218868437227405312):double.order (double.word s a) (double.word t b)=some (compare (sv s a) (sv t b)):=by
 obtain ⟨m,k,e1,e2⟩:=read_word s a ha
 obtain ⟨n,l,f1,f2⟩:=read_word t b hb
 unfold Format.order
 rw [e1,f1]
 unfold Datum.order
 dsimp only
 rw [min_place]
 have h1:=signed_up s m k (min k l) (Nat.min_le_left _ _)
 have h2:=signed_up t n l (min k l) (Nat.min_le_right _ _)
 rw [e2] at h1
 rw [f2] at h2
 have hp:(0:Int) < 2 ^ (min k l):=Int.pow_pos (by decide)
 congr 1
 unfold sv
 rw [← h1,← h2]
 generalize signed s m _=x
 generalize signed t n _=y
 generalize (2:Int) ^ (min k l)=p at *
 have c1:x < y↔x * p < y * p:=⟨fun h=>Int.mul_lt_mul_of_pos_right h hp,fun h=>Int.lt_of_mul_lt_mul_right h (Int.le_of_lt hp)⟩
 have c2:x=y↔x * p=y * p:=⟨fun h=>by rw [h],fun h=>Int.eq_of_mul_eq_mul_right (Int.ne_of_gt hp) h⟩
 simp only [compare,compareOfLessAndEq]
 simp only [c1,c2]
theorem cut_zero (s:Bool) (n d:Nat):Toward.zero.cut s n d=n / 2 ^ d:=by
 unfold Toward.cut
 dsimp only
 rw [Nat.one_shiftLeft]
 rcases Nat.le_total d (n.log2 + 2) with g | g
 · rw [Nat.min_eq_left g];rfl
 · rw [Nat.min_eq_right g]
   have hn:n < 2 ^ (n.log2 + 2):=by
     rcases Nat.eq_zero_or_pos n with h | h
     · rw [h];exact Nat.pow_pos (by decide)
     · exact (Nat.log2_lt (by omega)).1 (by omega)
   rw [Nat.div_eq_of_lt hn,Nat.div_eq_of_lt (Nat.lt_of_lt_of_le hn (Nat.pow_le_pow_right (by decide) g))]
   rfl
theorem int_sv {n:Int} {c:Nat} (hc:c < 9218868437227405312) (e:V c=n.natAbs * 2 ^ 1074):double.write (.number (decide (n < 0)) n.natAbs 0)=double.word (decide (n < 0)) c:=by
 show double.nearest _ _ 0=_
 rw [show (0:Int)=((1074:Nat):Int) - 1074 by decide]
 exact nearest_eq _ _ 1074 c hc e.symm
theorem int_has (n:Int) (h:n.natAbs < 9007199254740992):∃ c,c < 9218868437227405312∧V c=n.natAbs * 2 ^ 1074:=has rfl h (by decide)
end Ie
namespace Ie
open Ieee
set_option exponentiation.threshold 3000
def nan (b:Nat):Bool:=decide (9218868437227405312 < b % 9223372036854775808)
theorem word_ex (b:Nat) (h:b < 18446744073709551616):b=double.word (decide (9223372036854775808≤b)) (b % 9223372036854775808):=by
 unfold Format.word
 rw [d_sign]
 by_cases g:9223372036854775808≤b
 · rw [decide_eq_true g,if_pos rfl];omega
 · rw [decide_eq_false g,if_neg (by decide)];omega
theorem word_split (s:Bool) (r:Nat) (h:r < 9223372036854775808):double.word s r / 9223372036854775808 % 2=(if s then 1 else 0)∧double.word s r % 9223372036854775808=r:=by
 unfold Format.word
 rw [d_sign]
 cases s
 · simp only [Bool.false_eq_true,if_false];omega
 · simp only [if_true];omega
theorem read_inf (s:Bool):double.read (double.word s 9218868437227405312)=.infinity s:=by cases s <;> decide
theorem read_nan (b:Nat) (h:nan b=true):∃ s f,double.read b=.nan s f:=by
 unfold nan at h
 have h:=of_decide_eq_true h
 refine ⟨b / 9223372036854775808 % 2 == 1,b % 9223372036854775808 - 9218868437227405312,?_⟩
 unfold Format.read
 rw [d_sign,d_bin,d_inf,d_least]
 dsimp only
 rw [if_neg (by omega),if_neg (by omega),if_neg (by omega)]
theorem order_nan1 {b:Nat} (h:nan b=true) (c:Nat):double.order b c=none:=by
 obtain ⟨s,f,e⟩:=read_nan b h
 unfold Format.order
 rw [e];rfl
def rk (s:Bool) (r:Nat):Int:=if s then -(r:Int) else (r:Int)
theorem sv_lt {s t:Bool} {a b:Nat}:sv s a < sv t b↔rk s a < rk t b:=by
 have h1:=@V_le a b
 have h2:=@V_le b a
 have z:∀ x,V x=0↔x=0:=fun x=>⟨fun h=>V_inj (by rw [h];rfl),fun h=>by rw [h];rfl⟩
 have za:=z a
 have zb:=z b
 unfold sv rk
 cases s <;> cases t <;> simp only [Bool.false_eq_true,if_false,if_true] <;> omega
theorem sv_eq {s t:Bool} {a b:Nat}:sv s a=sv t b↔rk s a=rk t b:=by
 have h1:=@sv_lt s t a b
 have h2:=@sv_lt t s b a
 omega
theorem order_rk (s t:Bool) {a b:Nat} (ha:a≤9218868437227405312) (hb:b≤9218868437227405312):double.order (double.word s a) (double.word t b)=some (compare (rk s a) (rk t b)):=by
 have cmp:∀ x y:Int,compare x y=if x < y then .lt else if x=y then .eq else .gt:=fun x y=>rfl
 by_cases ga:a < 9218868437227405312
 · by_cases gb:b < 9218868437227405312
   · rw [order_sv s t ga gb,cmp,cmp]
     simp only [sv_lt,sv_eq]
   · have:b=9218868437227405312:=by omega
     subst this
     obtain ⟨m,k,e1,e2⟩:=read_word s a ga
     unfold Format.order
     rw [e1,read_inf,cmp]
     unfold rk
     cases s <;> cases t <;> simp only [Bool.false_eq_true,if_false,if_true] <;> simp only [Datum.order] <;> refine congrArg some ?_ <;> (repeat' split) <;> (first | rfl | (exfalso;contradiction) | (exfalso;rename_i h1 h2 h3;exact absurd trivial h1) | (exfalso;omega))
 · have:a=9218868437227405312:=by omega
   subst this
   by_cases gb:b < 9218868437227405312
   · obtain ⟨m,k,e1,e2⟩:=read_word t b gb
     unfold Format.order
     rw [e1,read_inf,cmp]
     unfold rk
     cases s <;> cases t <;> simp only [Bool.false_eq_true,if_false,if_true] <;> simp only [Datum.order] <;> refine congrArg some ?_ <;> (repeat' split) <;> (first | rfl | (exfalso;contradiction) | (exfalso;rename_i h1 h2 h3;exact absurd trivial h1) | (exfalso;omega))
   · have:b=9218868437227405312:=by omega
     subst this
     unfold Format.order
     rw [read_inf,read_inf]
     cases s <;> cases t <;> decide
theorem order_self {b:Nat} (hb:b < 18446744073709551616) (h:nan b=false):double.order b b=some .eq:=by
 have h:=of_decide_eq_false h
 rw [word_ex b hb,order_rk _ _ (by omega) (by omega)]
 simp [compare,compareOfLessAndEq]
theorem neg_word (s:Bool) {r:Nat} (h:r < 9223372036854775808):Op.negFloat .f64 (double.word s r)=double.word (!s) r:=by
 have key:(2 ^ 63 + r) ^^^ 2 ^ 63=r:=by
   apply Nat.eq_of_testBit_eq
   intro j
   rw [Nat.testBit_xor]
   have hr:r < 2 ^ 63:=h
   rcases Nat.lt_trichotomy j 63 with g | g | g
   · rw [Nat.testBit_two_pow_add_gt g,Nat.testBit_two_pow_of_ne (by omega)];simp
   · subst g
     rw [Nat.testBit_two_pow_add_eq,Nat.testBit_two_pow_self,Nat.testBit_lt_two_pow hr];rfl
   · rw [Nat.testBit_two_pow_of_ne (by omega),Nat.testBit_lt_two_pow (x:=r) (Nat.lt_of_lt_of_le hr (Nat.pow_le_pow_right (by decide) (by omega))),Nat.testBit_lt_two_pow (Nat.lt_of_lt_of_le (show 2 ^ 63 + r < 2 ^ 64 by omega) (Nat.pow_le_pow_right (by decide) (by omega)))];rfl
 have key2:r ^^^ 2 ^ 63=2 ^ 63 + r:=by
   have:=congrArg (· ^^^ 2 ^ 63) key
   simp only [Nat.xor_assoc,Nat.xor_self,Nat.xor_zero] at this
   exact this.symm
 unfold Op.negFloat Format.word
 rw [d_sign]
 cases s
 · exact key2
 · exact key
end Ie
namespace Ie
open Ieee
set_option exponentiation.threshold 3000
theorem read_one:double.read 4607182418800017408=.number false 4503599627370496 (-52):=by decide
theorem read_norm (s:Bool) (r:Nat) (h0:4503599627370496≤r) (h:r < 9218868437227405312):double.read (double.word s r)=.number s (4503599627370496 + r % 4503599627370496) (((r / 4503599627370496 - 1:Nat):Int) - 1074):=by
 have h1:=word_split s r (by omega)
 unfold Format.read
 rw [d_sign,d_bin,d_inf,d_least]
 dsimp only
 rw [h1.1,h1.2]
 have hs:((if s then 1 else 0:Nat) == 1)=s:=by cases s <;> rfl
 rw [hs,if_neg (by omega),if_pos h]
 rw [show (-1074:Int) + ((r / 4503599627370496 - 1:Nat):Int)=((r / 4503599627370496 - 1:Nat):Int) - 1074 by omega]
theorem one_mul (s:Bool) {r:Nat} (h0:238690780250636288≤r) (h:r < 9218868437227405312):double.mul 4607182418800017408 (double.word s r)=some (double.word s r):=by
 have e1:=read_norm s r (by omega) h
 obtain ⟨k,hk⟩:∃ k,r / 4503599627370496 - 1=k:=⟨_,rfl⟩
 have gk:52≤k:=by omega
 have e2:V r=(4503599627370496 + r % 4503599627370496) * 2 ^ k:=by unfold V;rw [if_neg (by omega),hk]
 rw [hk] at e1
 unfold Format.mul
 rw [read_one,e1]
 generalize 4503599627370496 + r % 4503599627370496=m at *
 show some (double.nearest (false ^^ s) (4503599627370496 * m) (-52 + ((k:Int) - 1074)))=_
 rw [Bool.false_xor]
 congr 1
 rw [show (-52 + ((k:Int) - 1074))=((k - 52:Nat):Int) - 1074 by omega]
 refine nearest_eq s _ (k - 52) r h ?_
 rw [e2,Nat.mul_comm 4503599627370496 m,Nat.mul_assoc,show (4503599627370496:Nat)=2 ^ 52 by decide,← Nat.pow_add,show 52 + (k - 52)=k by omega]
end Ie
end Go.Proofs.YtgdolcoiihagfaaGreatDoor
