/- Decimal digits: what they say, and a number's own. No program in sight. Layer 8: which keys are indexes; the digits of every number. No program in sight. Layer 8: when two numbers are the same one. The document's digits of a number. Layer 8: Index and Key, both. Layer 8: Index, both. Layer 8: the document's Index; a number's digits told as an index. -/
import Derived.Test.YtgdolcoiihagfaaGreatDoorBase
import Derived.Lib.AtoiAll
import Derived.Lib.ItoaNum
import Derived.Test.YtgdolcoiihagfaaGreatDoorUtfPure
import Derived.Test.YtgdolcoiihagfaaGreatDoorChecked
import Derived.Stop.Asserts
import Derived.Test.YtgdolcoiihagfaaGreatDoorHuX
import Derived.Deep.DeepCutAuto
import Derived.Lib.LaidTab
import Derived.Lib.SmallJoins
import Derived.Shelf.Unicode.PredsPay
import Derived.Lib.AppendIntMem
namespace Go.Proofs.YtgdolcoiihagfaaGreatDoor
open Go Go.RowKit
set_option linter.all false
set_option maxRecDepth 100000
set_option maxHeartbeats 100000000
def digB (c:UInt8):Bool:=decide (48≤c.toNat) && decide (c.toNat≤57)
def digitsB (l:List UInt8):Bool:=l.all digB
def dnext (a:Nat) (c:UInt8):Nat:=a * 10 + (c.toNat - 48)
def dval (acc:Nat) (l:List UInt8):Nat:=l.foldl dnext acc
theorem dval_nil (a:Nat):dval a []=a:=rfl
theorem dval_cons (a:Nat) (c:UInt8) (r:List UInt8):dval a (c :: r)=dval (a * 10 + (c.toNat - 48)) r:=by
 unfold dval
 rw [List.foldl_cons,dnext]
theorem dval_append (x y:List UInt8) (a:Nat):dval a (x ++ y)=dval (dval a x) y:=by
 unfold dval
 rw [List.foldl_append]
theorem dval_ge:∀ (l:List UInt8) (a:Nat),a≤dval a l
 | [],a=>Nat.le_refl a
 | c :: r,a=>by
   have:=dval_ge r (a * 10 + (c.toNat - 48))
   rw [dval_cons]
   omega
theorem dig_of (u:Nat) (h:u < 10):(UInt8.ofNat (48 + u)).toNat=48 + u:=by rw [UInt8.toNat_ofNat'];omega
theorem decDigits_facts:∀ u:Nat,dval 0 (Lib.decDigits u)=u∧digitsB (Lib.decDigits u)=true∧∃ c r,Lib.decDigits u=c :: r∧(0 < u→c.toNat≠48):=by
 intro u
 induction u using Nat.strongRecOn with
 | _ u ih =>
   rw [Lib.decDigits]
   by_cases h:u < 10
   · rw [dif_pos h]
     have e:=dig_of u h
     refine ⟨?_,?_,_,_,rfl,fun h0=>by rw [e];omega⟩
     · rw [dval_cons,dval_nil,e];omega
     · simp only [digitsB,List.all_cons,List.all_nil,digB,e];simp;omega
   · rw [dif_neg h]
     obtain ⟨h1,h2,c,r,h3,h4⟩:=ih (u / 10) (by omega)
     have e:=dig_of (u % 10) (by omega)
     refine ⟨?_,?_,c,r ++ [UInt8.ofNat (48 + u % 10)],by rw [h3];rfl,fun _=>h4 (by omega)⟩
     · rw [dval_append,h1,dval_cons,dval_nil,e];omega
     · unfold digitsB at h2 ⊢
       rw [List.all_append,h2]
       simp only [List.all_cons,List.all_nil,digB,e];simp;omega
theorem dec_of_dval:∀ (n:Nat) (l:List UInt8),l.length=n→l≠[]→digitsB l=true→(l.head?.map (·.toNat)≠some 48∨l.length=1)→Lib.decDigits (dval 0 l)=l:=by
 intro n
 induction n with
 | zero=>intro l hl hne;exact absurd (List.length_eq_zero_iff.1 hl) hne
 | succ n ih =>
   intro l hl hne hd hh
   obtain ⟨q,c,rfl⟩:∃ q c,l=q ++ [c]:=⟨l.dropLast,l.getLast hne,(List.dropLast_concat_getLast hne).symm⟩
   unfold digitsB at hd
   rw [List.all_append,Bool.and_eq_true] at hd
   obtain ⟨hq,hc⟩:=hd
   have hc:48≤c.toNat∧c.toNat≤57:=by simpa [digB] using hc
   have hcc:UInt8.ofNat (48 + (c.toNat - 48))=c:=by rw [show 48 + (c.toNat - 48)=c.toNat by omega];simp
   rw [dval_append]
   have hlast:dval (dval 0 q) [c]=dval 0 q * 10 + (c.toNat - 48):=by rw [dval_cons,dval_nil]
   rw [hlast]
   cases hq0:q with
   | nil =>
     subst hq0
     have:dval 0 ([]:List UInt8)=0:=rfl
     rw [this,Nat.zero_mul,Nat.zero_add,Lib.decDigits,dif_pos (by omega),hcc]
     rfl
   | cons d q' =>
     have hd48:d.toNat≠48:=by
       rcases hh with hh | hh
       · rw [hq0] at hh;simpa using hh
       · rw [hq0] at hh;simp at hh
     have hdd:48≤d.toNat∧d.toNat≤57:=by
       rw [hq0,List.all_cons,Bool.and_eq_true] at hq
       simpa [digB] using hq.1
     rw [← hq0]
     have hpos:1≤dval 0 q:=by
       rw [hq0,dval_cons]
       have:=dval_ge q' (0 * 10 + (d.toNat - 48))
       omega
     rw [Lib.decDigits,dif_neg (by omega)]
     have e1:(dval 0 q * 10 + (c.toNat - 48)) / 10=dval 0 q:=by omega
     have e2:(dval 0 q * 10 + (c.toNat - 48)) % 10=c.toNat - 48:=by omega
     rw [e1,e2,hcc,ih q (by simpa using hl) (by rw [hq0];simp) hq (.inl (by rw [hq0];simpa using hd48))]
def unitsOf (l:List UInt8):List Nat:=(List.range (l.length / 2)).map (at16 l)
def wide8 (l:List UInt8):List UInt8:=l.flatMap fun c=>[0,c]
def keyOf (n:Int):List UInt8:=wide8 (Lib.itoa n)
def badLen (l:List UInt8):Bool:=l.length % 2 != 0 || l.length == 0 || decide (20 < l.length)
def idxL:List Nat→Nat→Bool→Option Nat
 | [],n,_=>some n
 | u :: r,n,z=>if u < 48∨57 < u∨(z=true∧n=0) then none else idxL r (n * 10 + (u - 48)) true
def dgL:List Nat→Nat→Option Nat
 | [],n=>some n
 | u :: r,n=>if u < 48∨57 < u then none else dgL r (n * 10 + (u - 48))
def most31 (o:Option Nat):Option Nat:=o.bind fun n=>if 2147483647 < n then none else some n
def index (l:List UInt8):Option Nat:=if badLen l=true then none else most31 (idxL (unitsOf l) 0 false)
def rindex (l:List UInt8):Option Nat:=if badLen l=true then none else (dgL (unitsOf l) 0).bind fun n=>if 2147483647 < n∨keyOf n≠l then none else some n
theorem unitsOf_len (l:List UInt8):(unitsOf l).length=l.length / 2:=by simp [unitsOf]
theorem unitsOf_at (l:List UInt8) (i:Nat) (h:i < l.length / 2):(unitsOf l)[i]?=some (at16 l i):=by simp [unitsOf,h]
theorem wide8_len (l:List UInt8):(wide8 l).length=2 * l.length:=by
 induction l with
 | nil=>rfl
 | cons c r ih=>simp only [wide8,List.flatMap_cons,List.length_append,List.length_cons,List.length_nil] at ih ⊢;omega
theorem wide8_inj:∀ {a b:List UInt8},wide8 a=wide8 b→a=b
 | [],[],_=>rfl
 | [],c :: r,h=>by simp [wide8] at h
 | c :: r,[],h=>by simp [wide8] at h
 | c :: r,d :: s,h=>by
   simp only [wide8,List.flatMap_cons,List.cons_append,List.nil_append,List.cons.injEq] at h
   obtain ⟨-,rfl,h⟩:=h
   rw [wide8_inj h]
theorem wide8_by8:∀ (l:List UInt8) (i:Nat),by8 (wide8 l) (2 * i)=0∧by8 (wide8 l) (2 * i + 1)=by8 l i
 | [],i=>by simp [wide8,by8]
 | c :: r,0=>by simp [wide8,by8]
 | c :: r,i + 1=>by
   have:=wide8_by8 r i
   simp only [wide8,by8,List.flatMap_cons,List.cons_append,List.nil_append] at this ⊢
   rw [show 2 * (i + 1)=2 * i + 1 + 1 by omega,show 2 * i + 1 + 1 + 1=(2 * i + 1) + 1 + 1 by omega]
   simp only [List.getD_cons_succ]
   exact this
theorem units_wide8 (l:List UInt8):unitsOf (wide8 l)=l.map (·.toNat):=by
 apply List.ext_getElem?
 intro i
 unfold unitsOf
 rw [wide8_len,Nat.mul_div_cancel_left _ (by decide)]
 by_cases h:i < l.length
 · obtain ⟨h1,h2⟩:=wide8_by8 l i
   have ha:at16 (wide8 l) i=l[i].toNat:=by
     unfold at16
     rw [h1,h2]
     simp [by8,h]
   simp only [List.getElem?_map,List.getElem?_range h,Option.map_some,ha]
   simp [h]
 · simp [h]
theorem text_of_units (l:List UInt8) (h2:l.length % 2=0) (h:∀ u∈unitsOf l,u < 256):l=wide8 ((unitsOf l).map UInt8.ofNat):=by
 apply List.ext_getElem?
 intro i
 have hlen:(wide8 ((unitsOf l).map UInt8.ofNat)).length=l.length:=by rw [wide8_len,List.length_map,unitsOf_len];omega
 by_cases hi:i < l.length
 · have key:by8 l i=by8 (wide8 ((unitsOf l).map UInt8.ofNat)) i:=by
     obtain ⟨h3,h4⟩:=wide8_by8 ((unitsOf l).map UInt8.ofNat) (i / 2)
     have hu:=unitsOf_at l (i / 2) (by omega)
     have hlt:=h _ (List.mem_of_getElem? hu)
     have b0:=by8_lt l (2 * (i / 2))
     have b1:=by8_lt l (2 * (i / 2) + 1)
     unfold at16 at hlt hu
     rcases Nat.mod_two_eq_zero_or_one i with hm | hm
     · have e:2 * (i / 2)=i:=by omega
       rw [e] at h3 b0 hlt
       rw [h3]
       omega
     · have e:2 * (i / 2) + 1=i:=by omega
       rw [e] at h4 b1
       rw [h4]
       have hv:by8 ((unitsOf l).map UInt8.ofNat) (i / 2)=(UInt8.ofNat (by8 l (2 * (i / 2)) * 256 + by8 l (2 * (i / 2) + 1))).toNat:=by
         unfold by8
         rw [List.getD_eq_getElem?_getD,List.getElem?_map,hu]
         rfl
       rw [hv,UInt8.toNat_ofNat',e]
       omega
   have hl:l[i]?=some (l.getD i 0):=by rw [List.getElem?_eq_getElem hi];simp [hi]
   have hr:(wide8 ((unitsOf l).map UInt8.ofNat))[i]?=some ((wide8 ((unitsOf l).map UInt8.ofNat)).getD i 0):=by rw [List.getElem?_eq_getElem (by rw [hlen];exact hi)];simp [hlen,hi]
   rw [hl,hr]
   congr 1
   exact UInt8.toNat_inj.1 key
 · rw [List.getElem?_eq_none (by omega),List.getElem?_eq_none (by omega)]
theorem dgL_some:∀ (us:List Nat) (n:Nat),dgL us n=if (us.all fun u=>decide (48≤u) && decide (u≤57))=true then some (dval n (us.map UInt8.ofNat)) else none
 | [],n=>by simp [dgL,dval]
 | u :: r,n=>by
   rw [dgL]
   by_cases h:u < 48∨57 < u
   · rw [if_pos h,if_neg]
     simp only [List.all_cons,Bool.and_eq_true,decide_eq_true_eq]
     omega
   · rw [if_neg h,dgL_some r]
     have e:(UInt8.ofNat u).toNat=u:=by rw [UInt8.toNat_ofNat'];omega
     simp only [List.all_cons,List.map_cons,dval_cons,e]
     have hu:(decide (48≤u) && decide (u≤57))=true:=by simp;omega
     rw [hu,Bool.true_and]
theorem idxL_pos:∀ (us:List Nat) (n:Nat) (z:Bool),0 < n→idxL us n z=dgL us n
 | [],n,z,_=>rfl
 | u :: r,n,z,h=>by
   rw [idxL,dgL]
   by_cases hu:u < 48∨57 < u
   · rw [if_pos hu,if_pos (by omega)]
   · rw [if_neg hu,if_neg (by omega),idxL_pos r _ true (by omega)]
theorem idxL_dgL (us:List Nat):idxL us 0 false=if us.head?=some 48∧2≤us.length then none else dgL us 0:=by
 cases us with
 | nil=>simp [idxL,dgL]
 | cons u r =>
   rw [idxL,dgL]
   by_cases hu:u < 48∨57 < u
   · rw [if_pos (by omega),if_pos hu]
     split <;> rfl
   · rw [if_neg (by rintro (h | h | h);omega;omega;cases h.1),if_neg hu]
     by_cases h0:u=48
     · subst h0
       cases r with
       | nil=>simp [idxL,dgL]
       | cons v s=>simp [idxL]
     · rw [idxL_pos _ _ _ (by omega),if_neg]
       simp [h0]
theorem index_rindex (l:List UInt8):rindex l=index l:=by
 unfold rindex index
 by_cases hb:badLen l=true
 · rw [if_pos hb,if_pos hb]
 rw [if_neg hb,if_neg hb,idxL_dgL]
 simp only [badLen,Bool.or_eq_true,bne_iff_ne,beq_iff_eq,decide_eq_true_eq,ne_eq,not_or,Decidable.not_not,Nat.not_lt] at hb
 have hul:=unitsOf_len l
 rw [dgL_some]
 by_cases hall:((unitsOf l).all fun u=>decide (48≤u) && decide (u≤57))=true
 · rw [if_pos hall]
   have hd:∀ u∈unitsOf l,48≤u∧u≤57:=fun u hu=>by
     have:=List.all_eq_true.1 hall u hu
     simpa using this
   have htx:=text_of_units l hb.1.1 (fun u hu=>by have:=hd u hu;omega)
   have hdig:digitsB ((unitsOf l).map UInt8.ofNat)=true:=by
     unfold digitsB
     rw [List.all_map,List.all_eq_true]
     intro u hu
     have:=hd u hu
     have e:(UInt8.ofNat u).toNat=u:=by rw [UInt8.toNat_ofNat'];omega
     simp [digB,e]
     omega
   generalize hbs:(unitsOf l).map UInt8.ofNat=bs at *
   have hbl:bs.length=l.length / 2:=by rw [← hbs,List.length_map,hul]
   have hne:bs≠[]:=fun h=>by rw [h] at hbl;simp at hbl;omega
   have hit:Lib.itoa ((dval 0 bs:Nat):Int)=Lib.decDigits (dval 0 bs):=by rw [Lib.itoa,if_neg (by omega)];rfl
   have hhead:(unitsOf l).head?=some 48↔bs.head?.map (·.toNat)=some 48:=by
     rw [← hbs]
     cases hu:unitsOf l with
     | nil=>simp
     | cons u r =>
       have:=hd u (by rw [hu];simp)
       simp only [List.head?_cons,List.map_cons,Option.map_some,Option.some.injEq]
       rw [UInt8.toNat_ofNat']
       omega
   have hkey:keyOf ((dval 0 bs:Nat):Int)=l↔¬ ((unitsOf l).head?=some 48∧2≤(unitsOf l).length):=by
     unfold keyOf
     rw [hit]
     constructor
     · intro hk ⟨h1,h2⟩
       rw [htx] at hk
       have hk:=wide8_inj hk
       obtain ⟨f1,f2,c,r,f3,f4⟩:=decDigits_facts (dval 0 bs)
       rw [hhead,← hk,f3] at h1
       simp only [List.head?_cons,Option.map_some,Option.some.injEq] at h1
       by_cases h0:0 < dval 0 bs
       · exact f4 h0 h1
       · have hz:dval 0 bs=0:=by omega
         rw [hz] at hk
         have:bs.length=1:=by rw [← hk,Lib.decDigits_length,Lib.nDigits_small (by omega)]
         omega
     · intro h
       have hor:bs.head?.map (·.toNat)≠some 48∨bs.length=1:=by
         by_cases h1:bs.head?.map (·.toNat)=some 48
         · right
           have h3:¬ 2≤(unitsOf l).length:=fun h2=>h ⟨hhead.2 h1,h2⟩
           have:=List.length_pos_iff.2 hne
           omega
         · exact .inl h1
       rw [dec_of_dval _ bs rfl hne hdig hor,← htx]
   by_cases hz:(unitsOf l).head?=some 48∧2≤(unitsOf l).length
   · rw [if_pos hz]
     simp only [Option.bind_some,most31,Option.bind_none]
     rw [if_pos (.inr (fun e=>hkey.1 e hz))]
   · rw [if_neg hz]
     simp only [Option.bind_some,most31]
     by_cases hm:2147483647 < dval 0 bs
     · rw [if_pos (.inl hm),if_pos hm]
     · rw [if_neg (by rintro (h | h);exact hm h;exact h (hkey.2 hz)),if_neg hm]
 · rw [if_neg hall]
   split <;> rfl
theorem index_key (n:Int) (h0:-9223372036854775808≤n) (h1:n≤9223372036854775807):index (keyOf n)=if 0≤n∧n≤2147483647 then some n.toNat else none:=by
 by_cases hn:n < 0
 · rw [if_neg (by omega)]
   unfold index
   split
   · rfl
   · have e:keyOf n=wide8 (45 :: Lib.decDigits n.natAbs):=by unfold keyOf;rw [Lib.itoa,if_pos hn]
     rw [e,units_wide8]
     simp [idxL,most31]
 · obtain ⟨u,rfl⟩:=Int.eq_ofNat_of_zero_le (show 0≤n by omega)
   rw [← index_rindex]
   have hit:Lib.itoa (u:Int)=Lib.decDigits u:=by rw [Lib.itoa,if_neg (by omega)];rfl
   obtain ⟨f1,f2,c,r,f3,f4⟩:=decDigits_facts u
   have hk:keyOf (u:Int)=wide8 (Lib.decDigits u):=by unfold keyOf;rw [hit]
   have hpos:1≤(Lib.decDigits u).length:=by rw [f3];simp
   have hall:((Lib.decDigits u).map (·.toNat)).all (fun u=>decide (48≤u) && decide (u≤57))=true:=by
     rw [List.all_map]
     exact f2
   have hmm:((Lib.decDigits u).map (·.toNat)).map UInt8.ofNat=Lib.decDigits u:=by
     rw [List.map_map]
     conv=>rhs;rw [← List.map_id (Lib.decDigits u)]
     exact List.map_congr_left fun b _=>by simp
   unfold rindex
   by_cases hm:2147483647 < u
   · have eR:(if (0:Int)≤(u:Int)∧(u:Int)≤2147483647 then some (u:Int).toNat else none)=none:=if_neg (by omega)
     rw [eR]
     split
     · rfl
     · rw [hk,units_wide8,dgL_some,if_pos hall,hmm,f1]
       simp only [Option.bind_some]
       rw [if_pos (.inl hm)]
   · have hl10:(Lib.decDigits u).length≤10:=by
       rw [Lib.decDigits_length]
       have:∀ (k v:Nat),v < 10 ^ (k + 1)→Lib.nDigits v≤k + 1:=by
         intro k
         induction k with
         | zero=>intro v h;rw [Lib.nDigits_small (by simpa using h)];exact Nat.le_refl _
         | succ k ih =>
           intro v h
           by_cases g:v < 10
           · rw [Lib.nDigits_small g];omega
           · rw [Lib.nDigits_big g]
             have:=ih (v / 10) (by rw [Nat.pow_succ] at h;omega)
             omega
       exact this 9 u (by omega)
     have hb:badLen (keyOf (u:Int))=false:=by
       rw [hk]
       unfold badLen
       rw [wide8_len]
       simp
       omega
     have eR:(if (0:Int)≤(u:Int)∧(u:Int)≤2147483647 then some (u:Int).toNat else none)=some u:=by rw [if_pos (by omega)];simp
     rw [hb,if_neg (by decide),eR,hk,units_wide8,dgL_some,if_pos hall,hmm,f1]
     simp only [Option.bind_some]
     rw [if_neg (by rintro (h | h);omega;exact h hk)]
open Go Go.RowKit Go.Stop Go.Extern.Stop
def nanB (x:Nat):Bool:=FloatKind.f64.format.order x x != some Ordering.eq
def signB (x:Nat):Bool:=decide (9223372036854775808≤x)
def eqB (x y:Nat):Bool:=FloatKind.f64.format.order x y == some Ordering.eq
def sameB (x y:Nat):Bool:=if nanB x || nanB y then nanB x && nanB y else eqB x y && (signB x == signB y)
theorem sign_any (x:Nat) (hx:x < 18446744073709551616) (w:World):Calls Tryz.prog 106 #[.float .f64 x] w fun e w'=>e=.returned (.bool (signB x))∧w=w':=by
 have h6:=@run_callFunc_extern Tryz.prog 38 _ Go.Extern.MathFloatBits.float64bits Tryz.func38 (by kernel_rfl) (by kernel_rfl) (by kernel_rfl) (by kernel_rfl)
 have fb:∀ w:World,(Go.Extern.MathFloatBits.float64bits #[.float .f64 x]).run Tryz.prog w=.ok (.int .u64 (x:Nat)) w:=fun w=>rfl
 by_cases hs:9223372036854775808≤x
 · have e:signB x=true:=decide_eq_true hs
   have hw:IntKind.i64.wrap (x:Int)=(x:Int) - 18446744073709551616:=by
     unfold IntKind.wrap
     simp [IntKind.signed,IntKind.bits]
     omega
   have hd:decide ((x:Int) - 18446744073709551616 < 0)=true:=decide_eq_true (by omega)
   rw [e]
   clear e hs
   go_enter Tryz.func106,Tryz.ntmps106
   go_wp2
   go_ret
   exact ⟨by simp,rfl⟩
 · have e:signB x=false:=decide_eq_false hs
   have hw:IntKind.i64.wrap (x:Int)=(x:Int):=IntWalk.i64_in _ (by omega)
   have hd:decide ((x:Int) < 0)=false:=decide_eq_false (by omega)
   rw [e]
   clear e hs
   go_enter Tryz.func106,Tryz.ntmps106
   go_wp2
   go_ret
   exact ⟨by simp,rfl⟩
theorem same_any (x y:Nat) (hx:x < 18446744073709551616) (hy:y < 18446744073709551616) (w:World):Calls Tryz.prog 58 #[.float .f64 x,.float .f64 y] w fun e w'=>e=.returned (.bool (sameB x y))∧w=w':=by
 have S:=fun w=>sign_any x hx w
 have S':=fun w=>sign_any y hy w
 have hR:sameB x y=if nanB x || nanB y then nanB x && nanB y else eqB x y && (signB x == signB y):=rfl
 rw [hR]
 clear hR
 obtain ⟨b1,t1⟩:∃ b1,nanB x=b1:=⟨_,rfl⟩
 obtain ⟨b2,t2⟩:∃ b2,nanB y=b2:=⟨_,rfl⟩
 obtain ⟨b3,t3⟩:∃ b3,eqB x y=b3:=⟨_,rfl⟩
 rw [t1,t2,t3]
 generalize signB x=s1 at *
 generalize signB y=s2 at *
 have u1:(FloatKind.f64.format.order x x != some Ordering.eq)=b1:=t1
 have u2:(FloatKind.f64.format.order y y != some Ordering.eq)=b2:=t2
 have u3:(FloatKind.f64.format.order x y == some Ordering.eq)=b3:=t3
 clear t1 t2 t3 hx hy
 rcases b1 with _ | _ <;> rcases b2 with _ | _ <;> rcases b3 with _ | _
 all_goals
   go_enter Tryz.func58,Tryz.ntmps58
   go_wp2_with (go_at_call 106;first | (refine (S _).mono ?_;rintro e w' ⟨rfl,rfl⟩) | (refine (S' _).mono ?_;rintro e w' ⟨rfl,rfl⟩))
   go_ret
   exact ⟨by simp,rfl⟩
theorem dec_len (u:Nat) (h:u≤9223372036854775808):(Lib.decDigits u).length≤19:=by
 rw [Lib.decDigits_length]
 have:∀ (k u:Nat),u < 10 ^ (k + 1)→Lib.nDigits u≤k + 1:=by
   intro k
   induction k with
   | zero=>intro u h;rw [Lib.nDigits_small (by simpa using h)];exact Nat.le_refl _
   | succ k ih =>
     intro u h
     by_cases g:u < 10
     · rw [Lib.nDigits_small g];omega
     · rw [Lib.nDigits_big g]
       have:=ih (u / 10) (by rw [Nat.pow_succ] at h;omega)
       omega
 exact this 18 u (by omega)
theorem of_any (l:List UInt8) (w:World) (hs:l.length≤1000000) :
   Calls Tryz.prog 20 #[.string ⟨l.toArray⟩] w fun e w'=>e=.returned (.string ⟨(wide8 l).toArray⟩)∧Pur w w':=by
 have hsn:∀ n,n < l.length→wide8 (l.take (n + 1))=wide8 (l.take n) ++ unit8 (by8 l n):=by
   intro n hn
   rw [List.take_succ_eq_append_getElem hn]
   have e:unit8 (by8 l n)=[0,l[n]]:=by
     unfold unit8 by8
     have hl:=l[n].toNat_lt
     simp only [List.getD_eq_getElem?_getD,List.getElem?_eq_getElem hn,Option.getD_some]
     rw [Nat.div_eq_of_lt hl,Nat.mod_eq_of_lt hl]
     simp
   rw [e]
   simp only [wide8,List.flatMap_append,List.flatMap_cons,List.flatMap_nil,List.append_nil]
 go_enter Tryz.func20,Tryz.ntmps20
 go_wp2
 go_loopw [3,4] (fun a k wr=>∃ n:Nat,n≤l.length∧k=.int .i64 n∧a=.string ⟨(wide8 (l.take n)).toArray⟩∧Pur w wr) (fun _ k _=>l.length + 1 - (intOf k).toNat)
 case atStart=>exact ⟨0,by omega,rfl,rfl,Pur.refl w⟩
 case round =>
   obtain ⟨n,hn,rfl,rfl,hpr⟩:=hrel
   by_cases hlt:n < l.length
   · have hlt':(n:Int) < l.length:=by omega
     have cb:=by8_lt l n
     have HS:=Lib.hid (hsn n hlt)
     have hwl:=wide8_len (l.take n)
     rw [List.length_take] at hwl
     have U:=fun w=>runit_any (by8 l n:Nat) w (by omega) (by omega)
     have ut:((by8 l n:Nat):Int).toNat=by8 l n:=by omega
     rw [ut] at U
     clear ut
     have z1:¬ 9223372036854775807 < (wide8 (l.take n)).length + 2:=by omega
     generalize wide8 (l.take n)=acc at *
     clear hsn
     go_wp2_with fail
     refine (U _).mono ?_
     rintro e w1 ⟨rfl,h1⟩
     go_wp2
     go_roundw
     case rel=>exact ⟨n + 1,by omega,by go_num,by rw [HS.out],hpr.trans h1⟩
     case measure=>simp [intOf];omega
   · obtain rfl:n=l.length:=by omega
     rw [List.take_length]
     clear hsn
     go_wp2
     go_ret
     exact ⟨rfl,hpr⟩
structure HpW (w:World):Prop where
 tabs:Lib.Utf8Tabs 9 10 w
 pow:Lib.TabIs Tryz.prog w "internal/strconv.uint64pow10" .u64 Lib.pow10Tab
theorem HpW.pur {w w':World} (h:HpW w) (hp:Pur w w'):HpW w':=⟨Utf8Tabs_below h.1 hp,TabIs_below (g:=11) (by kernel_rfl) h.2 hp⟩
theorem wide_ascii (l:List UInt8) (h:∀ c∈l,c.toNat < 128):wideR l=(wide8 l,0,0):=by
 have key:∀ (k i:Nat) (acc:List UInt8),l.length - i=k→i≤l.length→wideGo l i acc=(acc ++ wide8 (l.drop i),0,0):=by
   intro k
   induction k with
   | zero =>
     intro i acc hk hi
     rw [wideGo,if_neg (by omega),List.drop_eq_nil_of_le (by omega)]
     simp [wide8]
   | succ k ih =>
     intro i acc hk hi
     have hlt:i < l.length:=by omega
     have hb:by8 l i < 128:=by
       have:=h l[i] (List.getElem_mem hlt)
       simpa [by8,hlt] using this
     have hc:chr l i=(by8 l i,1):=by unfold chr;rw [if_neg (by omega),if_pos hb]
     rw [wideGo,if_pos hlt,hc]
     simp only
     rw [if_neg (by decide),ih (i + 1) _ (by omega) (by omega),List.drop_eq_getElem_cons hlt]
     have hu:units (by8 l i)=[0,l[i]]:=by
       unfold units
       rw [if_neg (by omega)]
       unfold unit8 by8
       have hl:=l[i].toNat_lt
       simp only [List.getD_eq_getElem?_getD,List.getElem?_eq_getElem hlt,Option.getD_some]
       rw [Nat.div_eq_of_lt hl,Nat.mod_eq_of_lt hl]
       simp
     rw [hu]
     simp only [wide8,List.flatMap_cons,List.append_assoc]
 have:=key l.length 0 [] (by omega) (by omega)
 simpa [wideR] using this
theorem itoa_ascii (n:Int):∀ c∈Lib.itoa n,c.toNat < 128:=by
 have hd:∀ u,∀ c∈Lib.decDigits u,c.toNat < 128:=fun u c hc=>by
   have:=List.all_eq_true.1 (decDigits_facts u).2.1 c hc
   simp [digB] at this
   omega
 intro c hc
 rw [Lib.itoa] at hc
 split at hc
 · rcases List.mem_cons.1 hc with rfl | hc
   · decide
   · exact hd _ c hc
 · exact hd _ c hc
theorem itoa_short (n:Int) (h0:-9223372036854775808≤n) (h1:n≤9223372036854775807):(Lib.itoa n).length≤20:=by
 rw [Lib.itoa]
 split
 · have:=dec_len n.natAbs (by omega);simp only [List.length_cons];omega
 · have:=dec_len n.toNat (by omega);omega
theorem key_any (n:Int) (w:World) (hW:HpW w) (h0:-9223372036854775808≤n) (h1:n≤9223372036854775807) :
   Calls Tryz.prog 73 #[.int .i64 n] w fun e w'=>e=.returned (.string ⟨(keyOf n).toArray⟩)∧Pur w w':=by
 have hl:=itoa_short n h0 h1
 have W:=fun w hT=>wide_any (Lib.itoa n) w hT (by omega)
 rw [wide_ascii _ (itoa_ascii n)] at W
 have I:=fun (w:World) (hW:HpW w)=>Tryz.strconv_Itoa n h0 h1 w hW.pow
 go_enter Tryz.func73,Tryz.ntmps73
 go_wp2_with fail
 refine (I _ hW).mono ?_
 rintro e w1 ⟨rfl,k,os,hw1⟩
 have hp:Pur w w1:=by rw [hw1];exact Lib.below_grow _ _ (Nat.le_refl _) _ _
 clear hw1
 go_wp2_with fail
 refine (W _ (hW.pur hp).tabs).mono ?_
 rintro e w2 ⟨rfl,h2⟩
 go_wp2
 go_ret
 exact ⟨rfl,hp.trans h2⟩
def ix (o:Option Nat):Int × Bool:=match o with
 | some n=>(n,true)
 | none=>(0,false)
theorem most_no (n:Nat) (h:2147483647 < n):most31 (some n)=none:=by simp [most31,h]
theorem most_yes (n:Nat) (h:n≤2147483647):most31 (some n)=some n:=by simp [most31];omega
theorem units_step (l:List UInt8) (k:Nat) (h:k < l.length / 2):(unitsOf l).drop k=at16 l k :: (unitsOf l).drop (k + 1):=by
 have hlt:k < (unitsOf l).length:=by rw [unitsOf_len];exact h
 rw [List.drop_eq_getElem_cons hlt]
 have:=unitsOf_at l k h
 rw [List.getElem?_eq_getElem hlt] at this
 rw [Option.some.inj this]
theorem index_bad (l:List UInt8) (w:World) (hs:l.length≤1000000000) (hb:badLen l=true) :
   Calls Tryz.prog 103 #[.string ⟨l.toArray⟩] w fun e w'=>e=.returned (.tuple #[.int .i64 0,.bool false])∧Pur w w':=by
 unfold badLen at hb
 obtain ⟨b1,t1⟩:∃ b1,((l.length:Int) % 2 != 0)=b1:=⟨_,rfl⟩
 obtain ⟨b2,t2⟩:∃ b2,((l.length:Int) == 0)=b2:=⟨_,rfl⟩
 obtain ⟨b3,t3⟩:∃ b3,decide ((20:Int) < (l.length:Int))=b3:=⟨_,rfl⟩
 have hor:(b1 || b2 || b3)=true:=by
   rw [← t1,← t2,← t3]
   simp only [Bool.or_eq_true,bne_iff_ne,beq_iff_eq,decide_eq_true_eq,ne_eq] at hb ⊢
   omega
 have t1':((l.length:Int).tmod 2 != 0)=b1:=by rw [Int.tmod_eq_emod_of_nonneg (by omega)];exact t1
 have hw:(0:Int)≤l.length:=by omega
 clear hb
 rcases b1 with _ | _ <;> rcases b2 with _ | _ <;> rcases b3 with _ | _
 · exact absurd hor (by decide)
 all_goals
   go_enter Tryz.func103,Tryz.ntmps103
   go_wp2
   go_ret2
   exact ⟨rfl,Pur.refl w⟩
theorem index_any (l:List UInt8) (w:World) (hs:l.length≤1000000000) :
   Calls Tryz.prog 103 #[.string ⟨l.toArray⟩] w fun e w'=>e=.returned (.tuple #[.int .i64 (ix (index l)).1,.bool (ix (index l)).2])∧Pur w w':=by
 by_cases hb:badLen l=true
 · have e:index l=none:=by unfold index;rw [if_pos hb]
   rw [e]
   exact index_bad l w hs hb
 have e:index l=most31 (idxL (unitsOf l) 0 false):=by unfold index;rw [if_neg hb]
 rw [e]
 clear e
 unfold badLen at hb
 simp only [Bool.or_eq_true,bne_iff_ne,beq_iff_eq,decide_eq_true_eq,ne_eq,not_or,Decidable.not_not,Nat.not_lt] at hb
 have t1:((l.length:Int) % 2 != 0)=false:=by simp only [bne_eq_false_iff_eq];omega
 have t1':((l.length:Int).tmod 2 != 0)=false:=by rw [Int.tmod_eq_emod_of_nonneg (by omega)];exact t1
 have t2:((l.length:Int) == 0)=false:=by simp only [beq_eq_false_iff_ne,ne_eq];omega
 have t3:decide ((20:Int) < (l.length:Int))=false:=decide_eq_false (by omega)
 have hl20:l.length≤20:=hb.2
 have L:=fun w=>length_any l w (by omega)
 clear hb
 go_enter Tryz.func103,Tryz.ntmps103
 go_wp2_with fail
 refine (L _).mono ?_
 rintro e w1 ⟨rfl,rfl⟩
 go_wp2
 go_loopw [4,24] (fun a k wr=>∃ n v:Nat,n≤l.length / 2∧k=.int .i64 n∧a=.int .i64 v∧v < 10 ^ n∧Pur w wr∧Hid (idxL (unitsOf l) 0 false=idxL ((unitsOf l).drop n) v (decide (0 < n)))) (fun _ k _=>l.length + 1 - (intOf k).toNat)
 case atStart=>exact ⟨0,0,by omega,rfl,rfl,by simp,Pur.refl w,Lib.hid (by simp)⟩
 case round =>
   obtain ⟨n,v,hn,rfl,rfl,hv,hpr,H⟩:=hrel
   have hv10:v < 10000000000:=Nat.lt_of_lt_of_le hv (Nat.pow_le_pow_right (by decide) (show n≤10 by omega))
   by_cases hlt:n < l.length / 2
   · have hlt':(n:Int) < ((l.length / 2:Nat):Int):=by omega
     have l1:decide ((n:Int) < ((l.length / 2:Nat):Int))=true:=decide_eq_true hlt'
     have A:=fun w=>at_in l n w (by omega) hlt
     have hu:=at16_lt l n
     have HS:=Lib.hid (H.out.trans (by rw [units_step l n hlt,idxL]))
     have hv9:v < 1000000000:=Nat.lt_of_lt_of_le hv (Nat.pow_le_pow_right (by decide) (show n≤9 by omega))
     have HP:=Lib.hid (show v * 10 + 9 < 10 ^ (n + 1) from by rw [Nat.pow_succ];omega)
     clear hv
     generalize at16 l n=u at *
     clear H L
     obtain ⟨b1,q1⟩:∃ b1,decide ((u:Int) < 48)=b1:=⟨_,rfl⟩
     obtain ⟨b2,q2⟩:∃ b2,decide ((57:Int) < (u:Int))=b2:=⟨_,rfl⟩
     obtain ⟨b3,q3⟩:∃ b3,decide ((0:Int) < (n:Int))=b3:=⟨_,rfl⟩
     obtain ⟨b4,q4⟩:∃ b4,((v:Int) == 0)=b4:=⟨_,rfl⟩
     have q3':decide (0 < n)=b3:=by rw [← q3,Bool.eq_iff_iff,decide_eq_true_eq,decide_eq_true_eq];omega
     have q4':(v == 0)=b4:=by rw [← q4,Bool.eq_iff_iff,beq_iff_eq,beq_iff_eq];omega
     by_cases hbad:u < 48∨57 < u∨(decide (0 < n)=true∧v=0)
     · have HN:=Lib.hid (HS.out.trans (if_pos hbad))
       have hor:(b1 || b2 || (b3 && b4))=true:=by
         rw [← q1,← q2,← q3,← q4]
         simp only [Bool.or_eq_true,Bool.and_eq_true,beq_iff_eq,decide_eq_true_eq] at hbad ⊢
         omega
       clear HS hbad
       rcases b1 with _ | _ <;> rcases b2 with _ | _ <;> rcases b3 with _ | _ <;> rcases b4 with _ | _
       all_goals
         first
         | exact absurd hor (by decide)
         | (clear hor
            go_wp2_with fail
            refine (A _).mono ?_
            rintro e w2 ⟨rfl,h2⟩
            go_wp2
            go_ret2
            refine ⟨?_,hpr.trans h2⟩
            rw [HN.out]
            rfl)
     · have HN:=Lib.hid (HS.out.trans (if_neg hbad))
       have c1:b1=false:=by rw [← q1];exact decide_eq_false (by omega)
       have c2:b2=false:=by rw [← q2];exact decide_eq_false (by omega)
       have c3:(b3 && b4)=false:=by
         rw [← q3,← q4]
         simp only [Bool.and_eq_false_iff,decide_eq_false_iff_not,beq_eq_false_iff_ne,ne_eq]
         simp only [decide_eq_true_eq] at hbad
         omega
       have e1:(v:Int) * 10 + u - 48=((v * 10 + (u - 48):Nat):Int):=by omega
       have hdec:(decide (0 < n + 1))=true:=by simp
       obtain ⟨x,hx⟩:∃ x:Nat,v * 10 + (u - 48)=x:=⟨_,rfl⟩
       have e2:(v:Int) * 10 + u - 48=(x:Int):=by omega
       have HX:=Lib.hid hx
       subst c1 c2
       have hxb:x < 10000000000:=by omega
       have hx9:x≤v * 10 + 9:=by omega
       have hu2:48≤u∧u≤57:=by omega
       clear HS hbad e1 hx
       rcases b3 with _ | _ <;> rcases b4 with _ | _
       all_goals
         first
         | exact absurd c3 (by decide)
         | (clear c3
            go_wp2_with fail
            refine (A _).mono ?_
            rintro e w2 ⟨rfl,h2⟩
            go_wp2
            go_roundw
            case rel=>exact ⟨n + 1,x,by omega,by go_num,rfl,Nat.lt_of_le_of_lt hx9 HP.out,hpr.trans h2,by rw [← HX.out,hdec];exact HN⟩
            case measure=>simp [intOf];omega)
   · obtain rfl:n=l.length / 2:=by omega
     have l1:decide (((l.length / 2:Nat):Int) < ((l.length / 2:Nat):Int))=false:=by simp
     have HV:idxL (unitsOf l) 0 false=some v:=by rw [H.out,List.drop_eq_nil_of_le (by rw [unitsOf_len];omega),idxL]
     have HM:=Lib.hid (congrArg most31 HV)
     clear H HV L hv hlt hn
     by_cases hm:2147483647 < v
     · have HN:=Lib.hid (HM.out.trans (most_no v hm))
       have d1:decide ((2147483647:Int) < (v:Int))=true:=decide_eq_true (by omega)
       clear hm
       go_wp2
       go_ret2
       exact ⟨by rw [HN.out];rfl,hpr⟩
     · have HN:=Lib.hid (HM.out.trans (most_yes v (by omega)))
       have d1:decide ((2147483647:Int) < (v:Int))=false:=decide_eq_false (by omega)
       clear hm
       go_wp2
       go_ret2
       exact ⟨by rw [HN.out];rfl,hpr⟩
end Go.Proofs.YtgdolcoiihagfaaGreatDoor
