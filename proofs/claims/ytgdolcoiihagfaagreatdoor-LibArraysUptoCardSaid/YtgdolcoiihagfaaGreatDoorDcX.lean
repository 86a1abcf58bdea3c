/- The library's decimal of 800 digits in plain words: shifts to the right and to the left, and what they keep. The library's decimal in plain words: shifts by any number of places, rounding, its bits as a float, and how it is read. The library's decimal in plain words: what the shifts keep, and that they come nearer to a half. The library's decimal as it lies: a block of 800 bytes and four more cells; trailing noughts cut. The library's decimal, shifted to the right. The library's decimal, shifted to the left: the cutoff compared. The library's decimal, shifted by any number of places; rounding. The library's decimal, rounded to a whole number. A scope with two labels ahead: what stands behind each is walked from each jump. -/
import Derived.Test.YtgdolcoiihagfaaGreatDoorBase
import Derived.Test.YtgdolcoiihagfaaGreatDoorNmX
import Derived.Test.YtgdolcoiihagfaaGreatDoorTbE
import Derived.Test.YtgdolcoiihagfaaGreatDoorChecked
import Derived.Laws.BitsAllLaws
import Derived.Laws.ShiftsVarLaws
import Derived.Lib.Hide
import Derived.Deep.CutBlock
import Derived.WalkMore
import Derived.Scope
namespace Go.Proofs.YtgdolcoiihagfaaGreatDoor
open Go
set_option linter.all false
set_option maxRecDepth 100000
set_option maxHeartbeats 100000000
namespace Dc
def dg (D:List Nat) (i:Nat):Nat:=D.getD i 0
theorem dg_set {D:List Nat} {i:Nat} (h:i < D.length) (v j:Nat):dg (D.set i v) j=if j=i then v else dg D j:=by
 unfold dg
 rw [List.getD_eq_getElem?_getD,List.getD_eq_getElem?_getD,List.getElem?_set]
 by_cases e:j=i
 · subst e;simp [h]
 · rw [if_neg (Ne.symm e),if_neg e]
theorem dg_get {D:List Nat} {i:Nat} (h:i < D.length):D[i]?=some (dg D i):=by
 unfold dg;rw [List.getD_eq_getElem?_getD,List.getElem?_eq_getElem h];rfl
structure Dec where
 D:List Nat
 nd:Nat
 dp:Int
 tr:Bool
def V (n:Nat) (D:List Nat):Prop:=∀ i,i < n→48≤dg D i∧dg D i≤57
theorem V.set {n:Nat} {D:List Nat} (h:V n D) {i v:Nat} (hi:i < D.length) (h1:48≤v) (h2:v≤57):V n (D.set i v):=fun j hj=>by
 rw [dg_set hi];split
 · exact ⟨h1,h2⟩
 · exact h j hj
theorem V.grow {n:Nat} {D:List Nat} (h:V n D) {v:Nat} (hi:n < D.length) (h1:48≤v) (h2:v≤57):V (n + 1) (D.set n v):=fun j hj=>by
 rw [dg_set hi];split
 · exact ⟨h1,h2⟩
 · exact h j (by omega)
theorem V.mono {n m:Nat} {D:List Nat} (h:V n D) (hm:m≤n):V m D:=fun j hj=>h j (by omega)
def B (D:List Nat):Prop:=D.length=800∧∀ i,dg D i < 256
theorem B.set {D:List Nat} (h:B D) {v:Nat} (hv:v < 256) (i:Nat):B (D.set i v):=by
 refine ⟨by rw [List.length_set];exact h.1,fun j=>?_⟩
 by_cases hi:i < D.length
 · rw [dg_set hi];split
   · exact hv
   · exact h.2 j
 · rw [List.set_eq_of_length_le (by omega)];exact h.2 j
structure Ok (x:Dec):Prop where
 b:B x.D
 nd:x.nd≤800
 v:V x.nd x.D
 pos:0 < x.nd
 d0:49≤dg x.D 0
def trimN (D:List Nat):Nat→Nat
 | 0=>0
 | n + 1=>if dg D n=48 then trimN D n else n + 1
def trim (x:Dec):Dec:=⟨x.D,trimN x.D x.nd,if trimN x.D x.nd=0 then 0 else x.dp,x.tr⟩
def grow (k:Nat):Nat→Nat→Nat→Nat × Nat
 | 0,r,n=>(r,n)
 | f + 1,r,n=>if n / 2 ^ k=0 then grow k f (r + 1) (n * 10) else (r,n)
def mid (k nd:Nat) (D:List Nat) (r w n:Nat):List Nat × Nat × Nat :=
 if r < nd then mid k nd (D.set w (n / 2 ^ k + 48)) (r + 1) (w + 1) (n % 2 ^ k * 10 + (dg D r - 48)) else (D,w,n)
termination_by nd - r
def pl (D:List Nat) (nd:Nat) (s:List Nat) (i:Nat):Bool :=
 if i < s.length then (if nd≤i then true else if dg D i≠s.getD i 0 then decide (dg D i < s.getD i 0) else pl D nd s (i + 1)) else false
termination_by s.length - i
def lmid (k dl:Nat):List Nat→Nat→Nat→Bool→List Nat × Nat × Bool
 | D,0,n,tr=>(D,n,tr)
 | D,r + 1,n,tr =>
   if r + dl < 800 then lmid k dl (D.set (r + dl) ((n + (dg D r - 48) * 2 ^ k) % 10 + 48)) r ((n + (dg D r - 48) * 2 ^ k) / 10) tr
   else lmid k dl D r ((n + (dg D r - 48) * 2 ^ k) / 10) (tr || decide ((n + (dg D r - 48) * 2 ^ k) % 10≠0))
def lext:List Nat→Nat→Nat→Bool→List Nat × Bool
 | D,0,_,tr=>(D,tr)
 | D,w + 1,n,tr =>
   if n=0 then (D,tr)
   else if w < 800 then lext (D.set w (n % 10 + 48)) w (n / 10) tr
   else lext D w (n / 10) (tr || decide (n % 10≠0))
def cut (k:Nat):List Nat:=if k=0 then [] else (Nat.toDigits 10 (5 ^ k)).map Char.toNat
def dlt (k:Nat):Nat:=if k=0 then 0 else k + 1 - (cut k).length
def dl (k:Nat) (x:Dec):Nat:=dlt k - (if pl x.D x.nd (cut k) 0 then 1 else 0)
def lsh (k:Nat) (x:Dec):Dec :=
 let d:=dl k x
 let m:=lmid k d x.D x.nd 0 x.tr
 let e:=lext m.1 d m.2.1 m.2.2
 trim ⟨e.1,min (x.nd + d) 800,x.dp + d,e.2⟩
def pv (D:List Nat):Nat→Nat
 | 0=>0
 | i + 1=>pv D i * 10 + (dg D i - 48)
theorem pv_lt {D:List Nat}:∀ n,V n D→pv D n < 10 ^ n
 | 0,_=>by simp [pv]
 | n + 1,h=>by
   have h1:=pv_lt n (h.mono (by omega))
   have h2:=h n (by omega)
   rw [pv,Nat.pow_succ];omega
theorem pv_ge {D:List Nat} (h0:49≤dg D 0):∀ n,10 ^ n≤pv D (n + 1)
 | 0=>by simp only [pv];omega
 | n + 1=>by
   have h1:=pv_ge h0 n
   rw [pv,Nat.pow_succ];omega
theorem pv_le {D:List Nat} {i:Nat}:∀ n,i≤n→pv D i * 10 ^ (n - i)≤pv D n
 | 0,h=>by
   have:i=0:=by omega
   subst this;simp
 | n + 1,h=>by
   by_cases e:i=n + 1
   · subst e;simp
   · have h1:=pv_le (D:=D) (i:=i) n (by omega)
     rw [show n + 1 - i=(n - i) + 1 by omega,Nat.pow_succ,pv,← Nat.mul_assoc];omega
theorem pv_up {D:List Nat} {i:Nat}:∀ n,i≤n→V n D→pv D n < (pv D i + 1) * 10 ^ (n - i)
 | 0,h,_=>by
   have:i=0:=by omega
   subst this;simp [pv]
 | n + 1,h,hv=>by
   by_cases e:i=n + 1
   · subst e;simp
   · have h1:=pv_up (D:=D) (i:=i) n (by omega) (hv.mono (by omega))
     have h2:=hv n (by omega)
     rw [show n + 1 - i=(n - i) + 1 by omega,Nat.pow_succ,pv,← Nat.mul_assoc]
     omega
theorem pl_says {D s:List Nat} {nd:Nat} (hv:V nd D) (hs:V s.length s) (hl:49≤dg s (s.length - 1)):∀ m i,s.length - i=m→i≤nd→i≤s.length→pv D i=pv s i →
   (pl D nd s i=true→pv D nd * 10 ^ s.length < pv s s.length * 10 ^ nd)∧(pl D nd s i=false→pv s s.length * 10 ^ nd≤pv D nd * 10 ^ s.length)
 | 0,i,hm,hn,hc,he=>by
   have e:i=s.length:=by omega
   rw [pl,if_neg (by omega)]
   refine ⟨by simp,fun _=>?_⟩
   have h1:=pv_le (D:=D) nd hn
   rw [he,e] at h1
   calc pv s s.length * 10 ^ nd=pv s s.length * 10 ^ (nd - s.length) * 10 ^ s.length:=by
         rw [Nat.mul_assoc,← Nat.pow_add];congr 2;omega
     _≤_:=Nat.mul_le_mul_right _ h1
 | m + 1,i,hm,hn,hc,he=>by
   rw [pl,if_pos (by omega)]
   by_cases a:nd≤i
   · have e:i=nd:=by omega
     subst e
     rw [if_pos (Nat.le_refl _)]
     refine ⟨fun _=>?_,by simp⟩
     -- the last digit of the cutoff is no nought
     obtain ⟨c,hcc⟩:∃ c,s.length=c + 1:=⟨s.length - 1,by omega⟩
     have h1:=pv_le (D:=s) (i:=i) c (by omega)
     have h2:pv s s.length=pv s c * 10 + (dg s c - 48):=by rw [hcc];rfl
     rw [hcc] at hl
     have hl:49≤dg s c:=hl
     have h3:pv D i * 10 ^ (s.length - i) < pv s s.length:=by
       rw [he,h2,hcc,show c + 1 - i=(c - i) + 1 by omega,Nat.pow_succ,← Nat.mul_assoc];omega
     calc pv D i * 10 ^ s.length=pv D i * 10 ^ (s.length - i) * 10 ^ i:=by
           rw [Nat.mul_assoc,← Nat.pow_add];congr 2;omega
       _ < _:=Nat.mul_lt_mul_of_pos_right h3 (Nat.pow_pos (by decide))
   · rw [if_neg a]
     have hsi:s.getD i 0=dg s i:=rfl
     have v1:=hv i (by omega)
     have v2:=hs i (by omega)
     by_cases b:dg D i≠s.getD i 0
     · rw [if_pos b]
       rw [hsi] at b ⊢
       by_cases c:dg D i < dg s i
       · refine ⟨fun _=>?_,by simp [c]⟩
         have h1:=pv_up (D:=D) (i:=i + 1) nd (by omega) hv
         have h2:=pv_le (D:=s) (i:=i + 1) s.length (by omega)
         have h3:pv D (i + 1) + 1≤pv s (i + 1):=by rw [pv,pv,he];omega
         calc pv D nd * 10 ^ s.length < (pv D (i + 1) + 1) * 10 ^ (nd - (i + 1)) * 10 ^ s.length:=Nat.mul_lt_mul_of_pos_right h1 (Nat.pow_pos (by decide))
           _≤pv s (i + 1) * 10 ^ (nd - (i + 1)) * 10 ^ s.length:=Nat.mul_le_mul_right _ (Nat.mul_le_mul_right _ h3)
           _=pv s (i + 1) * 10 ^ (s.length - (i + 1)) * 10 ^ nd:=by
             rw [Nat.mul_assoc,← Nat.pow_add,Nat.mul_assoc,← Nat.pow_add];congr 2;omega
           _≤_:=Nat.mul_le_mul_right _ h2
       · refine ⟨by simp [c],fun _=>?_⟩
         have h1:=pv_up (D:=s) (i:=i + 1) s.length (by omega) hs
         have h2:=pv_le (D:=D) (i:=i + 1) nd (by omega)
         have h3:pv s (i + 1) + 1≤pv D (i + 1):=by rw [pv,pv,he];omega
         refine Nat.le_of_lt ?_
         calc pv s s.length * 10 ^ nd < (pv s (i + 1) + 1) * 10 ^ (s.length - (i + 1)) * 10 ^ nd:=Nat.mul_lt_mul_of_pos_right h1 (Nat.pow_pos (by decide))
           _≤pv D (i + 1) * 10 ^ (s.length - (i + 1)) * 10 ^ nd:=Nat.mul_le_mul_right _ (Nat.mul_le_mul_right _ h3)
           _=pv D (i + 1) * 10 ^ (nd - (i + 1)) * 10 ^ s.length:=by
             rw [Nat.mul_assoc,← Nat.pow_add,Nat.mul_assoc,← Nat.pow_add];congr 2;omega
           _≤_:=Nat.mul_le_mul_right _ h2
     · rw [if_neg b]
       rw [hsi] at b
       refine pl_says hv hs hl m (i + 1) (by omega) (by omega) (by omega) ?_
       rw [pv,pv,he];omega
theorem rows:∀ k,k < 61→(k=0∨((cut k).length + dlt k=k + 1∧1≤dlt k∧pv (cut k) (cut k).length=5 ^ k∧((List.range (cut k).length).all fun i=>decide (48≤dg (cut k) i∧dg (cut k) i≤57))=true∧49≤dg (cut k) ((cut k).length - 1)∧10 ^ (dlt k - 1)≤2 ^ k∧2 ^ k < 10 ^ dlt k∧dlt k≤19)):=by
 decide +kernel
theorem dl_says {x:Dec} (h:Ok x) {k:Nat} (hk:1≤k) (hk2:k≤60):pv x.D x.nd * 2 ^ k < 10 ^ (x.nd + dl k x)∧10 ^ (x.nd + dl k x - 1)≤pv x.D x.nd * 2 ^ k∧dl k x≤19:=by
 obtain ⟨r1,r2,r3,r4,r5,r6,r7,r8⟩:=(rows k (by omega)).resolve_left (by omega)
 have hs:V (cut k).length (cut k):=fun i hi=>by
   have:=List.all_eq_true.1 r4 i (List.mem_range.2 hi)
   simpa using this
 obtain ⟨p1,p2⟩:=pl_says h.v hs r5 (cut k).length 0 (by omega) (by omega) (by omega) rfl
 have hlt:=pv_lt x.nd h.v
 obtain ⟨m,hm⟩:∃ m,x.nd=m + 1:=⟨x.nd - 1,by have:=h.pos;omega⟩
 have hge:=pv_ge h.d0 m
 rw [← hm] at hge
 have t10:(10:Nat) ^ k=5 ^ k * 2 ^ k:=by rw [← Nat.mul_pow]
 unfold dl
 generalize pv x.D x.nd=W at *
 generalize dlt k=d at *
 generalize (cut k).length=c at *
 cases hp:pl x.D x.nd (cut k) 0 with
 | true =>
   have q:=p1 hp
   rw [r3] at q
   simp only [if_true]
   refine ⟨?_,?_,by omega⟩
   · have q2:W * 2 ^ k * 10 ^ c < 10 ^ (x.nd + (d - 1)) * 10 ^ c:=by
       calc W * 2 ^ k * 10 ^ c=W * 10 ^ c * 2 ^ k:=by rw [Nat.mul_right_comm]
         _ < 5 ^ k * 10 ^ x.nd * 2 ^ k:=Nat.mul_lt_mul_of_pos_right q (Nat.pow_pos (by decide))
         _=10 ^ k * 10 ^ x.nd:=by rw [t10,Nat.mul_right_comm]
         _=_:=by rw [← Nat.pow_add,← Nat.pow_add];congr 1;omega
     exact Nat.lt_of_mul_lt_mul_right q2
   · calc 10 ^ (x.nd + (d - 1) - 1)=10 ^ m * 10 ^ (d - 1):=by rw [← Nat.pow_add];congr 1;omega
       _≤W * 2 ^ k:=Nat.mul_le_mul hge r6
 | false =>
   have q:=p2 hp
   rw [r3] at q
   simp only [Bool.false_eq_true,if_false,Nat.sub_zero]
   refine ⟨?_,?_,r8⟩
   · calc W * 2 ^ k < 10 ^ x.nd * 2 ^ k:=Nat.mul_lt_mul_of_pos_right hlt (Nat.pow_pos (by decide))
       _≤10 ^ x.nd * 10 ^ d:=Nat.mul_le_mul_left _ (Nat.le_of_lt r7)
       _=_:=by rw [← Nat.pow_add]
   · have q2:10 ^ (x.nd + d - 1) * 10 ^ c≤W * 2 ^ k * 10 ^ c:=by
       calc 10 ^ (x.nd + d - 1) * 10 ^ c=10 ^ k * 10 ^ x.nd:=by rw [← Nat.pow_add,← Nat.pow_add];congr 1;omega
         _=5 ^ k * 10 ^ x.nd * 2 ^ k:=by rw [t10,Nat.mul_right_comm]
         _≤W * 10 ^ c * 2 ^ k:=Nat.mul_le_mul_right _ q
         _=_:=by rw [Nat.mul_right_comm]
     exact Nat.le_of_mul_le_mul_right q2 (Nat.pow_pos (by decide))
end Dc
open Go Go.RowKit
namespace Dc
def powt:List Nat:=[1,3,6,9,13,16,19,23,26]
def stp (d:Nat):Nat:=if 9≤d then 27 else powt.getD d 0
def shl (k:Nat) (x:Dec):Dec:=if 60 < k then shl (k - 60) (lsh 60 x) else lsh k x
termination_by k
def low (x:Dec):Bool:=decide (x.dp < 0) || (decide (x.dp=0) && decide (dg x.D 0 < 53))
def fup:Nat→Dec→Int→Dec × Int
 | 0,x,e=>(x,e)
 | f + 1,x,e=>if low x then fup f (shl (stp (-x.dp).toNat) x) (e - (stp (-x.dp).toNat:Int)) else (x,e)
def put1 (c:Nat) (x:Dec):Dec :=
 if c=46 then ⟨x.D,x.nd,x.nd,x.tr⟩
 else if c=48∧x.nd=0 then ⟨x.D,x.nd,x.dp - 1,x.tr⟩
 else if x.nd < 800 then ⟨x.D.set x.nd c,x.nd + 1,x.dp,x.tr⟩
 else ⟨x.D,x.nd,x.dp,x.tr || !(c == 48)⟩
def setGo (l:List UInt8):Nat→Rf.Rs→Dec→Rf.Rs × Dec
 | 0,s,x=>(s,x)
 | f + 1,s,x=>if s.i < l.length then (match Rf.step false (by8 l s.i) s with | some t=>setGo l f t (put1 (by8 l s.i) x) | none=>(s,x)) else (s,x)
def zero:Dec:=⟨List.replicate 800 0,0,0,false⟩
theorem setGo_go (l:List UInt8):∀ f s x,(setGo l f s x).1=Rf.go l false f s
 | 0,s,x=>rfl
 | f + 1,s,x=>by
   rw [setGo,Rf.go]
   split
   · cases Rf.step false (by8 l s.i) s with
     | none=>rfl
     | some t=>exact setGo_go l f t _
   · rfl
structure SI (s:Rf.Rs) (x:Dec):Prop where
 b:B x.D
 nd:x.nd=min s.nd 800
 v:V x.nd x.D
 d0:0 < x.nd→49≤dg x.D 0
 m0:s.nd=0→s.mant=0
 nm:s.nm≤s.nd
 ndi:s.nd≤s.i
 dpl:-(s.i:Int)≤x.dp
 dph:x.dp≤800
theorem put_nd (hex:Bool) (d:Nat) (z:Bool) (s:Rf.Rs):(Rf.put hex d z s).nd=s.nd + 1:=by unfold Rf.put;split <;> rfl
theorem SI.step {s t:Rf.Rs} {x:Dec} (h:SI s x) {c:Nat} (hc:c < 256) (hs:Rf.step false c s=some t):SI t (put1 c x):=by
 obtain ⟨h1,h2,h3,h4,h5,h6,h7,h8,h9⟩:=id h
 unfold Rf.step at hs
 unfold put1
 split at hs
 · rename_i e
   rw [if_pos e]
   split at hs
   · cases hs
   · cases hs
     exact ⟨h1,h2,h3,h4,h5,h6,by simp only;omega,by simp only;omega,by simp only;omega⟩
 · rename_i e
   rw [if_neg e]
   split at hs
   · rename_i hg
     simp only [Rf.digC,Bool.and_eq_true,decide_eq_true_eq] at hg
     split at hs
     · rename_i z
       cases hs
       rw [if_pos ⟨z.1,by omega⟩]
       exact ⟨h1,h2,h3,h4,h5,h6,by simp only;omega,by simp only;omega,by simp only;omega⟩
     · rename_i z
       cases hs
       rw [if_neg (by omega)]
       have hn1:(Rf.put false (c - 48) (c == 48) s).nm≤s.nd + 1:=by unfold Rf.put;split <;> simp only <;> omega
       have hi:=Rf.put_i false (c - 48) (c == 48) s
       have hn:=put_nd false (c - 48) (c == 48) s
       split
       · rename_i lt
         refine ⟨h1.set hc _,by rw [hn];simp only;omega,h3.grow (by rw [h1.1];exact lt) (by omega) (by omega),fun _=>?_,fun z=>by rw [hn] at z;omega,by rw [hn];exact hn1,by rw [hn,hi];omega,by rw [hi];simp only;omega,by simp only;omega⟩
         simp only
         rw [dg_set (by rw [h1.1];exact lt)]
         split
         · omega
         · exact h4 (by omega)
       · rename_i lt
         exact ⟨h1,by rw [hn];simp only;omega,h3,h4,fun z=>by rw [hn] at z;omega,by rw [hn];exact hn1,by rw [hn,hi];omega,by rw [hi];simp only;omega,h9⟩
   · simp at hs
theorem dg_zero (n i:Nat):dg (List.replicate n 0) i=0:=by
 unfold dg
 rw [List.getD_eq_getElem?_getD,List.getElem?_replicate];split <;> rfl
theorem SI.start:SI (Rf.start 0) zero:=by
 have hl:∀ n,(List.replicate n 0:List Nat).length=n:=fun n=>List.length_replicate
 refine ⟨⟨hl 800,fun i=>?_⟩,rfl,fun i hi=>absurd hi (Nat.not_lt_zero i),fun h=>absurd h (Nat.lt_irrefl 0),fun _=>rfl,Nat.le_refl _,Nat.le_refl _,?_,?_⟩
 · have:=dg_zero 800 i
   show dg (List.replicate 800 0) i < 256
   omega
 · show -((0:Nat):Int)≤0
   omega
 · show (0:Int)≤800
   omega
theorem setGo_si (l:List UInt8):∀ f s x,SI s x→SI (setGo l f s x).1 (setGo l f s x).2
 | 0,s,x,h=>h
 | f + 1,s,x,h=>by
   rw [setGo]
   split
   · cases hs:Rf.step false (by8 l s.i) s with
     | none=>exact h
     | some t=>exact setGo_si l f t _ (h.step (by8_lt l s.i) hs)
   · exact h
end Dc
namespace Dc
theorem lt_of_div {n k:Nat} (h:n / 2 ^ k=0):n < 2 ^ k:=by
 rcases Nat.lt_or_ge n (2 ^ k) with h1 | h1
 · exact h1
 · have:=Nat.div_pos h1 (Nat.pow_pos (by decide));omega
structure PI (k:Nat) (D:List Nat) (nd r n:Nat):Prop where
 lt:n < 10 * 2 ^ k
 z:r=0→n=0
 one:r=1→n=dg D 0 - 48
 pos:1≤r→1≤n
 le:r≤nd
theorem PI.step {k:Nat} {D:List Nat} {nd r n:Nat} (h:PI k D nd r n) (hv:V nd D) (h0:49≤dg D 0) (hr:r < nd) (hn:n / 2 ^ k=0):PI k D nd (r + 1) (n * 10 + (dg D r - 48)):=by
 have h1:=hv r hr
 have h2:n < 2 ^ k:=lt_of_div hn
 refine ⟨by omega,by omega,fun e=>?_,fun _=>?_,by omega⟩
 · have e0:r=0:=by omega
   subst e0
   have:=h.z rfl
   omega
 · rcases Nat.eq_zero_or_pos r with e | e
   · subst e;omega
   · have:=h.pos e;omega
structure RI (k:Nat) (D:List Nat) (nd r n:Nat):Prop where
 lt:n < 10 * 2 ^ k
 ne:n / 2 ^ k≠0
 one:r=1→n=dg D 0 - 48
 pos:1≤r
 le:r≤nd + 64
theorem low_lt {n k:Nat} (h:n < 10 * 2 ^ k):n / 2 ^ k≤9:=by
 have:n / 2 ^ k < 10:=Nat.div_lt_of_lt_mul (by rw [Nat.mul_comm];exact h)
 omega
structure MI (k nd:Nat) (q:Nat) (D:List Nat) (w n:Nat):Prop where
 lt:n < 10 * 2 ^ k
 b:B D
 v:V (max nd w) D
 w8:w≤800
 f0:w=0→n / 2 ^ k=q
 f1:0 < w→dg D 0=q + 48
theorem MI.put {k nd q:Nat} {D:List Nat} {w n:Nat} (h:MI k nd q D w n) (hw:w < 800) (hm:w < nd∨nd≤w) {n':Nat} (hn:n' < 10 * 2 ^ k):MI k nd q (D.set w (n / 2 ^ k + 48)) (w + 1) n':=by
 have h1:=low_lt h.lt
 have hf:=h.f0
 obtain ⟨u,hu⟩:∃ u,n / 2 ^ k=u:=⟨_,rfl⟩
 rw [hu] at h1 hf ⊢
 refine ⟨hn,h.b.set (by omega) _,?_,by omega,by omega,fun _=>?_⟩
 · rcases hm with e | e
   · have:max nd (w + 1)=max nd w:=by omega
     rw [this]
     exact h.v.set (by rw [h.b.1];exact hw) (by omega) (by omega)
   · have e1:max nd (w + 1)=w + 1:=by omega
     have e2:max nd w=w:=by omega
     rw [e1]
     have hv:=h.v
     rw [e2] at hv
     exact hv.grow (by rw [h.b.1];exact hw) (by omega) (by omega)
 · rw [dg_set (by rw [h.b.1];exact hw)]
   split
   · rename_i e
     rw [hf (by omega)]
   · exact h.f1 (by omega)
structure LI (k dl nd:Nat) (D0 D:List Nat) (r n:Nat):Prop where
 b:B D
 le:r≤nd
 pre:∀ i,i < r→dg D i=dg D0 i
 val:pv D0 r * 2 ^ k + n=pv D0 nd * 2 ^ k / 10 ^ (nd - r)
 lt:n < 2 ^ k
 done:∀ i,r + dl≤i→i < min (nd + dl) 800→48≤dg D i∧dg D i≤57
 f0:r=0→dl=0→pv D0 nd * 2 ^ k < 10 ^ nd→48 + (dg D0 0 - 48) * 2 ^ k≤dg D 0
theorem LI.next {k dl nd:Nat} {D0 D:List Nat} {r n:Nat} (h:LI k dl nd D0 D (r + 1) n) (hv:V nd D0) (hd:dl≤19) :
   (n + (dg D r - 48) * 2 ^ k) / 10 < 2 ^ k∧n + (dg D r - 48) * 2 ^ k < 10 * 2 ^ k ∧
   (r + dl < 800→LI k dl nd D0 (D.set (r + dl) ((n + (dg D r - 48) * 2 ^ k) % 10 + 48)) r ((n + (dg D r - 48) * 2 ^ k) / 10)) ∧
   (800≤r + dl→LI k dl nd D0 D r ((n + (dg D r - 48) * 2 ^ k) / 10)):=by
 have hp:=h.pre r (by omega)
 have hr:=hv r (by have:=h.le;omega)
 have hle:=h.le
 have hlt:=h.lt
 obtain ⟨P,hP⟩:∃ P,2 ^ k=P:=⟨_,rfl⟩
 obtain ⟨c,hc⟩:∃ c,dg D0 r - 48=c:=⟨_,rfl⟩
 have c9:c≤9:=by omega
 have hval:=h.val
 rw [pv,hc,hP] at hval
 rw [hp,hc,hP]
 rw [hP] at hlt
 have cP:c * P≤9 * P:=Nat.mul_le_mul_right _ c9
 have q1:n + c * P < 10 * P:=by omega
 have q2:(n + c * P) / 10 < P:=by omega
 have v2:pv D0 r * P + (n + c * P) / 10=pv D0 nd * P / 10 ^ (nd - r):=by
   rw [show nd - r=(nd - (r + 1)) + 1 by omega,Nat.pow_succ,← Nat.div_div_eq_div_mul,← hval,Nat.add_mul,Nat.mul_right_comm]
   omega
 refine ⟨q2,q1,fun a=>?_,fun a=>?_⟩
 · refine ⟨h.b.set (by omega) _,by omega,fun i hi=>?_,by rw [hP];exact v2,by rw [hP];exact q2,fun i h1 h2=>?_,fun e1 e2 e3=>?_⟩
   · rw [dg_set (by rw [h.b.1];exact a),if_neg (by omega)]
     exact h.pre i (by omega)
   · rw [dg_set (by rw [h.b.1];exact a)]
     split
     · omega
     · exact h.done i (by omega) h2
   · subst e1
     subst e2
     rw [hP] at e3 ⊢
     rw [dg_set (by rw [h.b.1];exact a),if_pos rfl,hc]
     simp only [pv,Nat.zero_mul,Nat.zero_add,Nat.sub_zero] at v2
     rw [Nat.div_eq_of_lt e3] at v2
     omega
 · exact ⟨h.b,by omega,fun i hi=>h.pre i (by omega),by rw [hP];exact v2,by rw [hP];exact q2,fun i h1 h2=>by omega,fun e1 e2=>by omega⟩
structure EI (M:Nat) (D:List Nat) (w n:Nat):Prop where
 b:B D
 w19:w≤19
 up:n < 10 ^ w
 lo:0 < w→10 ^ (w - 1)≤n
 done:∀ i,w≤i→i < M→48≤dg D i∧dg D i≤57
theorem EI.next {M:Nat} {D:List Nat} {w n:Nat} (h:EI M D (w + 1) n):n≠0∧EI M (D.set w (n % 10 + 48)) w (n / 10):=by
 have h1:=h.lo (by omega)
 have h2:=h.up
 have h3:=h.w19
 rw [Nat.pow_succ] at h2
 have h4:0 < 10 ^ (w + 1 - 1):=Nat.pow_pos (by decide)
 refine ⟨by omega,h.b.set (by omega) _,by omega,by omega,fun hw=>?_,fun i h5 h6=>?_⟩
 · obtain ⟨v,rfl⟩:∃ v,w=v + 1:=⟨w - 1,by omega⟩
   rw [show v + 1 + 1 - 1=v + 1 by omega,Nat.pow_succ] at h1
   rw [show v + 1 - 1=v by omega]
   omega
 · rw [dg_set (by rw [h.b.1];omega)]
   split
   · omega
   · exact h.done i (by omega) h6
theorem LI.start {x:Dec} (h:Ok x) (k dl:Nat):LI k dl x.nd x.D x.D x.nd 0 :=
 ⟨h.b,Nat.le_refl _,fun _ _=>rfl,by rw [Nat.sub_self,Nat.pow_zero,Nat.div_one,Nat.add_zero],Nat.pow_pos (by decide),fun i h1 h2=>by omega,fun e=>by have:=h.pos;omega⟩
theorem EI.start {x:Dec} (h:Ok x) {k:Nat} (k1:1≤k) (k2:k≤60) {D:List Nat} {n:Nat} (hl:LI k (dl k x) x.nd x.D D 0 n):EI (min (x.nd + dl k x) 800) D (dl k x) n:=by
 obtain ⟨d1,d2,d3⟩:=dl_says h k1 k2
 have hv:=hl.val
 simp only [pv,Nat.zero_mul,Nat.zero_add,Nat.sub_zero] at hv
 have t:0 < 10 ^ x.nd:=Nat.pow_pos (by decide)
 refine ⟨hl.b,d3,?_,fun hw=>?_,fun i h1 h2=>hl.done i (by omega) h2⟩
 · rw [hv]
   rw [Nat.pow_add] at d1
   exact Nat.div_lt_of_lt_mul d1
 · rw [hv,Nat.le_div_iff_mul_le t,← Nat.pow_add]
   rw [show dl k x - 1 + x.nd=x.nd + dl k x - 1 by omega]
   exact d2
def near (x:Dec):Int:=10 * x.dp + (dg x.D 0:Int)
end Dc
namespace Dc
variable {ng:Bool}
noncomputable def least (Q:Nat→Prop):Nat:=open Classical in if h:∃ f,Q f∧∀ g,g < f→¬ Q g then Classical.choose h else 0
def cel (ng:Bool) (x:Dec):Array Value:=((x.D.map fun n:Nat=>Value.int .u8 (n:Int)) ++ [Value.int .i64 (x.nd:Int),Value.int .i64 x.dp,Value.bool ng,Value.bool x.tr]).toArray
structure DW (ng:Bool) (w:World) (b:Nat) (x:Dec):Prop where
 blk:w.heap[b]?=some (.cells (cel ng x) 225 (0,0))
 B:B x.D
section
variable {w w':World} {b:Nat} {x:Dec}
theorem cel_at (h:x.D.length=800) {i:Nat} (hi:i < 800):(cel ng x)[i]?=some (.int .u8 (dg x.D i:Int)):=by
 unfold cel
 rw [List.getElem?_toArray,List.getElem?_append_left (by rw [List.length_map];omega),List.getElem?_map,dg_get (by omega)];rfl
theorem cel_nd (h:x.D.length=800):(cel ng x)[800]?=some (.int .i64 (x.nd:Int)):=by
 unfold cel
 rw [List.getElem?_toArray,List.getElem?_append_right (by rw [List.length_map];omega),List.length_map,h];rfl
theorem cel_dp (h:x.D.length=800):(cel ng x)[801]?=some (.int .i64 x.dp):=by
 unfold cel
 rw [List.getElem?_toArray,List.getElem?_append_right (by rw [List.length_map];omega),List.length_map,h];rfl
theorem cel_neg (h:x.D.length=800):(cel ng x)[802]?=some (.bool ng):=by
 unfold cel
 rw [List.getElem?_toArray,List.getElem?_append_right (by rw [List.length_map];omega),List.length_map,h];rfl
theorem cel_tr (h:x.D.length=800):(cel ng x)[803]?=some (.bool x.tr):=by
 unfold cel
 rw [List.getElem?_toArray,List.getElem?_append_right (by rw [List.length_map];omega),List.length_map,h];rfl
theorem set_at (h:x.D.length=800) {i:Nat} (hi:i < 800) (v:Nat):(cel ng x).setIfInBounds i (.int .u8 (v:Int))=cel ng ⟨x.D.set i v,x.nd,x.dp,x.tr⟩:=by
 unfold cel
 rw [List.setIfInBounds_toArray,List.set_append_left _ _ (by rw [List.length_map];omega),List.map_set]
theorem set_nd (h:x.D.length=800) (v:Nat):(cel ng x).setIfInBounds 800 (.int .i64 (v:Int))=cel ng ⟨x.D,v,x.dp,x.tr⟩:=by
 unfold cel
 rw [List.setIfInBounds_toArray,List.set_append_right _ _ (by rw [List.length_map];omega),List.length_map,h];rfl
theorem set_dp (h:x.D.length=800) (v:Int):(cel ng x).setIfInBounds 801 (.int .i64 v)=cel ng ⟨x.D,x.nd,v,x.tr⟩:=by
 unfold cel
 rw [List.setIfInBounds_toArray,List.set_append_right _ _ (by rw [List.length_map];omega),List.length_map,h];rfl
theorem set_neg (h:x.D.length=800) (v:Bool):(cel ng x).setIfInBounds 802 (.bool v)=cel v x:=by
 unfold cel
 rw [List.setIfInBounds_toArray,List.set_append_right _ _ (by rw [List.length_map];omega),List.length_map,h];rfl
theorem set_tr (h:x.D.length=800) (v:Bool):(cel ng x).setIfInBounds 803 (.bool v)=cel ng ⟨x.D,x.nd,x.dp,v⟩:=by
 unfold cel
 rw [List.setIfInBounds_toArray,List.set_append_right _ _ (by rw [List.length_map];omega),List.length_map,h];rfl
theorem DW.lt (h:DW ng w b x):b < w.heap.size:=bk_lt h.blk
theorem DW.free (h:DW ng w b x) (i:Nat):w.frozen? ⟨b,i,none⟩=false:=bk_free h.blk i
theorem DW.cd (h:DW ng w b x) {i:Nat} (hi:i < 800):w.cell? ⟨b,i,none⟩=some (.int .u8 (dg x.D i:Int)):=bk_cell h.blk i _ (cel_at h.B.1 hi)
theorem DW.cnd (h:DW ng w b x):w.cell? ⟨b,800,none⟩=some (.int .i64 (x.nd:Int)):=bk_cell h.blk 800 _ (cel_nd h.B.1)
theorem DW.cdp (h:DW ng w b x):w.cell? ⟨b,801,none⟩=some (.int .i64 x.dp):=bk_cell h.blk 801 _ (cel_dp h.B.1)
theorem DW.cneg (h:DW ng w b x):w.cell? ⟨b,802,none⟩=some (.bool ng):=bk_cell h.blk 802 _ (cel_neg h.B.1)
theorem DW.ctr (h:DW ng w b x):w.cell? ⟨b,803,none⟩=some (.bool x.tr):=bk_cell h.blk 803 _ (cel_tr h.B.1)
theorem DW.setd (h:DW ng w b x) {i:Nat} (hi:i < 800) {v:Nat} (hv:v < 256):DW ng (w.setCell ⟨b,i,none⟩ (.int .u8 (v:Int))) b ⟨x.D.set i v,x.nd,x.dp,x.tr⟩ :=
 ⟨by rw [bk_set h.blk,set_at h.B.1 hi],h.B.set hv i⟩
theorem DW.setnd (h:DW ng w b x) (v:Nat):DW ng (w.setCell ⟨b,800,none⟩ (.int .i64 (v:Int))) b ⟨x.D,v,x.dp,x.tr⟩:=⟨by rw [bk_set h.blk,set_nd h.B.1],h.B⟩
theorem DW.setdp (h:DW ng w b x) (v:Int):DW ng (w.setCell ⟨b,801,none⟩ (.int .i64 v)) b ⟨x.D,x.nd,v,x.tr⟩:=⟨by rw [bk_set h.blk,set_dp h.B.1],h.B⟩
theorem DW.setneg (h:DW ng w b x) (v:Bool):DW v (w.setCell ⟨b,802,none⟩ (.bool v)) b x:=⟨by rw [bk_set h.blk,set_neg h.B.1],h.B⟩
theorem DW.settr (h:DW ng w b x) (v:Bool):DW ng (w.setCell ⟨b,803,none⟩ (.bool v)) b ⟨x.D,x.nd,x.dp,v⟩:=⟨by rw [bk_set h.blk,set_tr h.B.1],h.B⟩
theorem chg_set (w:World) (b i:Nat) (v:Value):Chg [b] w (w.setCell ⟨b,i,none⟩ v):=(Chg.refl [b] w).setCell (a:=⟨b,i,none⟩) (.inl (by simp)) v
end
theorem DW.pur {w w':World} {b:Nat} {x:Dec} (h:DW ng w b x) (hp:Pur w w'):DW ng w' b x:=⟨bk_pur h.blk hp,h.B⟩
end Dc
namespace Dc
variable {ng:Bool}
theorem cdiv (n k:Nat):(n:Int) / 2 ^ k=((n / 2 ^ k:Nat):Int):=by rw [Int.natCast_ediv,Int.natCast_pow];rfl
end Dc
namespace Dc
variable {ng:Bool}
theorem getD_by8 (s:List UInt8) (i:Nat):(s.map UInt8.toNat).getD i 0=by8 s i:=by
 unfold by8
 rw [List.getD_eq_getElem?_getD,List.getElem?_map]
 by_cases h:i < s.length
 · simp [List.getD_eq_getElem?_getD,List.getElem?_eq_getElem h]
 · simp [List.getD_eq_getElem?_getD,List.getElem?_eq_none (Nat.le_of_not_lt h)]
theorem prefix_any {w:World} {b:Nat} {x:Dec} {s:List UInt8} (h:DW ng w b x) (hn:x.nd≤800) (hs:s.length≤1000) :
   Calls Tryz.prog 264 #[.slice (some ⟨b,0,none⟩) x.nd 800,.string ⟨s.toArray⟩] w fun e w'=>e=.returned (.bool (pl x.D x.nd (s.map UInt8.toNat) 0))∧Pur w w':=by
 obtain ⟨D,nd,dp,tr⟩:=x
 simp only at hn ⊢
 obtain ⟨R,hR⟩:∃ R,pl D nd (s.map UInt8.toNat) 0=R:=⟨_,rfl⟩
 have HR:=Lib.hid (show R=pl D nd (s.map UInt8.toNat) 0 from hR.symm)
 rw [hR]
 have hB:=h.B
 simp only at hB
 clear hR
 go_enter Tryz.func264,Tryz.ntmps264
 go_wp2
 go_loopw [5] (fun i wr=>∃ (k:Nat),i=.int .i64 (k:Int)∧k≤s.length∧Pur w wr∧Hid (R=pl D nd (s.map UInt8.toNat) k)) (fun i wr=>2000 - (intOf i).toNat)
 case atStart=>exact ⟨0,rfl,by omega,Pur.refl _,HR⟩
 case round =>
   obtain ⟨k,rfl,hk,hp,HS⟩:=hrel
   clear HR
   have hw:=h.pur hp
   by_cases c:k < s.length
   · have c':(k:Int) < s.length:=by omega
     by_cases a:nd≤k
     · have a':decide ((nd:Int)≤(k:Int))=true:=by rw [decide_eq_true_eq];omega
       have HN:=Lib.hid (show R=true by rw [HS.out,pl,if_pos (by rw [List.length_map];exact c),if_pos a])
       clear HS
       go_wp2
       go_ret
       rw [HN.out]
       exact ⟨rfl,hp⟩
     · have a':decide ((nd:Int)≤(k:Int))=false:=by rw [decide_eq_false_iff_not];omega
       have ck:=fun x:PW wr=>(hw.pur x.pur).cd (i:=k) (by omega)
       simp only at ck
       have kn:(k:Int) < (nd:Int):=by omega
       have k0:(0:Int)≤(k:Int):=by omega
       have hb:=by8_lt s k
       have h256:=hB.2 k
       by_cases e:dg D k≠by8 s k
       · have HN:=Lib.hid (show R=decide (dg D k < by8 s k) by rw [HS.out,pl,if_pos (by rw [List.length_map];exact c),if_neg a,getD_by8,if_pos e])
         have d1:((dg D k:Int) != (by8 s k:Int))=true:=by rw [bne_iff_ne];omega
         clear HS e
         go_wp2
         refine wp_region_pur (by kernel_rfl) (by kernel_rfl) ?_
         repeat (go_big_quiet_step (fail))
         refine wpQuiet_nil ?_
         intro wq hq
         have ck2:=fun x:PW wq=>(hw.pur (hq.trans x.pur)).cd (i:=k) (by omega)
         simp only at ck2
         go_wp2
         refine wp_region_pur (by kernel_rfl) (by kernel_rfl) ?_
         repeat (go_big_quiet_step (fail))
         refine wpQuiet_nil ?_
         intro wz hz
         go_wp2
         go_ret
         rw [HN.out]
         exact ⟨rfl,(hp.trans hq).trans hz⟩
       · have HN:=Lib.hid (show R=pl D nd (s.map UInt8.toNat) (k + 1) by rw [HS.out,pl,if_pos (by rw [List.length_map];exact c),if_neg a,getD_by8,if_neg e])
         have d1:((dg D k:Int) != (by8 s k:Int))=false:=by rw [bne_eq_false_iff_eq];omega
         have wk:IntKind.i64.wrap ((k:Int) + 1)=(k:Int) + 1:=IntWalk.i64_in _ (by omega)
         clear HS e
         go_wp2
         refine wp_region_pur (by kernel_rfl) (by kernel_rfl) ?_
         repeat (go_big_quiet_step (fail))
         refine wpQuiet_nil ?_
         intro wq hq
         have hp2:=hp.trans hq
         go_wp2
         go_roundw
         case rel=>exact ⟨k + 1,by push_cast;rfl,by omega,hp2,HN⟩
         case measure=>simp [intOf];omega
   · have c':¬ (k:Int) < s.length:=by omega
     have HN:=Lib.hid (show R=false by rw [HS.out,pl,if_neg (by rw [List.length_map];exact c)])
     clear HS
     go_wp2
     go_ret
     rw [HN.out]
     exact ⟨rfl,hp⟩
def cutB (k:Nat):List UInt8:=(cut k).map UInt8.ofNat
structure LCT (w:World):Prop where
 sl:∃ g o c,w.cell? ⟨18,0,none⟩=some (.slice (some ⟨g,o,none⟩) 61 c) ∧
   ∀ k,k < 61→w.cell? ⟨g,o + k * 2,none⟩=some (.int .i64 (dlt k:Int))∧w.cell? ⟨g,o + k * 2 + 1,none⟩=some (.string ⟨(cutB k).toArray⟩)
theorem cell_pur {w w':World} {a:Addr} {v:Value} (h:w.cell? a=some v) (hp:Pur w w'):w'.cell? a=some v:=(hp.cell (World.block_lt_of_cell? w a h)).trans h
theorem LCT.pur {w w':World} (h:LCT w) (hp:Pur w w'):LCT w':=by
 obtain ⟨g,o,c,h1,h2⟩:=h.sl
 exact ⟨g,o,c,cell_pur h1 hp,fun k hk=>⟨cell_pur (h2 k hk).1 hp,cell_pur (h2 k hk).2 hp⟩⟩
end Dc
namespace Dc
variable {ng:Bool}
end Dc
namespace Dc
variable {ng:Bool}
end Dc
def Exit.two (G0 G1:Act→World→Prop) (Q:Exit→Act→World→Prop):Exit→Act→World→Prop
 | .goto l,a,w=>(l=0∧G0 a w)∨(l=1∧G1 a w)
 | e,a,w=>Q e a w
section
variable {P:Program} {a:Act} {w:World} {Q:Exit→Act→World→Prop}
end
end Go.Proofs.YtgdolcoiihagfaaGreatDoor
