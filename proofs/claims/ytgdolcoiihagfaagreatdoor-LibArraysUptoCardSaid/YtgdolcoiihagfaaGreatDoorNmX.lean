/- Layer 4, in plain words: a wide text without blanks at its ends, as bytes; the bytes of a set; a decimal number. The library's reading of a number's text, in plain words: digits before and behind a point; an exponent. -/
import Derived.Test.YtgdolcoiihagfaaGreatDoorUtfPure
namespace Go.Proofs.YtgdolcoiihagfaaGreatDoor
open Go Go.RowKit
set_option linter.all false
set_option maxRecDepth 100000
namespace Nm
def blank (u:Nat):Bool:=decide ((9≤u∧u≤13)∨u=32∨u=160∨u=65279)
/-- behind the blanks ahead -/
def fromGo (l:List UInt8) (to:Nat):Nat→Nat→Nat
 | 0,i=>i
 | f + 1,i=>if i < to then (if blank (at16 l i) then fromGo l to f (i + 1) else i) else i
/-- ahead of the blanks behind -/
def toGo (l:List UInt8) (a:Nat):Nat→Nat
 | 0=>0
 | t + 1=>if a < t + 1 then (if blank (at16 l t) then toGo l a t else t + 1) else t + 1
/-- units below 128, as bytes -/
def bytesGo (l:List UInt8) (to:Nat):Nat→Nat→Option (List UInt8)
 | 0,_=>some []
 | f + 1,i=>if i < to then (if 127 < at16 l i then none else (bytesGo l to f (i + 1)).map (UInt8.ofNat (at16 l i) :: ·)) else some []
def fromI (l:List UInt8):Nat:=fromGo l (l.length / 2) (l.length / 2) 0
def toI (l:List UInt8):Nat:=toGo l (fromI l) (l.length / 2)
def plain (l:List UInt8):Option (List UInt8):=bytesGo l (toI l) (toI l - fromI l) (fromI l)
theorem fromGo_le (l:List UInt8) (to:Nat):∀ f i,i≤to→i≤fromGo l to f i∧fromGo l to f i≤to
 | 0,i,h=>⟨Nat.le_refl _,h⟩
 | f + 1,i,h=>by
   rw [fromGo]
   split
   · split
     · have:=fromGo_le l to f (i + 1) (by omega);omega
     · omega
   · omega
theorem toGo_le (l:List UInt8) (a:Nat):∀ t,toGo l a t≤t∧(a≤t→a≤toGo l a t)
 | 0=>⟨Nat.le_refl _,fun h=>h⟩
 | t + 1=>by
   rw [toGo]
   have:=toGo_le l a t
   split
   · split
     · exact ⟨by omega,fun h=>this.2 (by omega)⟩
     · exact ⟨Nat.le_refl _,fun h=>h⟩
   · exact ⟨Nat.le_refl _,fun h=>h⟩
theorem fromI_le (l:List UInt8):fromI l≤l.length / 2:=(fromGo_le l _ _ 0 (Nat.zero_le _)).2
theorem toI_le (l:List UInt8):fromI l≤toI l∧toI l≤l.length / 2:=⟨(toGo_le l _ _).2 (fromI_le l),(toGo_le l _ _).1⟩
theorem bytesGo_len (l:List UInt8) (to:Nat):∀ f i t,bytesGo l to f i=some t→t.length≤f
 | 0,i,t,h=>by cases h;simp
 | f + 1,i,t,h=>by
   rw [bytesGo] at h
   split at h
   · split at h
     · cases h
     · rcases hr:bytesGo l to f (i + 1) with _ | r
       · rw [hr] at h;cases h
       · rw [hr] at h
         cases h
         have:=bytesGo_len l to f _ _ hr
         simp only [List.length_cons];omega
   · cases h;simp
theorem plain_len {l t:List UInt8} (h:plain l=some t):t.length≤l.length / 2:=by
 have:=bytesGo_len l _ _ _ _ h
 have:=toI_le l
 omega
/-- how many bytes of a set a text begins with -/
def runGo (set:List UInt8):List UInt8→Nat
 | []=>0
 | b :: r=>if set.contains b then runGo set r + 1 else 0
theorem runGo_le (set:List UInt8):∀ l,runGo set l≤l.length
 | []=>Nat.le_refl _
 | b :: r=>by
   rw [runGo]
   have:=runGo_le set r
   split <;> simp only [List.length_cons] <;> omega
def digits:List UInt8:=[48,49,50,51,52,53,54,55,56,57]
def hexes:List UInt8:=[48,49,50,51,52,53,54,55,56,57,97,98,99,100,101,102,65,66,67,68,69,70]
/-- behind a sign -/
def unsign:List UInt8→List UInt8
 | []=>[]
 | b :: r=>if b=43∨b=45 then r else b :: r
/-- what is left behind the digits and a point with digits; how many digits -/
def mantEnd (s:List UInt8):Nat × List UInt8:=match s.drop (runGo digits s) with
 | []=>(runGo digits s,[])
 | b :: r=>if b=46 then (runGo digits s + runGo digits r,r.drop (runGo digits r)) else (runGo digits s,b :: r)
def expEnd (s:List UInt8):Bool:=match s with
 | []=>true
 | b :: r=>if b=101∨b=69 then decide (0 < runGo digits (unsign r)∧runGo digits (unsign r)=(unsign r).length) else false
/-- is it a decimal number without a sign? -/
def decimal (s:List UInt8):Bool:=if (mantEnd s).1=0 then false else expEnd (mantEnd s).2
/-- is it written by sixteens? -/
def isHex (s:List UInt8):Bool:=decide (2 < s.length∧by8 s 0=48∧(by8 s 1=120∨by8 s 1=88)∧runGo hexes (s.drop 2)=s.length - 2)
/-- Infinity -/
def infW:List UInt8:=[73,110,102,105,110,105,116,121]
/-- what the number of a wide text is read of; none: no number -/
def source (w:List UInt8):Option (List UInt8):=match plain w with
 | none=>none
 | some s=>if s=[] then some [] else if isHex s then some (s ++ [112,48]) else if unsign s≠infW∧decimal (unsign s)=false then none else some s
end Nm
namespace Rf
def mx (hex:Bool):Nat:=if hex then 16 else 19
def bs (hex:Bool):Nat:=if hex then 16 else 10
/-- what has been read -/
structure Rs where
 i:Nat
 mant:Nat
 nd:Nat
 nm:Nat
 dp:Int
 dot:Bool
 dig:Bool
 trunc:Bool
def hexC (c:Nat):Bool:=decide (97≤(c ||| 32)) && decide ((c ||| 32)≤102)
def digC (c:Nat):Bool:=decide (48≤c) && decide (c≤57)
/-- a digit whose value is d -/
def put (hex:Bool) (d:Nat) (z:Bool) (s:Rs):Rs :=
 if s.nm < mx hex then { s with i:=s.i + 1,dig:=true,nd:=s.nd + 1,mant:=s.mant * bs hex + d,nm:=s.nm + 1 }
 else { s with i:=s.i + 1,dig:=true,nd:=s.nd + 1,trunc:=s.trunc || !z }
/-- one character; none: the digits end there -/
def step (hex:Bool) (c:Nat) (s:Rs):Option Rs :=
 if c=46 then (if s.dot then none else some { s with i:=s.i + 1,dot:=true,dp:=s.nd })
 else if digC c then (if c=48∧s.nd=0 then some { s with i:=s.i + 1,dig:=true,dp:=s.dp - 1 } else some (put hex (c - 48) (c == 48) s))
 else if hex && hexC c then some (put hex ((c ||| 32) - 87) false s)
 else none
def go (l:List UInt8) (hex:Bool):Nat→Rs→Rs
 | 0,s=>s
 | f + 1,s=>if s.i < l.length then (match step hex (by8 l s.i) s with | some t=>go l hex f t | none=>s) else s
def start (i:Nat):Rs:=⟨i,0,0,0,0,false,false,false⟩
/-- the digits of l from place i on -/
def digs (l:List UInt8) (hex:Bool) (i:Nat):Rs:=go l hex (l.length + 1) (start i)
structure Inv (hex:Bool) (s:Rs):Prop where
 nd:s.nd≤s.i
 nm:s.nm≤mx hex
 mant:s.mant < bs hex ^ s.nm
 lo:-(s.i:Int)≤s.dp
 hi:s.dp≤s.i
theorem mx_pow (hex:Bool):bs hex ^ mx hex≤18446744073709551616:=by cases hex <;> decide
theorem Inv.lt64 {hex:Bool} {s:Rs} (h:Inv hex s):s.mant < 18446744073709551616:=by
 have h1:bs hex ^ s.nm≤bs hex ^ mx hex:=Nat.pow_le_pow_right (by cases hex <;> decide) h.nm
 exact Nat.lt_of_lt_of_le h.mant (Nat.le_trans h1 (mx_pow hex))
theorem Inv.next {hex:Bool} {s:Rs} (h:Inv hex s) (hn:s.nm < mx hex) {d:Nat} (hd:d < bs hex):s.mant * bs hex + d < bs hex ^ (s.nm + 1):=by
 rw [Nat.pow_succ]
 have h1:(s.mant + 1) * bs hex≤bs hex ^ s.nm * bs hex:=Nat.mul_le_mul_right _ h.mant
 rw [Nat.succ_mul] at h1
 omega
theorem Inv.next64 {hex:Bool} {s:Rs} (h:Inv hex s) (hn:s.nm < mx hex) {d:Nat} (hd:d < bs hex):s.mant * bs hex + d < 18446744073709551616:=by
 have h1:bs hex ^ (s.nm + 1)≤bs hex ^ mx hex:=Nat.pow_le_pow_right (by cases hex <;> decide) hn
 exact Nat.lt_of_lt_of_le (h.next hn hd) (Nat.le_trans h1 (mx_pow hex))
theorem put_inv {hex:Bool} {s:Rs} (h:Inv hex s) {d:Nat} (hd:d < bs hex) (z:Bool):Inv hex (put hex d z s):=by
 unfold put
 obtain ⟨h1,h2,h3,h4,h5⟩:=id h
 split
 · rename_i hn
   exact ⟨by simp only;omega,hn,h.next hn hd,by simp only;omega,by simp only;omega⟩
 · exact ⟨by simp only;omega,h2,h3,by simp only;omega,by simp only;omega⟩
theorem hexC_lt:∀ c:Nat,c < 256→hexC c=true→(c ||| 32) - 87 < 16∧87≤(c ||| 32)∧(c ||| 32)≤102:=by decide +kernel
theorem put_i (hex:Bool) (d:Nat) (z:Bool) (s:Rs):(put hex d z s).i=s.i + 1:=by unfold put;split <;> rfl
theorem step_inv {hex:Bool} {c:Nat} {s t:Rs} (h:Inv hex s) (hc:c < 256) (hs:step hex c s=some t):Inv hex t∧t.i=s.i + 1:=by
 unfold step at hs
 obtain ⟨h1,h2,h3,h4,h5⟩:=id h
 split at hs
 · split at hs
   · cases hs
   · cases hs
     exact ⟨⟨by simp only;omega,h2,h3,by simp only;omega,by simp only;omega⟩,rfl⟩
 · split at hs
   · rename_i hg
     simp only [digC,Bool.and_eq_true,decide_eq_true_eq] at hg
     split at hs
     · cases hs
       exact ⟨⟨by simp only;omega,h2,h3,by simp only;omega,by simp only;omega⟩,rfl⟩
     · cases hs
       exact ⟨put_inv h (by have : 10 ≤ bs hex := by cases hex <;> decide
                            omega) _,put_i _ _ _ _⟩
   · split at hs
     · rename_i hg
       cases hs
       simp only [Bool.and_eq_true] at hg
       obtain ⟨rfl,hg⟩:=hg
       exact ⟨put_inv h (hexC_lt c hc hg).1 _,put_i _ _ _ _⟩
     · cases hs
section
variable {hex:Bool} {i m nd nm c:Nat} {dp:Int} {dt dg tr:Bool}
theorem step_dot:step hex 46 ⟨i,m,nd,nm,dp,false,dg,tr⟩=some ⟨i + 1,m,nd,nm,nd,true,dg,tr⟩:=rfl
theorem step_dot2:step hex 46 ⟨i,m,nd,nm,dp,true,dg,tr⟩=none:=rfl
theorem dig_ne {c:Nat} (h:digC c=true):¬ c=46:=by
 simp only [digC,Bool.and_eq_true,decide_eq_true_eq] at h;omega
theorem step_zero:step hex 48 ⟨i,m,0,nm,dp,dt,dg,tr⟩=some ⟨i + 1,m,0,nm,dp - 1,dt,true,tr⟩:=by
 unfold step;rw [if_neg (by decide),if_pos (by decide),if_pos ⟨rfl,rfl⟩]
theorem step_dig (h:digC c=true) (hz:¬ (c=48∧nd=0)) (hn:nm < mx hex):step hex c ⟨i,m,nd,nm,dp,dt,dg,tr⟩=some ⟨i + 1,m * bs hex + (c - 48),nd + 1,nm + 1,dp,dt,true,tr⟩:=by
 unfold step;rw [if_neg (dig_ne h),if_pos h,if_neg hz];unfold put;rw [if_pos hn]
theorem step_over (h:digC c=true) (hz:¬ (c=48∧nd=0)) (hn:¬ nm < mx hex):step hex c ⟨i,m,nd,nm,dp,dt,dg,tr⟩=some ⟨i + 1,m,nd + 1,nm,dp,dt,true,tr || !(c == 48)⟩:=by
 unfold step;rw [if_neg (dig_ne h),if_pos h,if_neg hz];unfold put;rw [if_neg hn]
theorem step_hex (h46:¬ c=46) (h:digC c=false) (hh:hexC c=true) (hn:nm < 16):step true c ⟨i,m,nd,nm,dp,dt,dg,tr⟩=some ⟨i + 1,m * 16 + ((c ||| 32) - 87),nd + 1,nm + 1,dp,dt,true,tr⟩:=by
 unfold step;rw [if_neg h46,if_neg (by rw [h];simp),if_pos (by rw [hh];rfl)];unfold put;rw [if_pos (show nm < mx true from hn)];rfl
theorem step_hexo (h46:¬ c=46) (h:digC c=false) (hh:hexC c=true) (hn:¬ nm < 16):step true c ⟨i,m,nd,nm,dp,dt,dg,tr⟩=some ⟨i + 1,m,nd + 1,nm,dp,dt,true,true⟩:=by
 unfold step;rw [if_neg h46,if_neg (by rw [h];simp),if_pos (by rw [hh];rfl)];unfold put;rw [if_neg (show ¬ nm < mx true from hn)];simp
theorem step_none (h46:¬ c=46) (h:digC c=false) (hh:(hex && hexC c)=false):step hex c ⟨i,m,nd,nm,dp,dt,dg,tr⟩=none:=by
 unfold step;rw [if_neg h46,if_neg (by rw [h];simp),if_neg (by rw [hh];simp)]
end
theorem start_inv (hex:Bool) (i:Nat):Inv hex (start i):=⟨Nat.zero_le _,Nat.zero_le _,by simp [start],by simp [start],by simp [start]⟩
theorem go_inv (l:List UInt8) (hex:Bool):∀ f s,Inv hex s→Inv hex (go l hex f s)∧(s.i≤l.length→(go l hex f s).i≤l.length)
 | 0,s,h=>⟨h,fun h=>h⟩
 | f + 1,s,h=>by
   rw [go]
   split
   · rename_i hl
     cases hs:step hex (by8 l s.i) s with
     | none=>exact ⟨h,fun h=>h⟩
     | some t =>
       have h1:=step_inv h (by8_lt l s.i) hs
       have h2:=go_inv l hex f t h1.1
       exact ⟨h2.1,fun _=>h2.2 (by omega)⟩
   · exact ⟨h,fun h=>h⟩
/-- what stands where the digits end is no digit, and no first point -/
theorem go_stop (l:List UInt8) (hex:Bool):∀ f s,l.length < s.i + f→(go l hex f s).i < l.length→step hex (by8 l (go l hex f s).i) (go l hex f s)=none
 | 0,s,h,h2=>by rw [go] at h2;omega
 | f + 1,s,h,h2=>by
   rw [go] at h2 ⊢
   split
   · rename_i hl
     rw [if_pos hl] at h2
     cases hs:step hex (by8 l s.i) s with
     | none=>simp only;exact hs
     | some t =>
       rw [hs] at h2
       simp only at h2 ⊢
       have hti:t.i=s.i + 1:=by
         unfold step at hs
         split at hs
         · split at hs <;> cases hs;rfl
         · split at hs
           · split at hs <;> cases hs
             · rfl
             · exact put_i _ _ _ _
           · split at hs <;> cases hs;exact put_i _ _ _ _
       exact go_stop l hex f t (by omega) h2
   · rename_i hl
     rw [if_neg hl] at h2
     exact absurd h2 hl
/-- an exponent's digits -/
def exGo (l:List UInt8):Nat→Nat→Nat→Nat
 | 0,_,e=>e
 | f + 1,i,e=>if i < l.length then exGo l f (i + 1) (if e < 10000 then e * 10 + (by8 l i - 48) else e) else e
theorem exGo_lt (l:List UInt8):∀ f i e,e < 100010→(∀ k,i≤k→k < l.length→digC (by8 l k)=true)→exGo l f i e < 100010
 | 0,_,e,h,_=>h
 | f + 1,i,e,h,hd=>by
   rw [exGo]
   split
   · rename_i hl
     have h1:=hd i (Nat.le_refl _) hl
     simp only [digC,Bool.and_eq_true,decide_eq_true_eq] at h1
     refine exGo_lt l f _ _ ?_ (fun k h2 h3=>hd k (by omega) h3)
     split <;> omega
   · exact h
/-- behind an exponent's sign -/
def exAt (l:List UInt8) (m:Nat):Nat:=if by8 l (m + 1)=43∨by8 l (m + 1)=45 then m + 2 else m + 1
def exOf (l:List UInt8) (m:Nat):Int:=if by8 l (m + 1)=45 then -(exGo l (l.length + 1) (exAt l m) 0:Int) else (exGo l (l.length + 1) (exAt l m) 0:Int)
def exC (hex:Bool):Nat:=if hex then 112 else 101
/-- an exponent stands from place m on, up to the end -/
def IsEx (l:List UInt8) (hex:Bool) (m:Nat):Prop:=m < l.length∧by8 l m ||| 32=exC hex∧exAt l m < l.length∧∀ k,exAt l m≤k→k < l.length→digC (by8 l k)=true
/-- a whole number's text from place i on -/
def Whole (l:List UInt8) (hex:Bool) (i:Nat):Prop:=(digs l hex i).dig=true∧(((digs l hex i).i=l.length∧hex=false)∨IsEx l hex (digs l hex i).i)
/-- where the point stands -/
def dpOf (hex:Bool) (s:Rs):Int:=(if s.dot then s.dp else (s.nd:Int)) * (if hex then 4 else 1)
def exPart (l:List UInt8) (m:Nat):Int:=if m < l.length then exOf l m else 0
/-- the power -/
def pow (l:List UInt8) (hex:Bool) (i:Nat):Int:=let s:=digs l hex i
 if s.mant=0 then 0 else dpOf hex s + exPart l s.i - (s.nm:Int) * (if hex then 4 else 1)
end Rf
end Go.Proofs.YtgdolcoiihagfaaGreatDoor
