/- Layer 5, in plain words: a script's bytes as lexemes. Layer 5, in plain words: where a word stands in the list of words. Layer 5, in plain words: where lexemes stand. Layer 5, in plain words: a blank ahead moves all by one. Layer 5, in plain words: a number's bytes are plain ones; plain bytes as a wide text. -/
import Derived.Test.YtgdolcoiihagfaaGreatDoorUtfPure
import Derived.Lib.Bytealg
import Derived.Lib.Index
import Derived.Test.YtgdolcoiihagfaaGreatDoorUtX
namespace Go.Proofs.YtgdolcoiihagfaaGreatDoor
open Go Go.RowKit
set_option linter.all false
set_option maxRecDepth 100000
namespace Lx
def letter (b:Nat):Bool:=decide ((97≤b∧b≤122)∨(65≤b∧b≤90)∨b=95∨b=36)
def digit (b:Nat):Bool:=decide (48≤b∧b≤57)
def sixteen (b:Nat):Bool:=decide ((48≤b∧b≤57)∨(97≤b∧b≤102)∨(65≤b∧b≤70))
def endsC (c:Nat):Bool:=decide (c=10∨c=13∨c=8232∨c=8233)
def blankC (c:Nat):Bool:=decide (c=9∨c=11∨c=12∨c=32∨c=160∨c=65279)
def idx (t:List UInt8):List UInt8→Option Nat
 | []=>if t=[] then some 0 else none
 | b :: r=>if t.isPrefixOf (b :: r) then some 0 else (idx t r).map (· + 1)
def runGo (p:Nat→Bool):List UInt8→Nat
 | []=>0
 | b :: r=>if p b.toNat then runGo p r + 1 else 0
def run (p:Nat→Bool) (l:List UInt8) (i:Nat):Nat:=i + runGo p (l.drop i)
def lineGo (l:List UInt8):Nat→Nat→Except Nat Nat
 | 0,i=>.ok i
 | f + 1,i=>if i < l.length then (if (chr l i).2=0 then .error i else if endsC (chr l i).1 then .ok i else lineGo l f (i + (chr l i).2)) else .ok i
def remGo (s:List UInt8):Nat→Nat→Option Bool
 | 0,_=>some false
 | f + 1,i=>if i < s.length then (if (chr s i).2=0 then none else (remGo s f (i + (chr s i).2)).map (endsC (chr s i).1 || ·)) else some false
def remark (s:List UInt8):Option Bool:=remGo s (s.length + 1) 0
def skipGo (l:List UInt8):Nat→Nat→Bool→Except Nat (Nat × Bool)
 | 0,i,ln=>.ok (i,ln)
 | f + 1,i,ln =>
   if i < l.length then
     if (chr l i).2=0 then .error i
     else if endsC (chr l i).1 then skipGo l f (i + (chr l i).2) true
     else if blankC (chr l i).1 then skipGo l f (i + (chr l i).2) ln
     else if [47,47].isPrefixOf (l.drop i) then
       match lineGo l (l.length + 1) i with
       | .error k=>.error k
       | .ok j=>skipGo l f j ln
     else if [47,42].isPrefixOf (l.drop i) then
       match idx [42,47] (l.drop (i + 2)) with
       | none=>.error i
       | some k =>
         match remark (sub l (i + 2) (i + 2 + k)) with
         | none=>.error i
         | some e=>skipGo l f (i + k + 4) (ln || e)
     else .ok (i,ln)
   else .ok (i,ln)
def skip (l:List UInt8) (i:Nat):Except Nat (Nat × Bool):=skipGo l (l.length + 1) i false
def ptd (l:List UInt8) (a:Nat):Nat:=if by8 l a=46 then run digit l (a + 1) else a
def sgn (l:List UInt8) (b:Nat):Nat:=if by8 l b=43∨by8 l b=45 then b + 1 else b
def numEnd (l:List UInt8) (i:Nat):Option Nat :=
 if by8 l i=48∧i + 1 < l.length∧(by8 l (i + 1)=120∨by8 l (i + 1)=88) then
   (if run sixteen l (i + 2)=i + 2 then none else some (run sixteen l (i + 2)))
 else if 1 < run digit l i - i∧by8 l i=48 then none
 else if by8 l (ptd l (run digit l i))=101∨by8 l (ptd l (run digit l i))=69 then
   (if run digit l (sgn l (ptd l (run digit l i) + 1))=sgn l (ptd l (run digit l i) + 1) then none else some (run digit l (sgn l (ptd l (run digit l i) + 1))))
 else some (ptd l (run digit l i))
def numeral (l:List UInt8) (i:Nat):Option Nat:=(numEnd l i).bind fun e=>if letter (by8 l e) || digit (by8 l e) then none else some e
def units (c:Nat):List UInt8:=if c < 65536 then unit8 c else unit8 (55296 + (c - 65536) / 1024) ++ unit8 (56320 + (c - 65536) % 1024)
def hexv (b:Nat):Nat:=if digit b then b - 48 else if 97≤b then b - 87 else b - 55
def hexGo (l:List UInt8):Nat→Nat→Nat→Option (Nat × Nat)
 | 0,i,u=>some (u,i)
 | n + 1,i,u=>if sixteen (by8 l i) then hexGo l n (i + 1) (u * 16 + hexv (by8 l i)) else none
def plainEsc (c:Nat):Option Nat :=
 if c=98 then some 8 else if c=116 then some 9 else if c=110 then some 10 else if c=118 then some 11 else if c=102 then some 12 else if c=114 then some 13 else none
def escape (l:List UInt8) (i:Nat):Option (List UInt8 × Nat) :=
 let c:=(chr l i).1
 let j:=i + (chr l i).2
 if (chr l i).2=0 then none
 else match plainEsc c with
   | some v=>some ([0,UInt8.ofNat v],j)
   | none =>
     if c=120 then (hexGo l 2 j 0).map fun x=>(unit8 x.1,x.2)
     else if c=117 then (hexGo l 4 j 0).map fun x=>(unit8 x.1,x.2)
     else if c=48 then (if digit (by8 l j) then none else some ([0,0],j))
     else if 49≤c∧c≤57 then none
     else if c=13∧by8 l j=10 then some ([],j + 1)
     else if endsC c then some ([],j)
     else some (units c,j)
def quoteGo (l:List UInt8) (m:Nat):Nat→Nat→Option (List UInt8 × Nat)
 | 0,_=>none
 | f + 1,i =>
   if (chr l i).2=0∨(chr l i).1=10∨(chr l i).1=13 then none
   else if (chr l i).1=m then some ([],i + (chr l i).2)
   else if (chr l i).1=92 then (escape l (i + (chr l i).2)).bind fun x=>(quoteGo l m f x.2).map fun y=>(x.1 ++ y.1,y.2)
   else (quoteGo l m f (i + (chr l i).2)).map fun y=>(units (chr l i).1 ++ y.1,y.2)
def marks:List (List UInt8):=[[62,62,62],[61,61,61],[33,61,61],[60,61],[62,61],[61,61],[33,61],[43,43],[45,45],[60,60],[62,62],[38,38],[124,124],[43,61],[45,61],[42,61],[47,61],[37,61],[123],[125],[40],[41],[91],[93],[59],[44],[46],[60],[62],[43],[45],[42],[47],[37],[38],[124],[94],[33],[126],[63],[58],[61]]
def wordList:List UInt8:=[32,98,114,101,97,107,32,99,97,115,101,32,99,97,116,99,104,32,99,108,97,115,115,32,99,111,110,115,116,32,99,111,110,116,105,110,117,101,32,100,101,98,117,103,103,101,114,32,100,101,102,97,117,108,116,32,100,101,108,101,116,101,32,100,111,32,101,108,115,101,32,101,110,117,109,32,101,120,112,111,114,116,32,101,120,116,101,110,100,115,32,102,97,108,115,101,32,102,105,110,97,108,108,121,32,102,111,114,32,102,117,110,99,116,105,111,110,32,105,102,32,105,109,112,111,114,116,32,105,110,32,105,110,115,116,97,110,99,101,111,102,32,108,101,116,32,110,101,119,32,110,117,108,108,32,114,101,116,117,114,110,32,115,117,112,101,114,32,115,119,105,116,99,104,32,116,104,105,115,32,116,104,114,111,119,32,116,114,117,101,32,116,114,121,32,116,121,112,101,111,102,32,118,97,114,32,118,111,105,100,32,119,104,105,108,101,32,119,105,116,104,32,121,105,101,108,100,32]
def word (s:List UInt8):Bool:=!s.isEmpty && (!s.contains 32 && (idx (32 :: (s ++ [32])) wordList).isSome)
structure Lx where
 kind:Nat
 text:List UInt8
 num:List UInt8
 at_:Nat
 line:Bool
def one (C:List UInt8→Bool) (l:List UInt8) (i:Nat) (ln:Bool):Except Bool (Lx × Nat) :=
 if letter (by8 l i) then
   let e:=run (fun b=>letter b || digit b) l i
   .ok (⟨if word (sub l i e) then 2 else 1,sub l i e,[],i,ln⟩,e)
 else if digit (by8 l i) || (by8 l i == 46 && digit (by8 l (i + 1))) then
   match numeral l i with
   | none=>.error false
   | some e=>if C (sub l i e) then .ok (⟨3,[],sub l i e,i,ln⟩,e) else .error true
 else if by8 l i=34∨by8 l i=39 then
   match quoteGo l (by8 l i) (l.length + 1) (i + 1) with
   | none=>.error false
   | some (t,e)=>.ok (⟨4,t,[],i,ln⟩,e)
 else match marks.find? fun m=>m.isPrefixOf (l.drop i) with
   | none=>.error false
   | some m=>.ok (⟨5,m,[],i,ln⟩,i + m.length)
end Lx
namespace Lx
theorem stands {s l:List UInt8} {i:Nat} (hi:i + s.length + 2≤l.length):(32 :: (s ++ [32])) <+: l.drop i↔(by8 l i=32∧sub l (i + 1) (i + 1 + s.length)=s∧by8 l (i + 1 + s.length)=32):=by
 have e1:l.drop i=UInt8.ofNat (by8 l i) :: l.drop (i + 1):=by
   rw [List.drop_eq_getElem_cons (by omega:i < l.length)]
   congr 1
   simp [by8,List.getD_eq_getElem?_getD,List.getElem?_eq_getElem (by omega:i < l.length)]
 have e2:l.drop (i + 1)=sub l (i + 1) (i + 1 + s.length) ++ l.drop (i + 1 + s.length):=by
   unfold sub
   rw [show i + 1 + s.length - (i + 1)=s.length by omega,show l.drop (i + 1 + s.length)=(l.drop (i + 1)).drop s.length by rw [List.drop_drop],List.take_append_drop]
 have e3:l.drop (i + 1 + s.length)=UInt8.ofNat (by8 l (i + 1 + s.length)) :: l.drop (i + 1 + s.length + 1):=by
   rw [List.drop_eq_getElem_cons (by omega:i + 1 + s.length < l.length)]
   congr 1
   simp [by8,List.getD_eq_getElem?_getD,List.getElem?_eq_getElem (by omega:i + 1 + s.length < l.length)]
 have hb:∀ k,UInt8.ofNat (by8 l k)=32↔by8 l k=32:=fun k=>by
   have:=by8_lt l k
   constructor
   · intro h
     have:=congrArg UInt8.toNat h
     rw [UInt8.toNat_ofNat'] at this
     have e:(32:UInt8).toNat=32:=rfl
     omega
   · intro h;rw [h];rfl
 have hsl:(sub l (i + 1) (i + 1 + s.length)).length=s.length:=by rw [length_sub];omega
 rw [e1,List.cons_prefix_cons,e2,e3]
 constructor
 · rintro ⟨h1,h2⟩
   have h3:s=sub l (i + 1) (i + 1 + s.length):=by
     have:=List.prefix_append s [32]
     have h4:=this.trans h2
     have h5:=List.prefix_iff_eq_take.1 h4
     rw [List.take_append_of_le_length (by omega),List.take_of_length_le (by omega)] at h5
     exact h5
   rw [← h3,List.prefix_append_right_inj,List.cons_prefix_cons] at h2
   exact ⟨(hb i).1 h1.symm,h3.symm,(hb _).1 h2.1.symm⟩
 · rintro ⟨h1,h2,h3⟩
   refine ⟨((hb i).2 h1).symm,?_⟩
   rw [h2,List.prefix_append_right_inj,List.cons_prefix_cons]
   exact ⟨((hb _).2 h3).symm,List.nil_prefix⟩
end Lx
namespace Lx
theorem chr_end {l:List UInt8} {i:Nat} (h:(chr l i).2≠0):i + (chr l i).2≤l.length:=by
 have hN:∀ n c low,(chrN l i n c low).2≠0→i + (chrN l i n c low).2≤l.length:=fun n c low g=>by
   unfold chrN at g ⊢
   split
   · rename_i q;exact q.1
   · rename_i q;rw [if_neg q] at g;exact absurd rfl g
 unfold chr at h ⊢
 split
 · rename_i q;rw [if_pos q] at h;exact absurd rfl h
 · rename_i q
   rw [if_neg q] at h
   split
   · simp only;omega
   · rename_i q1;rw [if_neg q1] at h
     split
     · rename_i q2;rw [if_pos q2] at h;exact hN _ _ _ h
     · rename_i q2;rw [if_neg q2] at h
       split
       · rename_i q3;rw [if_pos q3] at h;exact hN _ _ _ h
       · rename_i q3;rw [if_neg q3] at h
         split
         · rename_i q4;rw [if_pos q4] at h;exact hN _ _ _ h
         · rename_i q4;rw [if_neg q4] at h;exact absurd rfl h
theorem runGo_le (p:Nat→Bool):∀ xs:List UInt8,runGo p xs≤xs.length
 | []=>Nat.le_refl _
 | b :: r=>by
   rw [runGo]
   split
   · have:=runGo_le p r;simp;omega
   · omega
def named (x:Lx):Nat:=if x.kind=3∨x.kind=4 then 0 else x.text.length
def Cov (l:List UInt8):Nat→List Lx→Prop
 | _,[]=>True
 | lo,x :: r=>lo≤x.at_∧x.at_ < l.length∧(0 < named x→x.at_ + named x≤l.length∧sub l x.at_ (x.at_ + named x)=x.text)∧Cov l (x.at_ + max 1 (named x)) r
theorem Cov.mono {l:List UInt8} {a b:Nat} {xs:List Lx} (h:Cov l b xs) (hab:a≤b):Cov l a xs:=by
 cases xs with
 | nil=>trivial
 | cons x r=>exact ⟨Nat.le_trans hab h.1,h.2⟩
end Lx
namespace Lx
/-! ### a blank ahead -/
def Lx.sh (x:Lx):Lx:={ x with at_:=x.at_ + 1 }
def shO:Except Bool (Lx × Nat)→Except Bool (Lx × Nat)
 | .ok (x,k)=>.ok (x.sh,k + 1)
 | .error b=>.error b
end Lx
namespace Lx
def w16 (t:List UInt8):List UInt8:=t.flatMap fun b=>[0,b]
end Lx
end Go.Proofs.YtgdolcoiihagfaaGreatDoor
