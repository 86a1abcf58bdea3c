/- The layer utf in plain Lean: what its functions compute, as functions on lists of bytes. -/
import Derived.Test.YtgdolcoiihagfaaGreatDoorBase
namespace Go.Proofs.YtgdolcoiihagfaaGreatDoor
open Go Go.RowKit
set_option linter.all false
set_option maxRecDepth 100000
def at16 (l:List UInt8) (i:Nat):Nat:=by8 l (2 * i) * 256 + by8 l (2 * i + 1)
theorem at16_lt (l:List UInt8) (i:Nat):at16 l i < 65536:=by
 have:=by8_lt l (2 * i);have:=by8_lt l (2 * i + 1);unfold at16;omega
def clamp (i:Int) (n:Nat):Nat:=(min (max i 0) (n:Int)).toNat
def cutU (l:List UInt8) (i j:Int):List UInt8:=sub l (2 * clamp i (l.length / 2)) (2 * clamp j (l.length / 2))
theorem sub_append (l:List UInt8) {a b c:Nat} (h:a≤b) (h':b≤c):sub l a b ++ sub l b c=sub l a c:=by
 unfold sub
 rw [show l.drop b=(l.drop a).drop (b - a) by rw [List.drop_drop];congr 1;omega]
 generalize l.drop a=m
 rw [show c - a=(b - a) + (c - b) by omega,List.take_add]
theorem sub_nil (l:List UInt8) {a b:Nat} (h:b≤a):sub l a b=[]:=by unfold sub;rw [show b - a=0 by omega];rfl
theorem sub_all (l:List UInt8) {b:Nat} (h:l.length≤b):sub l 0 b=l:=by unfold sub;simp [List.take_of_length_le,h]
def unit8 (u:Nat):List UInt8:=[UInt8.ofNat (u / 256),UInt8.ofNat (u % 256)]
@[go_sem] theorem unit8_length (u:Nat):(unit8 u).length=2:=rfl
def findU (l p:List UInt8) (n i:Nat):Int :=
 if h:i + n≤l.length / 2 then (if sub l (2 * i) (2 * (i + n))=p then (i:Int) else findU l p n (i + 1)) else -1
termination_by l.length / 2 + 1 - i
def caseU (g:Bool) (u:Nat):Nat:=if g then (if 97≤u∧u≤122 then u - 32 else u) else (if 65≤u∧u≤90 then u + 32 else u)
def caseL (g:Bool) (l:List UInt8) (k:Nat):List UInt8:=(List.range k).flatMap fun i=>unit8 (caseU g (at16 l i))
theorem caseL_succ (g:Bool) (l:List UInt8) (k:Nat):caseL g l (k + 1)=caseL g l k ++ unit8 (caseU g (at16 l k)):=by
 unfold caseL;rw [List.range_succ,List.flatMap_append];simp
theorem caseL_length (g:Bool) (l:List UInt8) (k:Nat):(caseL g l k).length=2 * k:=by
 induction k with
 | zero=>rfl
 | succ k ih=>rw [caseL_succ,List.length_append,ih];simp [unit8];omega
theorem by8_append (a b:List UInt8) (j:Nat):by8 (a ++ b) j=if j < a.length then by8 a j else by8 b (j - a.length):=by
 unfold by8
 by_cases h:j < a.length
 · simp [h,List.getElem?_append_left]
 · simp only [h,if_false,List.getD_eq_getElem?_getD]
   rw [List.getElem?_append_right (by omega)]
theorem by8_sub (l:List UInt8) (a b j:Nat):by8 (sub l a b) j=if j < b - a then by8 l (a + j) else 0:=by
 unfold by8 sub
 by_cases h:j < b - a <;> simp [h,List.getElem?_take]
theorem sub_cons (l:List UInt8) {a b:Nat} (h:a < b) (h':a < l.length):sub l a b=UInt8.ofNat (by8 l a) :: sub l (a + 1) b:=by
 unfold sub by8
 rw [List.drop_eq_getElem_cons h',show b - a=(b - (a + 1)) + 1 by omega,List.take_succ_cons]
 simp [h']
theorem sub_two (l:List UInt8) {a b:Nat} (h:a + 1 < b) (h':a + 1 < l.length):sub l a b=UInt8.ofNat (by8 l a) :: UInt8.ofNat (by8 l (a + 1)) :: sub l (a + 2) b:=by
 rw [sub_cons l (by omega) (by omega),sub_cons l h h']
def caseRow (g:Bool) (l:List UInt8) (k:Nat):List UInt8:=caseL g l k ++ sub l (2 * k) (2 * (l.length / 2))
theorem caseRow_length (g:Bool) (l:List UInt8) (k:Nat) (h:k≤l.length / 2):(caseRow g l k).length=2 * (l.length / 2):=by
 unfold caseRow;rw [List.length_append,caseL_length,length_sub];omega
theorem caseRow_at (g:Bool) (l:List UInt8) (k:Nat) (h:k < l.length / 2) (j:Nat) (hj:2 * k≤j) (hj':j < 2 * (l.length / 2)):by8 (caseRow g l k) j=by8 l j:=by
 unfold caseRow
 rw [by8_append,caseL_length,if_neg (by omega),by8_sub,if_pos (by omega)]
 congr 1;omega
theorem unit8_at16 (l:List UInt8) (k:Nat):unit8 (at16 l k)=[UInt8.ofNat (by8 l (2 * k)),UInt8.ofNat (by8 l (2 * k + 1))]:=by
 have h1:=by8_lt l (2 * k);have h2:=by8_lt l (2 * k + 1)
 unfold unit8 at16
 rw [show (by8 l (2 * k) * 256 + by8 l (2 * k + 1)) / 256=by8 l (2 * k) by omega,show (by8 l (2 * k) * 256 + by8 l (2 * k + 1)) % 256=by8 l (2 * k + 1) by omega]
theorem caseRow_stay (g:Bool) (l:List UInt8) (k:Nat) (h:k < l.length / 2) (hs:caseU g (at16 l k)=at16 l k):caseRow g l (k + 1)=caseRow g l k:=by
 unfold caseRow
 rw [caseL_succ,hs,unit8_at16,sub_two l (a:=2 * k) (by omega) (by omega),List.append_assoc]
 rfl
theorem caseRow_turn (g:Bool) (l:List UInt8) (k:Nat) (h:k < l.length / 2) (x:Nat) (hx:x < 256) (hs:caseU g (at16 l k)=by8 l (2 * k) * 256 + x):caseRow g l (k + 1)=(caseRow g l k).set (2 * k + 1) (UInt8.ofNat x):=by
 have h1:=by8_lt l (2 * k)
 unfold caseRow
 rw [caseL_succ,hs,sub_two l (a:=2 * k) (by omega) (by omega),List.append_assoc,List.set_append_right (s:=caseL g l k) (2 * k + 1) _ (by rw [caseL_length];omega),caseL_length]
 have e1:(by8 l (2 * k) * 256 + x) / 256=by8 l (2 * k):=by omega
 have e2:(by8 l (2 * k) * 256 + x) % 256=x:=by omega
 have e3:2 * k + 1 - 2 * k=1:=by omega
 simp only [unit8,e1,e2,e3]
 rfl
theorem xor32_up:∀ b:Nat,b < 256→97≤b∧b≤122→b ^^^ 32=b - 32:=by decide +kernel
theorem xor32_down:∀ b:Nat,b < 256→65≤b∧b≤90→b ^^^ 32=b + 32:=by decide +kernel
def contB (l:List UInt8) (i:Nat):Nat→Bool
 | 0=>true
 | k + 1=>contB l i k && (decide (128≤by8 l (i + k + 1)) && decide (by8 l (i + k + 1) < 192))
def valB (l:List UInt8) (i c:Nat):Nat→Nat
 | 0=>c
 | k + 1=>valB l i c k * 64 + by8 l (i + k + 1) - 128
def chrN (l:List UInt8) (i n c low:Nat):Nat × Nat :=
 if i + n≤l.length∧contB l i (n - 1)=true∧low≤valB l i c (n - 1)∧valB l i c (n - 1)≤1114111∧¬ (55296≤valB l i c (n - 1)∧valB l i c (n - 1) < 57344) then (valB l i c (n - 1),n) else (0,0)
def chr (l:List UInt8) (i:Nat):Nat × Nat :=
 if l.length≤i then (0,0)
 else if by8 l i < 128 then (by8 l i,1)
 else if 192≤by8 l i∧by8 l i < 224 then chrN l i 2 (by8 l i - 192) 128
 else if 224≤by8 l i∧by8 l i < 240 then chrN l i 3 (by8 l i - 224) 2048
 else if 240≤by8 l i∧by8 l i < 248 then chrN l i 4 (by8 l i - 240) 65536
 else (0,0)
theorem get_mk (m:List UInt8) (k:Nat):((ByteArray.mk m.toArray).get! k).toNat=by8 m k:=by
 unfold by8 ByteArray.get!
 by_cases h:k < m.length
 · simp [h]
 · simp [h]
   rfl
theorem chr_decode (l:List UInt8) (i:Nat) (h:i < l.length) :
   (if (Utf8.decode ⟨(sub l i l.length).toArray⟩ 0)=(65533,1) then (0,0) else Utf8.decode ⟨(sub l i l.length).toArray⟩ 0)=chr l i:=by
 have hb:∀ k,by8 (sub l i l.length) k=by8 l (i + k):=fun k=>by
   rw [by8_sub]
   split
   · rfl
   · unfold by8;rw [List.getD_eq_getElem?_getD,List.getElem?_eq_none (by omega)];rfl
 have hz:(ByteArray.mk (sub l i l.length).toArray).size=l.length - i:=by
   show (sub l i l.length).toArray.size=_
   simp only [List.size_toArray,length_sub];omega
 have e2:∀ c low,chrN l i 2 c low=if i + 2≤l.length∧(true && (decide (128≤by8 l (i + 1)) && decide (by8 l (i + 1) < 192)))=true∧low≤c * 64 + by8 l (i + 1) - 128∧c * 64 + by8 l (i + 1) - 128≤1114111∧¬ (55296≤c * 64 + by8 l (i + 1) - 128∧c * 64 + by8 l (i + 1) - 128 < 57344) then (c * 64 + by8 l (i + 1) - 128,2) else (0,0):=fun _ _=>rfl
 have e3:∀ c low,chrN l i 3 c low=if i + 3≤l.length∧(true && (decide (128≤by8 l (i + 1)) && decide (by8 l (i + 1) < 192)) && (decide (128≤by8 l (i + 2)) && decide (by8 l (i + 2) < 192)))=true∧low≤(c * 64 + by8 l (i + 1) - 128) * 64 + by8 l (i + 2) - 128∧(c * 64 + by8 l (i + 1) - 128) * 64 + by8 l (i + 2) - 128≤1114111∧¬ (55296≤(c * 64 + by8 l (i + 1) - 128) * 64 + by8 l (i + 2) - 128∧(c * 64 + by8 l (i + 1) - 128) * 64 + by8 l (i + 2) - 128 < 57344) then ((c * 64 + by8 l (i + 1) - 128) * 64 + by8 l (i + 2) - 128,3) else (0,0):=fun _ _=>rfl
 have e4:∀ c low,chrN l i 4 c low=if i + 4≤l.length∧(true && (decide (128≤by8 l (i + 1)) && decide (by8 l (i + 1) < 192)) && (decide (128≤by8 l (i + 2)) && decide (by8 l (i + 2) < 192)) && (decide (128≤by8 l (i + 3)) && decide (by8 l (i + 3) < 192)))=true∧low≤((c * 64 + by8 l (i + 1) - 128) * 64 + by8 l (i + 2) - 128) * 64 + by8 l (i + 3) - 128∧((c * 64 + by8 l (i + 1) - 128) * 64 + by8 l (i + 2) - 128) * 64 + by8 l (i + 3) - 128≤1114111∧¬ (55296≤((c * 64 + by8 l (i + 1) - 128) * 64 + by8 l (i + 2) - 128) * 64 + by8 l (i + 3) - 128∧((c * 64 + by8 l (i + 1) - 128) * 64 + by8 l (i + 2) - 128) * 64 + by8 l (i + 3) - 128 < 57344) then (((c * 64 + by8 l (i + 1) - 128) * 64 + by8 l (i + 2) - 128) * 64 + by8 l (i + 3) - 128,4) else (0,0):=fun _ _=>rfl
 unfold chr
 rw [e2,e3,e4]
 clear e2 e3 e4
 unfold Utf8.decode
 simp only [get_mk,hb,hz,Nat.add_zero,Nat.zero_add]
 have l0:=by8_lt l i;have l1:=by8_lt l (i + 1);have l2:=by8_lt l (i + 2);have l3:=by8_lt l (i + 3)
 generalize by8 l i=b0 at *
 generalize by8 l (i + 1)=b1 at *
 generalize by8 l (i + 2)=b2 at *
 generalize by8 l (i + 3)=b3 at *
 clear hb hz
 generalize hn:l.length=n at *
 obtain ⟨m,rfl⟩:∃ m,n=i + m:=⟨n - i,by omega⟩
 have hm:1≤m:=by omega
 clear hn h
 rw [if_neg (show ¬ i + m≤i by omega),show i + m - i=m by omega]
 simp only [Bool.and_eq_true,Bool.or_eq_true,beq_iff_eq,decide_eq_true_eq,Utf8.valid,Utf8.runeError,Bool.true_and,Nat.add_le_add_iff_left,ge_iff_le]
 generalize hd:(if b0 < 128 then (b0,1) else _:Nat × Nat)=d
 by_cases h0:b0 < 128
 · rw [if_pos h0] at hd ⊢
   subst hd
   rw [if_neg (by simp;omega)]
 rw [if_neg h0] at hd ⊢
 by_cases h1:192≤b0∧b0 < 224
 · rw [if_pos h1]
   by_cases hc:2≤m∧(128≤b1∧b1 < 192)
   · rw [if_pos (by omega)] at hd
     by_cases hv:128≤b0 % 32 * 64 + b1 % 64
     · rw [if_pos hv] at hd;subst hd
       rw [if_neg (by simp),if_pos (by omega)]
       exact Prod.ext (by simp only;omega) rfl
     · rw [if_neg hv] at hd;subst hd
       rw [if_pos rfl,if_neg (by omega)]
   · rw [if_neg (by omega),if_neg (by omega),if_neg (by omega)] at hd;subst hd
     rw [if_pos rfl,if_neg (by omega)]
 rw [if_neg h1]
 by_cases h2:224≤b0∧b0 < 240
 · rw [if_pos h2]
   by_cases hc:3≤m∧(128≤b1∧b1 < 192)∧(128≤b2∧b2 < 192)
   · rw [if_neg (by omega),if_pos (by omega)] at hd
     split at hd
     · subst hd
       rw [if_neg (by simp),if_pos (by omega)]
       exact Prod.ext (by simp only;omega) rfl
     · subst hd
       rw [if_pos rfl,if_neg (by omega)]
   · rw [if_neg (by omega),if_neg (by omega),if_neg (by omega)] at hd;subst hd
     rw [if_pos rfl,if_neg (by omega)]
 rw [if_neg h2]
 by_cases h3:240≤b0∧b0 < 248
 · rw [if_pos h3]
   by_cases hc:4≤m∧(128≤b1∧b1 < 192)∧(128≤b2∧b2 < 192)∧(128≤b3∧b3 < 192)
   · rw [if_neg (by omega),if_neg (by omega),if_pos (by omega)] at hd
     split at hd
     · subst hd
       rw [if_neg (by simp),if_pos (by omega)]
       exact Prod.ext (by simp only;omega) rfl
     · subst hd
       rw [if_pos rfl,if_neg (by omega)]
   · rw [if_neg (by omega),if_neg (by omega),if_neg (by omega)] at hd;subst hd
     rw [if_pos rfl,if_neg (by omega)]
 rw [if_neg h3]
 rw [if_neg (by omega),if_neg (by omega),if_neg (by omega)] at hd;subst hd
 rw [if_pos rfl]
def units (c:Nat):List UInt8:=if 65536≤c then unit8 (55296 + (c - 65536) / 1024) ++ unit8 (56320 + (c - 65536) % 1024) else unit8 c
theorem units_length_le (c:Nat):(units c).length≤4:=by unfold units;split <;> simp [unit8]
theorem chrN_end (l:List UInt8) (i n c low:Nat) (h:(chrN l i n c low).2≠0):i + (chrN l i n c low).2≤l.length:=by
 unfold chrN at *
 split at h
 · rename_i hh;rw [if_pos hh];exact hh.1
 · exact absurd rfl h
theorem chr_end (l:List UInt8) (i:Nat) (h:(chr l i).2≠0):i + (chr l i).2≤l.length:=by
 unfold chr at *
 split at h
 · exact absurd rfl h
 rename_i h0
 rw [if_neg h0]
 split at h
 · rename_i h1;rw [if_pos h1];show i + 1≤_;omega
 rename_i h1;rw [if_neg h1]
 split at h
 · rename_i h2;rw [if_pos h2];exact chrN_end _ _ _ _ _ h
 rename_i h2;rw [if_neg h2]
 split at h
 · rename_i h3;rw [if_pos h3];exact chrN_end _ _ _ _ _ h
 rename_i h3;rw [if_neg h3]
 split at h
 · rename_i h4;rw [if_pos h4];exact chrN_end _ _ _ _ _ h
 · exact absurd rfl h
def wideGo (l:List UInt8) (i:Nat) (acc:List UInt8):List UInt8 × Nat × Nat :=
 if i < l.length then (if (chr l i).2=0 then ([],i,10) else wideGo l (i + (chr l i).2) (acc ++ units (chr l i).1)) else (acc,0,0)
termination_by l.length - i
decreasing_by omega
def wideR (l:List UInt8):List UInt8 × Nat × Nat:=wideGo l 0 []
end Go.Proofs.YtgdolcoiihagfaaGreatDoor
