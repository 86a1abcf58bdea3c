/- The layer utf in plain Lean, the other way: units as characters, characters as bytes. The layer utf in plain Lean: joined texts, great and small letters twice. The layer utf in plain Lean: characters as bytes and back, units and back. -/
import Derived.Test.YtgdolcoiihagfaaGreatDoorUtfPure
namespace Go.Proofs.YtgdolcoiihagfaaGreatDoor
open Go Go.RowKit
set_option linter.all false
set_option maxRecDepth 100000
def enc (c:Nat):List UInt8 :=
 if c < 128 then [UInt8.ofNat c]
 else if c < 2048 then [UInt8.ofNat (192 + c / 64),UInt8.ofNat (128 + c % 64)]
 else if c < 65536 then [UInt8.ofNat (224 + c / 4096),UInt8.ofNat (128 + c / 64 % 64),UInt8.ofNat (128 + c % 64)]
 else [UInt8.ofNat (240 + c / 262144),UInt8.ofNat (128 + c / 4096 % 64),UInt8.ofNat (128 + c / 64 % 64),UInt8.ofNat (128 + c % 64)]
@[go_sem] theorem enc_length_le (c:Nat):(enc c).length≤4:=by
 unfold enc
 repeat' split
 all_goals simp
theorem findU_spec (l p:List UInt8) (n:Nat):∀ k i,l.length / 2 + 1 - i≤k →
   (findU l p n i=-1∧∀ j,i≤j→j + n≤l.length / 2→sub l (2 * j) (2 * (j + n))≠p) ∨
   (∃ m:Nat,findU l p n i=m∧i≤m∧m + n≤l.length / 2∧sub l (2 * m) (2 * (m + n))=p∧∀ j,i≤j→j < m→sub l (2 * j) (2 * (j + n))≠p):=by
 intro k
 induction k with
 | zero =>
   intro i h
   rw [findU,dif_neg (by omega)]
   exact .inl ⟨rfl,fun j h1 h2=>by omega⟩
 | succ k ih =>
   intro i h
   rw [findU]
   by_cases hi:i + n≤l.length / 2
   · rw [dif_pos hi]
     by_cases he:sub l (2 * i) (2 * (i + n))=p
     · rw [if_pos he]
       exact .inr ⟨i,rfl,Nat.le_refl _,hi,he,fun j h1 h2=>by omega⟩
     · rw [if_neg he]
       rcases ih (i + 1) (by omega) with ⟨h1,h2⟩ | ⟨m,h1,h2,h3,h4,h5⟩
       · refine .inl ⟨h1,fun j h3 h4=>?_⟩
         by_cases hj:j=i
         · subst hj;exact he
         · exact h2 j (by omega) h4
       · refine .inr ⟨m,h1,by omega,h3,h4,fun j h6 h7=>?_⟩
         by_cases hj:j=i
         · subst hj;exact he
         · exact h5 j (by omega) h7
   · rw [dif_neg hi]
     exact .inl ⟨rfl,fun j h1 h2=>by omega⟩
theorem by8_cons (b:UInt8) (t:List UInt8) (k:Nat):by8 (b :: t) (k + 1)=by8 t k:=rfl
end Go.Proofs.YtgdolcoiihagfaaGreatDoor
