/- Layer 9, in plain words: values as texts and as numbers; the same, less, sums. Layer 9, in plain words: what is the same, what is less. Layer 9: numbers' texts are plain bytes, and short. -/
import Derived.Test.YtgdolcoiihagfaaGreatDoorHaD
import Derived.Test.YtgdolcoiihagfaaGreatDoorIeX
import Derived.Test.YtgdolcoiihagfaaGreatDoorFtC
import Derived.Test.YtgdolcoiihagfaaGreatDoorHpA
namespace Go.Proofs.YtgdolcoiihagfaaGreatDoor
open Go Go.RowKit
set_option linter.all false
set_option maxRecDepth 100000
namespace Cv
def wUndef:List UInt8:=wide8 [117,110,100,101,102,105,110,101,100]
def wNull:List UInt8:=wide8 [110,117,108,108]
def wTrue:List UInt8:=wide8 [116,114,117,101]
def wFalse:List UInt8:=wide8 [102,97,108,115,101]
def wObj:List UInt8:=wide8 [91,111,98,106,101,99,116,32,79,98,106,101,99,116,93]
def wFunc:List UInt8:=wide8 [102,117,110,99,116,105,111,110]
def one:Nat:=4607182418800017408
def some' (v:Va):Bool:=v.kind != 0 && v.kind != 1
def tellV (T:Nat→List UInt8) (d:Hd) (arr:Int→Option (List UInt8)) (v:Va):Option (List UInt8) :=
 if v.kind=0 then some wUndef
 else if v.kind=1 then some wNull
 else if v.kind=2 then some (if eqB v.num one=true then wTrue else wFalse)
 else if v.kind=3 then some (wide8 (T v.num))
 else if v.kind=4 then some v.text
 else if v.kind=5 then (if d.kind v.ref=1 then some wObj else if d.kind v.ref=2 then arr v.ref else some wFunc)
 else some wFunc
def joinL (te:Va→Option (List UInt8)):List Va→Bool→List UInt8→Option (List UInt8)
 | [],_,s=>some s
 | v :: r,fst,s=>match (if some' v=true then te v else some []) with
   | none=>none
   | some m=>if 8192 < ((if fst then s else s ++ [0,44]) ++ m).length / 2 then none else joinL te r false ((if fst then s else s ++ [0,44]) ++ m)
def arrT (T:Nat→List UInt8) (d:Hd):Nat→List Int→Int→Option (List UInt8)
 | 0,_,_=>some []
 | f + 1,L,i=>if i∈L then some [] else joinL (tellV T d (arrT T d f (L ++ [i]))) ((d.items i).getD []) true []
def text (T:Nat→List UInt8) (d:Hd) (v:Va):Option (List UInt8):=tellV T d (arrT T d (d.xs.length + 1) []) v
theorem joinL_len {te:Va→Option (List UInt8)}:∀ (l:List Va) (fst:Bool) (s t:List UInt8),joinL te l fst s=some t→s.length≤16385→t.length≤16385
 | [],_,s,t,h,hs=>by cases h;exact hs
 | v :: r,fst,s,t,h,hs=>by
   rw [joinL] at h
   generalize (if some' v=true then te v else some [])=o at h
   cases o with
   | none=>cases h
   | some m =>
     simp only at h
     generalize (if fst=true then s else s ++ [0,44]) ++ m=s' at h
     by_cases g:8192 < s'.length / 2
     · rw [if_pos g] at h;cases h
     · rw [if_neg g] at h
       exact joinL_len r false s' t h (by omega)
theorem arrT_len (T:Nat→List UInt8) (d:Hd):∀ f L i t,arrT T d f L i=some t→t.length≤16385
 | 0,L,i,t,h=>by cases h;simp
 | f + 1,L,i,t,h=>by
   rw [arrT] at h
   split at h
   · cases h;simp
   · exact joinL_len _ _ _ _ h (by simp)
theorem tellV_len {T:Nat→List UInt8} (hT:∀ x,(T x).length≤100) {d:Hd} {arr:Int→Option (List UInt8)} (ha:∀ i t,arr i=some t→t.length≤16385) {v:Va} {t:List UInt8} (h:tellV T d arr v=some t):t.length≤16385∨t.length≤v.text.length:=by
 unfold tellV at h
 split at h
 · cases h;left;decide
 split at h
 · cases h;left;decide
 split at h
 · cases h;left;split <;> decide
 split at h
 · cases h;left;rw [wide8_len];have:=hT v.num;omega
 split at h
 · cases h;right;exact Nat.le_refl _
 split at h
 · split at h
   · cases h;left;decide
   · split at h
     · left;exact ha _ _ h
     · cases h;left;decide
 · cases h;left;decide
def nanC:Nat:=9221120237041090561
def number (T:Nat→List UInt8) (N:List UInt8→Nat) (d:Hd) (v:Va):Option Nat :=
 if v.kind=0 then some nanC else if v.kind=1 then some 0 else if v.kind=2∨v.kind=3 then some v.num else (text T d v).map N
end Cv
namespace Cv
theorem cmp_swap (a b:Int):compare a b=(compare b a).swap:=by
 have cmp:∀ x y:Int,compare x y=if x < y then .lt else if x=y then .eq else .gt:=fun x y=>rfl
 rw [cmp,cmp]
 by_cases h1:a < b
 · rw [if_pos h1,if_neg (by omega),if_neg (by omega)];rfl
 · rw [if_neg h1]
   by_cases h2:a=b
   · subst h2;rw [if_pos rfl,if_neg h1];rfl
   · rw [if_neg h2,if_pos (by omega)];rfl
theorem cmp_swapN (a b:Nat):compare a b=(compare b a).swap:=by
 have cmp:∀ x y:Nat,compare x y=if x < y then .lt else if x=y then .eq else .gt:=fun x y=>rfl
 rw [cmp,cmp]
 by_cases h1:a < b
 · rw [if_pos h1,if_neg (by omega),if_neg (by omega)];rfl
 · rw [if_neg h1]
   by_cases h2:a=b
   · subst h2;rw [if_pos rfl,if_neg h1];rfl
   · rw [if_neg h2,if_pos (by omega)];rfl
theorem order_swap (x y:Nat):FloatKind.f64.format.order x y=(FloatKind.f64.format.order y x).map Ordering.swap:=by
 unfold Ieee.Format.order
 generalize FloatKind.f64.format.read x=a
 generalize FloatKind.f64.format.read y=b
 cases a with
 | nan s f=>cases b <;> rfl
 | infinity s=>cases b with
   | nan t g=>rfl
   | infinity t=>simp only [Ieee.Datum.order,Option.map_some];rw [cmp_swapN]
   | number t n j=>cases s <;> rfl
 | number s m i=>cases b with
   | nan t g=>rfl
   | infinity t=>cases t <;> rfl
   | number t n j =>
     simp only [Ieee.Datum.order,Option.map_some]
     rw [Int.min_comm j i,cmp_swap]
end Cv
namespace Cv
open Ft
def Asc (l:List UInt8):Prop:=∀ c∈l,c.toNat < 128
theorem Asc.app {A B:List UInt8} (ha:Asc A) (hb:Asc B):Asc (A ++ B):=fun c h=>(List.mem_append.1 h).elim (ha c) (hb c)
theorem Asc.cons {a:UInt8} {B:List UInt8} (ha:a.toNat < 128) (hb:Asc B):Asc (a :: B):=fun c h=>(List.mem_cons.1 h).elim (fun e=>e ▸ ha) (hb c)
theorem asc_rep (k:Nat):Asc (Lib.repeatL [48] k):=by
 induction k with
 | zero=>intro c h;cases h
 | succ k ih =>
   rw [Lib.repeatL]
   exact Asc.app (fun c h=>by rw [List.mem_singleton] at h;subst h;decide) ih
theorem asc_sub {T:List UInt8} (h:Asc T) (a b:Nat):Asc (Go.Proofs.YtgdolcoiihagfaaGreatDoor.sub T a b):=fun c hc=>by
 unfold Go.Proofs.YtgdolcoiihagfaaGreatDoor.sub at hc
 first
   | exact h c (List.mem_of_mem_take (List.mem_of_mem_drop hc))
   | exact h c (List.mem_of_mem_drop (List.mem_of_mem_take hc))
theorem asc_dec (d:Nat):Asc (Lib.decDigits d):=fun c hc=>by
 have:=List.all_eq_true.1 (decDigits_facts d).2.1 c hc
 simp [digB] at this
 omega
theorem asc_dgT (d:Nat):Asc (dgT d):=fun c hc=>by
 unfold dgT cutz at hc
 refine asc_dec d c ?_
 have h1:=List.mem_reverse.1 hc
 exact List.mem_reverse.1 ((List.dropWhile_sublist _).mem h1)
theorem asc_lay {T:List UInt8} (h:Asc T) (n:Int):Asc (lay T n):=by
 unfold lay
 split
 · exact h.app (asc_rep _)
 · split
   · exact (asc_sub h _ _).app (Asc.cons (by decide) (asc_sub h _ _))
   · split
     · exact Asc.cons (by decide) (Asc.cons (by decide) ((asc_rep _).app h))
     · refine ((asc_sub h _ _).app ?_).app ?_
       · split
         · exact Asc.cons (by decide) (asc_sub h _ _)
         · intro c hc;cases hc
       · split
         · exact Asc.cons (by decide) (Asc.cons (by decide) (itoa_ascii _))
         · exact Asc.cons (by decide) (Asc.cons (by decide) (itoa_ascii _))
theorem asc_txp (Hi Lo:Nat→Nat) (r:Nat):Asc (txp Hi Lo r):=by
 unfold txp
 split
 · intro c hc
   simp only [List.mem_cons,List.not_mem_nil,or_false] at hc
   rcases hc with rfl | rfl | rfl | rfl | rfl | rfl | rfl | rfl <;> decide
 · exact asc_lay (asc_dgT _) _
theorem asc_txt (Hi Lo:Nat→Nat) (x:Nat):Asc (txt Hi Lo x):=by
 unfold txt
 split
 · intro c hc
   simp only [List.mem_cons,List.not_mem_nil,or_false] at hc
   rcases hc with rfl | rfl | rfl <;> decide
 · split
   · intro c hc
     rw [List.mem_singleton] at hc
     subst hc
     decide
   · split
     · exact Asc.cons (by decide) (asc_txp _ _ _)
     · exact asc_txp _ _ _
theorem txt_short {Hi Lo:Nat→Nat} (hB:Ft.Big Hi Lo) (x:Nat):(txt Hi Lo x).length≤100:=by
 unfold txt
 split
 · decide
 · next gn =>
   have gn2:=of_decide_eq_false (show Ie.nan x=false by simpa using gn)
   split
   · decide
   · have:=txp_len hB (b:=x % 9223372036854775808) (by omega) (by omega)
     split
     · rw [List.length_cons];omega
     · omega
end Cv
end Go.Proofs.YtgdolcoiihagfaaGreatDoor
