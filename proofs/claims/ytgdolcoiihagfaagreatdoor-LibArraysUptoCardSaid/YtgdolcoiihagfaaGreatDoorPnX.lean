/- The wide text of plain bytes is those bytes. The library's tables of powers, as they are given; texts of three floats by them. -/
import Derived.Test.YtgdolcoiihagfaaGreatDoorNmP
import Derived.Test.YtgdolcoiihagfaaGreatDoorLxP
import Derived.Test.YtgdolcoiihagfaaGreatDoorFtC
import Derived.Test.YtgdolcoiihagfaaGreatDoorNmZ
import Derived.Test.YtgdolcoiihagfaaGreatDoorRows
namespace Go.Proofs.YtgdolcoiihagfaaGreatDoor
open Go Go.RowKit
set_option linter.all false
set_option maxRecDepth 100000
namespace Nm
open Lx (w16)
theorem w16_len:∀ t:List UInt8,(w16 t).length=2 * t.length
 | []=>rfl
 | b :: r=>by
   have h:=w16_len r
   unfold w16 at h ⊢
   rw [List.flatMap_cons,List.length_append,h];simp;omega
def Pl (t:List UInt8):Prop:=∀ k,k < t.length→by8 t k < 128∧blank (by8 t k)=false
end Nm
namespace P10
def Hi0 (k:Nat):Nat:=(Go.Pinned.pow10Rows.getD k (0,0)).1
def Lo0 (k:Nat):Nat:=(Go.Pinned.pow10Rows.getD k (0,0)).2
def T0 (k:Nat):Nat:=Fl.pows.getD k 0
theorem pow_len:Go.Pinned.pow10Rows.length=696:=by kernel_rfl
theorem pow_lt:(Go.Pinned.pow10Rows.all fun x=>decide (9223372036854775808≤x.1) && decide (x.1 < 18446744073709551616) && decide (x.2 < 18446744073709551616))=true:=by kernel_rfl
theorem pow_at {k:Nat} (hk:k < 696):Go.Pinned.pow10Rows[k]?=some (Hi0 k,Lo0 k)∧9223372036854775808≤Hi0 k∧Hi0 k < 18446744073709551616∧Lo0 k < 18446744073709551616:=by
 have hl:k < Go.Pinned.pow10Rows.length:=by rw [pow_len];exact hk
 have h1:Go.Pinned.pow10Rows[k]?=some (Go.Pinned.pow10Rows[k]):=List.getElem?_eq_getElem hl
 have h2:Go.Pinned.pow10Rows.getD k (0,0)=Go.Pinned.pow10Rows[k]:=by rw [List.getD_eq_getElem?_getD,h1];rfl
 have h3:=List.all_eq_true.1 pow_lt _ (List.getElem_mem hl)
 rw [Bool.and_eq_true,Bool.and_eq_true,decide_eq_true_eq,decide_eq_true_eq,decide_eq_true_eq] at h3
 unfold Hi0 Lo0
 rw [h2]
 exact ⟨h1,h3.1.1,h3.1.2,h3.2⟩
theorem big:Ft.Big Hi0 Lo0:=fun k hk=>(pow_at hk).2
theorem t1:Ft.txt Hi0 Lo0 4591870180066957722=[48,46,49]:=by decide +kernel
theorem t2:Ft.txt Hi0 Lo0 4921056587992461136=[49,101,43,50,49]:=by decide +kernel
theorem t3:Ft.txt Hi0 Lo0 13728134904377344886=[45,49,46,53,101,45,55]:=by decide +kernel
end P10
end Go.Proofs.YtgdolcoiihagfaaGreatDoor
