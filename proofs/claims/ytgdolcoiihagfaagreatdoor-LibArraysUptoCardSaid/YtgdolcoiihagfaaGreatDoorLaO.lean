/- What the cards of layer 9 take: an argument that is a value. What LibArrays' card takes: an argument that is a row of values. -/
import Derived.Test.YtgdolcoiihagfaaGreatDoorCvV
import Derived.Test.YtgdolcoiihagfaaGreatDoorHaA
import Derived.OpenShut
import Derived.Test.YtgdolcoiihagfaaGreatDoorLfB
import Derived.Test.YtgdolcoiihagfaaGreatDoorLaX
import Derived.Test.YtgdolcoiihagfaaGreatDoorLiH
namespace Go.Proofs.YtgdolcoiihagfaaGreatDoor
open Go Go.RowKit Go.ChangeShapes Go.WideShapes Go.ChangeAt
set_option linter.all false
set_option maxRecDepth 100000
theorem val_under:Tryz.prog.underlying 25=some (.struct (Tryz.prog.fieldsOf 25)):=by kernel_rfl
theorem val_fields:(Tryz.prog.fieldsOf 25).toList=[{ name := "Kind",type:=3,offset:=0,embedded:=false,tag := "",pkgPath := "",byteOffset:=0 },{ name := "Num",type:=23,offset:=1,embedded:=false,tag := "",pkgPath := "",byteOffset:=8 },{ name := "Text",type:=9,offset:=2,embedded:=false,tag := "",pkgPath := "",byteOffset:=16 },{ name := "Ref",type:=3,offset:=3,embedded:=false,tag := "",pkgPath := "",byteOffset:=32 }]:=by kernel_rfl
theorem val_cellsOf:Tryz.prog.cellsOf 25=4:=by kernel_rfl
theorem val_c1:Tryz.prog.cellsOf 9=1∧Tryz.prog.cellsOf 3=1∧Tryz.prog.cellsOf 23=1:=⟨by kernel_rfl,by kernel_rfl,by kernel_rfl⟩
theorem flt_bound {b:Nat} (h:(Lit.float .f64 b).wf=true):b < 18446744073709551616:=by
 have h':decide (b < 2 ^ 64)=true:=h
 have:=of_decide_eq_true h'
 omega
section
variable {H:Type} {enc:TypeId × Value→H} {W:World}
theorem trod_flt {P:Program} {w:World} {base:Nat} {spare:Nat→Bool} {held:Bool} {fuel:Nat} {t:TypeId} {cs:List Value} {x:DataW H × List MemPlace} {k:FloatKind} (ht:P.underlying t=some (.float k)) (h:DataW.trod enc P w base spare held fuel t cs=some x):∃ n,cs=[.float k n]∧x=(.lit (.float k n),[])∧(Lit.float k n).wf=true:=by
 cases fuel with
 | zero=>simp [DataW.trod] at h
 | succ n =>
   unfold DataW.trod at h
   rw [ht] at h
   split at h <;> simp_all
theorem open_val {v:Value} {d:DataW H} {ps:List MemPlace} {base:Nat} (hv:Value.okWide Tryz.prog W .any base 25 v)
   (h:DataW.Trod enc Tryz.prog W 0 (fun _=>true) true 25 v d ps):∃ a:Va,v=a.v∧a.num < 18446744073709551616∧a.text.length≤Rows.uptoBulk d:=by
 obtain ⟨cs,rfl,hsz⟩:=okWide_struct val_under hv
 obtain ⟨l⟩:=cs
 obtain ⟨fuel,hf⟩:=h
 obtain ⟨xs,n,_,hx,hlc,hlen,hg⟩:=DataW.trod_struct val_under hf
 have hcl:(Value.agg ⟨l⟩).cells.toList=l:=rfl
 rw [hcl] at hg hlc
 rw [val_cellsOf] at hlc
 have hfs:(Tryz.prog.fieldsOf 25).size=4:=by rw [← Array.length_toList,val_fields];rfl
 rw [hfs] at hlen
 obtain ⟨cS,cI,cF⟩:=val_c1
 have g0:=hg 0 _ (by rw [← Array.getElem?_toList,val_fields];rfl)
 dsimp only at g0
 have g1:=hg 1 _ (by rw [← Array.getElem?_toList,val_fields];rfl)
 dsimp only at g1
 have g2:=hg 2 _ (by rw [← Array.getElem?_toList,val_fields];rfl)
 dsimp only at g2
 have g3:=hg 3 _ (by rw [← Array.getElem?_toList,val_fields];rfl)
 dsimp only at g3
 rw [cS] at g2
 rw [cF] at g1
 rw [cI] at g0 g3
 match l,hlc with
 | [c0,c1,c2,c3],_ =>
   match xs,hlen with
   | [y0,y1,y2,y3],_ =>
     obtain ⟨s0,e0,x0,_⟩:=DataW.trod_int Tryz.underlying3 g0
     obtain ⟨s1,e1,x1,b1⟩:=trod_flt Tryz.underlying23 g1
     have b1:=flt_bound b1
     obtain ⟨s2,e2,x2,_⟩:=DataW.trod_string Tryz.underlying9 g2
     obtain ⟨s3,e3,x3,_⟩:=DataW.trod_int Tryz.underlying3 g3
     simp at e0 e1 e2 e3
     subst e0 x0 e1 x1 e2 x2 e3 x3
     simp only [List.map_cons,List.map_nil,Prod.mk.injEq] at hx
     obtain ⟨rfl,-⟩:=hx
     refine ⟨⟨s0,s1,s2.data.toList,s3⟩,by simp [Va.v,Va.cells],b1,?_⟩
     simp only [Rows.uptoBulk,Rows.uptoBulkAll]
     omega
end
open Go Go.RowKit Go.ChangeShapes Go.WideShapes Go.ChangeAt Go.Deep
section
variable {H:Type} {enc:TypeId × Value→H} {W:World}
instance:Inhabited Va:=⟨Va.zero⟩
theorem open_val_cells (fuel:Nat) (l:List Value) (x:DataW H × List MemPlace) (hf:DataW.trod enc Tryz.prog W 0 (fun _=>true) true fuel 25 l=some x):∃ a:Va,l=a.cells∧a.num < 18446744073709551616∧a.text.length≤Rows.uptoBulk x.1:=by
 obtain ⟨xs,n,_,hx,hlc,hlen,hg⟩:=DataW.trod_struct val_under hf
 rw [val_cellsOf] at hlc
 have hfs:(Tryz.prog.fieldsOf 25).size=4:=by rw [← Array.length_toList,val_fields];rfl
 rw [hfs] at hlen
 obtain ⟨cS,cI,cF⟩:=val_c1
 have g0:=hg 0 _ (by rw [← Array.getElem?_toList,val_fields];rfl)
 dsimp only at g0
 have g1:=hg 1 _ (by rw [← Array.getElem?_toList,val_fields];rfl)
 dsimp only at g1
 have g2:=hg 2 _ (by rw [← Array.getElem?_toList,val_fields];rfl)
 dsimp only at g2
 have g3:=hg 3 _ (by rw [← Array.getElem?_toList,val_fields];rfl)
 dsimp only at g3
 rw [cS] at g2
 rw [cF] at g1
 rw [cI] at g0 g3
 match l,hlc with
 | [c0,c1,c2,c3],_ =>
   match xs,hlen with
   | [y0,y1,y2,y3],_ =>
     obtain ⟨s0,e0,x0,_⟩:=DataW.trod_int Tryz.underlying3 g0
     obtain ⟨s1,e1,x1,b1⟩:=trod_flt Tryz.underlying23 g1
     have b1:=flt_bound b1
     obtain ⟨s2,e2,x2,_⟩:=DataW.trod_string Tryz.underlying9 g2
     obtain ⟨s3,e3,x3,_⟩:=DataW.trod_int Tryz.underlying3 g3
     simp at e0 e1 e2 e3
     subst e0 x0 e1 x1 e2 x2 e3 x3
     subst hx
     refine ⟨⟨s0,s1,s2.data.toList,s3⟩,by simp [Va.cells],b1,?_⟩
     simp only [List.map_cons,List.map_nil,Rows.uptoBulk,Rows.uptoBulkAll]
     omega
theorem open_vals {v:Value} {d:DataW H} {ps:List MemPlace} {base:Nat} (hv:Value.okWide Tryz.prog W .any base 22 v) (h:DataW.Trod enc Tryz.prog W 0 (fun _=>true) true 22 v d ps) :
   ∃ vs:List Va,LRead 4 Va.cells W v vs∧∀ x∈vs,x.num < 18446744073709551616:=by
 obtain ⟨rs,h1,h2,h3⟩:=open_rows (α:=Va) (B:=fun a d=>a.num < 18446744073709551616∧a.text.length≤Rows.uptoBulk d) Tryz.underlying22 val_cellsOf (by decide) (fun a=>rfl) open_val_cells hv h
 refine ⟨rs,h1,fun x hx=>?_⟩
 obtain ⟨d',⟨a1,a2⟩,hle⟩:=h3 x hx
 exact a1
end
end Go.Proofs.YtgdolcoiihagfaaGreatDoor
