/- Layer 9: Text; Bool, Type, Strict; plain values. Layer 9: a plain value in the place of an object; both; a value's number. Layer 9: both values as plain ones. Layer 9: Less. Layer 9: Loose. Layer 9: Add. Layer 9: a number's number, a text's; types; what the laws say of themselves. Layer 9: awake. Layer 9: what the document says of a right value; the same in plain words. -/
import Derived.Test.YtgdolcoiihagfaaGreatDoorCv4
import Derived.Test.YtgdolcoiihagfaaGreatDoorCvA
import Derived.Test.YtgdolcoiihagfaaGreatDoorHaA
import Derived.Laws.FloatArith
import Derived.Test.YtgdolcoiihagfaaGreatDoorFtE
namespace Go.Proofs.YtgdolcoiihagfaaGreatDoor
open Go Go.RowKit
set_option linter.all false
set_option maxRecDepth 100000
set_option maxHeartbeats 100000000
namespace Cv
open P10
structure HW (w:World) (s:Hs) (G:Nat):Prop where
 at':HpAt w s
 ok:s.d.Ok G
 wf:∀ x∈s.d.xs,∀ v∈x.items,v.wf
 cw:CW w
theorem HW.pur {w w':World} {s:Hs} {G:Nat} (h:HW w s G) (hp:Pur w w'):HW w' s G:=⟨h.at'.pur hp,h.ok,h.wf,h.cw.pur hp⟩
theorem text_any {w:World} {s:Hs} {G:Nat} (v:Va) (h:HW w s G) (hv:v.wf) :
   Calls Tryz.prog 107 #[.pointer (some ⟨s.h,0,none⟩),v.v] w fun e w'=>e=.returned (tv (text TX s.d v))∧Pur w w':=by
 obtain ⟨R,hR⟩:∃ R,text TX s.d v=R:=⟨_,rfl⟩
 have TL:=fun (w1:World) (tb:Nat) (hA:TA w w1 tb s.h (.slice none 0 0) [])=>tell_any (arr:=arrT TX s.d (s.d.xs.length + 1) []) v h.at' hA h.cw hv (fun _ hk w2 h2=>array_any h.at' h.ok h.cw h.wf (s.d.xs.length + 1) [] v.ref _ w2 hk List.nodup_nil (by simp) (by simp) h2)
 rw [show tellV TX s.d (arrT TX s.d (s.d.xs.length + 1) []) v=R from hR] at TL
 obtain ⟨b9,n9,hb⟩:∃ b n,tv R=.tuple #[.string b,.int .i64 n]:=⟨_,_,rfl⟩
 rw [hR]
 rw [hb] at TL ⊢
 obtain ⟨kk,nn,tt,rr⟩:=v
 simp only [Va.v,Va.cells] at TL ⊢
 have A2:TA w ((w.alloc (.cells #[.int .i64 kk,.float .f64 nn,.string ⟨tt.toArray⟩,.int .i64 rr] 25)).alloc (.cells #[.pointer (some ⟨s.h,0,none⟩),.slice none 0 0] 170)) (w.heap.size + 1) s.h (.slice none 0 0) []:=by
   have hs:(w.alloc (.cells #[.int .i64 kk,.float .f64 nn,.string ⟨tt.toArray⟩,.int .i64 rr] 25)).heap.size=w.heap.size + 1:=Array.size_push _
   refine ⟨?_,World.ownsRow_nil _ _ _ _,by simp [Value.ownBlock],by omega,((Pur.refl w).alloc _).alloc _⟩
   rw [← hs]
   exact bk_new _ _
 have T:=TL _ _ A2
 clear TL h hv hR hb A2
 go_enter Tryz.func107,Tryz.ntmps107
 go_wp2_with fail
 refine T.mono ?_
 rintro e w3 ⟨rfl,h3⟩
 obtain ⟨av',h4,-,-⟩:=h3
 have hp:=h4.pur
 clear h4 T
 go_wp2
 refine bodyPost_ret (v:=.tuple #[.string b9,.int .i64 n9]) (by simp [results,Tryz.results107,go_sem]) rfl ⟨rfl,hp⟩
end Cv
namespace Cv
open P10
theorem Pur.cut {w w1 w2:World} (h:Pur w w2) (k:Pur w w1) (hs:w1.heap.size≤w2.heap.size):Pur w w2:=h
end Cv
namespace Cv
open P10
end Cv
namespace Cv
open P10
end Cv
namespace Cv
open P10
end Cv
namespace Cv
open P10
end Cv
open Lx (w16)
namespace Cv
open P10
theorem number_num (hp:Value) (n:Nat) (t:List UInt8) (r:Int) (w:World):Calls Tryz.prog 112 #[hp,(Va.mk 3 n t r).v] w fun e w'=>e=.returned (.tuple #[.float .f64 n,.int .i64 0])∧Pur w w':=by
 simp only [Va.v,Va.cells]
 have P:=(Pur.refl w).alloc (.cells #[.int .i64 3,.float .f64 n,.string ⟨t.toArray⟩,.int .i64 r] 25)
 go_enter Tryz.func112,Tryz.ntmps112
 go_wp2
 refine bodyPost_ret (v:=.tuple #[.float .f64 n,.int .i64 0]) (by simp [results,Tryz.results112,go_sem]) rfl ⟨rfl,P⟩
theorem n7 {w:World} (h:CW w):Calls Tryz.prog 128 #[.string ⟨(wide8 [32,55,32]).toArray⟩] w fun e w'=>e=.returned (.float .f64 4619567317775286272)∧Pur w w' :=
 Nm.number_dec (s:=[55]) (by decide) (by decide +kernel) (by decide +kernel) (Us.dec_int (m:=7) (by decide +kernel) (by decide) (by decide) (by decide +kernel) (by decide +kernel) (by decide +kernel)) h.k.n
theorem tx_small (z:Nat) (h:z < 1000):TX (floatOfInt .f64 (z:Int))=Lib.decDigits z:=by
 have:=Ft.txt_whole (z:Int) (by omega)
 unfold TX
 rw [this]
 unfold Ft.zT
 rw [if_neg (by omega)]
 simp
theorem tx_1:TX 4607182418800017408=[49]:=by
 have h:=tx_small 1 (by decide)
 rw [show floatOfInt .f64 ((1:Nat):Int)=4607182418800017408 by kernel_rfl] at h
 rw [h]
 decide +kernel
end Cv
open Lx (w16)
namespace Cv
open P10
theorem At.hw {w0 w:World} {hh G:Nat} {K:Nat→Prop} {d:Hd} (h:Go.Proofs.YtgdolcoiihagfaaGreatDoor.At w0 hh G K w d) (hc:CW w0) (hwf:∀ x∈d.xs,∀ v∈x.items,v.wf):∃ s:Hs,HW w s G∧s.h=hh∧s.d=d:=by
 obtain ⟨s,h1,h2,h3,h4,h5⟩:=h.ex
 exact ⟨s,⟨h1,by rw [h3];exact h.ok,by rw [h3];exact hwf,hc.pur h.pur⟩,h2,h3⟩
end Cv
namespace Cv
open P10
def rr (v:Va):Bool :=
 if v.kind=0∨v.kind=1 then decide (v.num=0) && (v.text == []) && decide (v.ref=0)
 else if v.kind=2 then (decide (v.num=0) || eqB v.num 4607182418800017408) && (v.text == []) && decide (v.ref=0)
 else if v.kind=3 then (v.text == []) && decide (v.ref=0)
 else if v.kind=4 then decide (v.num=0) && decide (v.ref=0) && ((v.text.length:Int) % 2 == 0)
 else false
end Cv
end Go.Proofs.YtgdolcoiihagfaaGreatDoor
