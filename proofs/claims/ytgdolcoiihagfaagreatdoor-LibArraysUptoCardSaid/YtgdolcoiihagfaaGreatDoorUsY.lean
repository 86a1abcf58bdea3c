/- The library's reading of a decimal number whose digits all fit: it ends, and says one and the same. ParseFloat, where what atof64 says of a text is known. The library's reading of a decimal number whose digits do not all fit, where one more at its last place makes no difference. The library's reading of a decimal number at the edges: nought, too great, too small. The library's reading of a decimal number whose digits do not all fit, where one more at its last place makes a difference: the slow way. -/
import Derived.Test.YtgdolcoiihagfaaGreatDoorFlX
import Derived.Test.YtgdolcoiihagfaaGreatDoorRfX
import Derived.Test.YtgdolcoiihagfaaGreatDoorDcW
import Derived.Test.YtgdolcoiihagfaaGreatDoorShelf
namespace Go.Proofs.YtgdolcoiihagfaaGreatDoor
open Go Go.RowKit
set_option linter.all false
set_option maxRecDepth 100000
set_option maxHeartbeats 100000000
namespace Us
structure FW (Hi Lo T:Nat→Nat) (w:World):Prop where
 f:Rf.F64 w
 de:Dc.DE w
 pt:PT Hi Lo w
 ft:FT T w
 op:w.cell? ⟨8,0,none⟩=some (.bool true)
theorem FT.pur {T:Nat→Nat} {w w':World} (h:FT T w) (hp:Pur w w'):FT T w':=by
 obtain ⟨g,o,c,h1,h2⟩:=h.sl
 exact ⟨g,o,c,cellp h1 hp,fun k hk=>cellp (h2 k hk) hp⟩
theorem FW.pur {Hi Lo T:Nat→Nat} {w w':World} (h:FW Hi Lo T w) (hp:Pur w w'):FW Hi Lo T w':=⟨h.f.pur hp,h.de.pur hp,h.pt.pur hp,h.ft.pur hp,cellp h.op hp⟩
theorem FW.lt {Hi Lo T:Nat→Nat} {w:World} (h:FW Hi Lo T w):17 < w.heap.size:=World.block_lt_of_cell? w _ (h.pt.hi 0 (by decide)).1
def RD (l:List UInt8) (m:Nat) (p:Int) (tr:Bool):Prop :=
 ∀ w,Calls Tryz.prog 222 #[.string ⟨l.toArray⟩] w fun e w'=>e=.returned (.tuple #[.int .u64 (m:Int),.int .i64 p,.bool false,.bool tr,.bool false,.int .i64 (l.length:Int),.bool true])∧w=w'
def AD (Hi Lo T:Nat→Nat) (l:List UInt8) (x:Nat) (b:Bool):Prop :=
 ∀ w,FW Hi Lo T w→Calls Tryz.prog 195 #[.string ⟨l.toArray⟩] w fun e w'=>e=.returned (.tuple #[.float .f64 x,.int .i64 (l.length:Int),errV b])∧Pur w w'
end Us
namespace Us
theorem prefix_any {Hi Lo T:Nat→Nat} {l:List UInt8} {x:Nat} {b:Bool} (hA:AD Hi Lo T l x b) (hl:l.length≤1000000) {w:World} (hW:FW Hi Lo T w) :
   Calls Tryz.prog 145 #[.string ⟨l.toArray⟩,.int .i64 64] w fun e w'=>e=.returned (.tuple #[.float .f64 x,errV b])∧Pur w w':=by
 have A1:=hA w hW
 have P1:Calls Tryz.prog 167 #[.string ⟨l.toArray⟩,.int .i64 64] w fun e w'=>e=.returned (.tuple #[.float .f64 x,.int .i64 (l.length:Int),errV b])∧Pur w w':=by
   clear hA hW
   generalize errV b=ev at *
   go_enter Tryz.func167,Tryz.ntmps167
   go_wp2_with fail
   refine A1.mono ?_
   rintro e w1 ⟨rfl,p1⟩
   go_wp2
   go_ret3
   exact ⟨rfl,p1⟩
 clear hA hW A1
 cases b with
 | false =>
   unfold errV at *
   simp only [if_neg,Bool.false_eq_true,if_false] at *
   go_enter Tryz.func145,Tryz.ntmps145
   go_wp2_with fail
   refine P1.mono ?_
   rintro e w1 ⟨rfl,p1⟩
   go_wp2
   go_ret2
   exact ⟨rfl,p1⟩
 | true =>
   unfold errV at *
   simp only [if_true] at *
   go_enter Tryz.func145,Tryz.ntmps145
   go_wp2_with fail
   refine P1.mono ?_
   rintro e w1 ⟨rfl,p1⟩
   go_wp2
   go_ret2
   exact ⟨rfl,p1⟩
theorem parse_ok {Hi Lo T:Nat→Nat} {l:List UInt8} {x:Nat} (hA:AD Hi Lo T l x false) (hl:l.length≤1000000) {w:World} (hW:FW Hi Lo T w) :
   Calls Tryz.prog 114 #[.string ⟨l.toArray⟩,.int .i64 64] w fun e w'=>e=.returned (.tuple #[.float .f64 x,.nilIface])∧Pur w w':=by
 have I1:=prefix_any hA hl hW
 clear hA hW
 unfold errV at I1
 simp only [Bool.false_eq_true,if_false] at I1
 go_enter Tryz.func114,Tryz.ntmps114
 go_wp2_with fail
 refine I1.mono ?_
 rintro e w1 ⟨rfl,p1⟩
 go_wp2
 go_ret2
 exact ⟨rfl,p1⟩
theorem parse_range {Hi Lo T:Nat→Nat} {l:List UInt8} {x:Nat} (hA:AD Hi Lo T l x true) (hl:l.length≤1000000) {ev:Value} {w:World} (hW:FW Hi Lo T w)
   (hv:w.cell? ⟨7,0,none⟩=some ev) (hev:ev=.nilIface∨∃ te pe,ev=.iface te pe) :
   Calls Tryz.prog 114 #[.string ⟨l.toArray⟩,.int .i64 64] w fun e w'=>(∃ te pe,e=.returned (.tuple #[.float .f64 x,.iface te pe]))∧Pur w w':=by
 have I1:=prefix_any hA hl hW
 clear hA hW
 unfold errV at I1
 simp only [if_true] at I1
 go_enter Tryz.func114,Tryz.ntmps114
 go_wp2_with fail
 refine I1.mono ?_
 rintro e w1 ⟨rfl,p1⟩
 have hv1:=cellp hv p1
 go_wp2_with fail
 refine (Tryz.strconv_toError_range _ _ _ _ ev _ ?_ hv1 hev).mono ?_
 · show l.length≤_
   omega
 rintro e w2 ⟨N0,rfl,h1,h2,h3⟩
 go_wp2
 go_ret2
 exact ⟨⟨_,_,rfl⟩,Pur.trans p1 h3⟩
end Us
namespace Us
end Us
namespace Us
end Us
namespace Us
theorem zero_cells:Tryz.zeroCells225=Dc.cel false Dc.zero:=by kernel_rfl
end Us
end Go.Proofs.YtgdolcoiihagfaaGreatDoor
