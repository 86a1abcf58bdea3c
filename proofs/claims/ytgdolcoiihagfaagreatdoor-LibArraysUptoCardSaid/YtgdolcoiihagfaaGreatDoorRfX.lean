/- The library's rounding of a number written by sixteens. ParseFloat at a number written by sixteens (small and whole). -/
import Derived.Test.YtgdolcoiihagfaaGreatDoorRf1
import Derived.Test.YtgdolcoiihagfaaGreatDoorTbE
import Derived.Laws.ShiftsVarLaws
import Derived.LaidEqlPtr
import Derived.Test.YtgdolcoiihagfaaGreatDoorRf2
namespace Go.Proofs.YtgdolcoiihagfaaGreatDoor
open Go Go.RowKit
set_option linter.all false
set_option maxRecDepth 100000
set_option maxHeartbeats 100000000
namespace Rf
def up:Nat→Nat→Int→Nat × Int
 | 0,m,e=>(m,e)
 | f + 1,m,e=>if m≠0∧m / 18014398509481984=0 then up f (m * 2) (e - 1) else (m,e)
def dn:Nat→Nat→Int→Nat × Int
 | 0,m,e=>(m,e)
 | f + 1,m,e=>if m / 36028797018963968≠0 then dn f (m / 2 ||| m % 2) (e + 1) else (m,e)
theorem up_bd:∀ (f m:Nat) (e:Int),e - f≤(up f m e).2∧(up f m e).2≤e
 | 0,m,e=>by simp [up]
 | f + 1,m,e=>by
   rw [up]
   split
   · have:=up_bd f (m * 2) (e - 1);omega
   · simp only;omega
def bigN:Nat:=36028797018963968
structure F64 (w:World):Prop where
 c0:w.cell? ⟨13,0,none⟩=some (.int .u64 52)
 c1:w.cell? ⟨13,1,none⟩=some (.int .u64 11)
 c2:w.cell? ⟨13,2,none⟩=some (.int .i64 (-1023))
 g64:∃ cs t,w.heap[13]?=some (.cells cs t (0,0))
 g32:∃ cs t,w.heap[12]?=some (.cells cs t (0,0))
theorem F64.pur {w w':World} (h:F64 w) (hp:Pur w w'):F64 w':=by
 have k:∀ {a:Addr} {v:Value},w.cell? a=some v→w'.cell? a=some v:=fun h=>(hp.cell (World.block_lt_of_cell? w _ h)).trans h
 obtain ⟨a,b,h1⟩:=h.g64
 obtain ⟨c,d,h2⟩:=h.g32
 exact ⟨k h.c0,k h.c1,k h.c2,⟨a,b,bk_pur h1 hp⟩,⟨c,d,bk_pur h2 hp⟩⟩
theorem fi_info:(Tryz.prog.info? 250).map (·.size)=some 3:=by kernel_rfl
end Rf
namespace Rf
theorem special_no (l:List UInt8) (w:World) (h0:0 < l.length) (h1:by8 l 0≠43) (h2:by8 l 0≠45) (h3:by8 l 0≠105) (h4:by8 l 0≠73) (h5:by8 l 0≠110) (h6:by8 l 0≠78) :
   Calls Tryz.prog 221 #[.string ⟨l.toArray⟩] w fun e w'=>e=.returned (.tuple #[.float .f64 0,.int .i64 0,.bool false])∧w=w':=by
 have h0':(0:Int) < l.length:=by omega
 have hne:¬ l=[]:=by intro e;rw [e] at h0;simp at h0
 have d1:((by8 l 0:Int) == 43)=false:=by rw [beq_eq_false_iff_ne];omega
 have d2:((by8 l 0:Int) == 45)=false:=by rw [beq_eq_false_iff_ne];omega
 have d3:((by8 l 0:Int) == 105)=false:=by rw [beq_eq_false_iff_ne];omega
 have d4:((by8 l 0:Int) == 73)=false:=by rw [beq_eq_false_iff_ne];omega
 have d5:((by8 l 0:Int) == 110)=false:=by rw [beq_eq_false_iff_ne];omega
 have d6:((by8 l 0:Int) == 78)=false:=by rw [beq_eq_false_iff_ne];omega
 clear h1 h2 h3 h4 h5 h6
 go_enter Tryz.func221,Tryz.ntmps221
 go_wp2
 go_ret3
 exact ⟨rfl,rfl⟩
def RF (l:List UInt8) (m:Nat) (p:Int):Prop :=
 ∀ w,Calls Tryz.prog 222 #[.string ⟨l.toArray⟩] w fun e w'=>e=.returned (.tuple #[.int .u64 (m:Int),.int .i64 p,.bool false,.bool false,.bool true,.int .i64 (l.length:Int),.bool true])∧w=w'
structure Small (m:Nat) (p:Int):Prop where
 sm:m < 18446744073709551616
 q0:0≤p
 q1:p≤900
 u4:(up 64 m (p + 52)).1 % 4=0
 u5:18014398509481984≤(up 64 m (p + 52)).1
 u6:(up 64 m (p + 52)).1 < 36028797018963968
end Rf
end Go.Proofs.YtgdolcoiihagfaaGreatDoor
