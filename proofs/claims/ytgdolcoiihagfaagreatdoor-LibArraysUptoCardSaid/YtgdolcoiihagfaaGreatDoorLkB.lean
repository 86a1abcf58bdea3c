/- strings.Builder at this dump: copyCheck, WriteString; a builder beside a block that turns. -/
import Derived.Test.YtgdolcoiihagfaaGreatDoorShelf
import Derived.Test.YtgdolcoiihagfaaGreatDoorHuX
import Derived.Test.YtgdolcoiihagfaaGreatDoorTbE
import Derived.Lib.Builder
import Derived.Lib.AppendStr
import Derived.Lib.UnsafeStr
import Derived.Laws.Externs
namespace Go.Proofs.YtgdolcoiihagfaaGreatDoor
open Go Go.RowKit
set_option linter.all false
set_option maxRecDepth 100000
set_option maxHeartbeats 100000000
theorem bld_size:∃ j,Tryz.prog.info? 90=some j∧j.size=2:=by
 have h:(Tryz.prog.info? 90).map (·.size)=some 2:=by kernel_rfl
 exact Option.map_eq_some_iff.1 h
theorem bld_lies:liesAt Tryz.prog Tryz.prog.depth 90 (2 / Tryz.prog.cellsOf 90) 0 90 1=true:=by kernel_rfl
theorem byte_info:(Tryz.prog.info? 5).map (fun i=>(i.zero,i.size,i.bytes))=some (some (.int .u8 0),1,1):=by kernel_rfl
theorem copyCheck_used (b:Nat) (w:World) (h0:w.cell? ⟨b,0,none⟩=some (.pointer (some ⟨b,0,none⟩))) :
   Calls Tryz.prog 150 #[.pointer (some ⟨b,0,none⟩)] w fun e w'=>e=.returned (.tuple #[])∧w'=w:=by
 obtain ⟨j,hj,_⟩:=bld_size
 go_enter Tryz.func150,Tryz.ntmps150
 go_wp2
 rw [Lib.run_neq_ptr_same w _ Tryz.underlying88 hj]
 go_wp2
 go_end0
 exact ⟨rfl,rfl⟩
theorem copyCheck_fresh (b:Nat) (w:World) (h0:w.cell? ⟨b,0,none⟩=some (.pointer none)) (hsh:w.shape? b=some (90,2)) (hfz:w.frozen? ⟨b,0,none⟩=false) :
   Calls Tryz.prog 150 #[.pointer (some ⟨b,0,none⟩)] w fun e w'=>e=.returned (.tuple #[])∧w'=w.setCell ⟨b,0,none⟩ (.pointer (some ⟨b,0,none⟩)):=by
 obtain ⟨j,hj,hjs⟩:=bld_size
 go_enter Tryz.func150,Tryz.ntmps150
 go_wp2
 rw [Lib.run_to_unsafe w ⟨b,0,none⟩ Tryz.underlying88 Tryz.underlying190 hj (by rw [hjs];decide) hsh (Nat.zero_lt_succ 1)]
 simp only [Result.andThen]
 rw [Oper.upon_value]
 go_wp2
 rw [run_callFunc_extern Tryz.func176 (by kernel_rfl) (by kernel_rfl) (by kernel_rfl) (e:=Extern.AbiNoEscape.same) (by kernel_rfl)]
 rw [Lib.run_noEscape]
 simp only [Result.andThen]
 rw [Oper.upon_value]
 go_wp2
 rw [Lib.run_from_unsafe w ⟨b,0,none⟩ Tryz.underlying190 Tryz.underlying88 hj hsh bld_lies]
 simp only [Result.andThen]
 rw [Oper.upon_value]
 go_wp2
 go_end0
 exact ⟨rfl,rfl⟩
theorem byteCells_length (l:List UInt8):(Lib.byteCells l).length=l.length:=by simp [Lib.byteCells]
theorem byteCells_append (a b:List UInt8):Lib.byteCells a ++ Lib.byteCells b=Lib.byteCells (a ++ b):=by simp [Lib.byteCells]
theorem bldAt_chg {T e:TypeId} {B b p:Nat} {q:Value} {bs:List Value} {w w':World} (h:Lib.BuilderAt T e B b q bs w) (hc:Chg [p] w w') (hp:p < B):Lib.BuilderAt T e B b q bs w':=by
 have hlt:=h.lt
 obtain ⟨hB,v,hb,hown,hne⟩:=h
 exact ⟨hB,v,bk_chg hb hc (by simp;omega),row_chg hown hc (fun g hg hm=>by simp at hm;subst hm;have:=(hown.lt _ hg).1;omega),hne⟩
theorem bld_chg {T e:TypeId} {B b p:Nat} {bs:List Value} {w w':World} (h:Lib.IsBuilder T e B b bs w) (hc:Chg [p] w w') (hp:p < B):Lib.IsBuilder T e B b bs w' :=
 h.imp (fun h=>bldAt_chg h hc hp) (fun h=>bldAt_chg h hc hp)
theorem Chg.below {S:List Nat} {w w1 w2:World} {B:Nat} (h:Chg S w w1) (k:Below B w1 w2) (hB:w.heap.size≤B) (hs:w1.heap.size≤w2.heap.size):Chg S w w2 :=
 ⟨k.os.trans h.os,k.tape.trans h.tape,k.output.trans h.output,Nat.le_trans h.size hs,fun i hi hn=>(k.block i (by omega)).trans (h.block i hi hn)⟩
end Go.Proofs.YtgdolcoiihagfaaGreatDoor
