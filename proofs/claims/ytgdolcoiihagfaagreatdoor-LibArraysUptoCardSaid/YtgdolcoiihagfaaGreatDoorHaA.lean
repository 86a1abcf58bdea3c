/- Layer 8: the heap's state, as plain data and as it lies in memory. Layer 8: (*Heap).at: the object of a number. Layer 8: (*Heap).add. Layer 8: (*Heap).add: the walk. Layer 8: what a heap's calls do, as plain functions. Layer 8: (*Heap).Plain. Layer 8: slices.Clone of values. Layer 8: values stored in cells; the document's Same, at one value twice. Layer 8: (*Heap).right, at an object or a builtin. Layer 8: (*Heap).right. Layer 8: (*Heap).Array. Layer 8: (*Heap).Own. Layer 8: (*Heap).Own: no object; a property. Layer 8: (*Heap).Own: an array's item, or its property. Layer 8: (*Heap).Own: an array's item. Layer 8: (*Heap).Own: an array's property. Layer 8: (*Heap).Own, whole. Layer 8: (*Heap).holder, (*Heap).Get. Layer 8: (*Heap).Get. -/
import Derived.Test.YtgdolcoiihagfaaGreatDoorChecked
import Derived.Test.YtgdolcoiihagfaaGreatDoorBase
import Derived.Test.YtgdolcoiihagfaaGreatDoorTbE
import Derived.Test.YtgdolcoiihagfaaGreatDoorHpA
import Derived.Maps.OwnSet
import Derived.Laws.AppendOwn
import Derived.Maps.AppendAt
import Derived.Lib.AppendIntMem
import Derived.Laws.AppendOwnNone
import Derived.OwnWalk
namespace Go.Proofs.YtgdolcoiihagfaaGreatDoor
open Go Go.RowKit
set_option linter.all false
set_option maxRecDepth 100000
set_option maxHeartbeats 100000000
structure Va where
 kind:Int
 num:Nat
 text:List UInt8
 ref:Int
def Va.cells (x:Va):List Value:=[.int .i64 x.kind,.float .f64 x.num,.string ⟨x.text.toArray⟩,.int .i64 x.ref]
def Va.v (x:Va):Value:=.agg x.cells.toArray
def Va.zero:Va:=⟨0,0,[],0⟩
def vaOf:Value→Option Va
 | .agg cs=>match cs.toList with
   | [.int .i64 k,.float .f64 n,.string t,.int .i64 r]=>some ⟨k,n,t.data.toList,r⟩
   | _=>none
 | _=>none
theorem vaOf_v (x:Va):vaOf x.v=some x:=by simp [vaOf,Va.v,Va.cells]
theorem vaOf_inv {v:Value} {x:Va} (h:vaOf v=some x):v=x.v:=by
 unfold vaOf at h
 split at h
 · next cs =>
   split at h
   · next k n t r e =>
     cases h
     have:cs=#[.int .i64 k,.float .f64 n,.string t,.int .i64 r]:=by
       apply Array.toList_inj.1
       rw [e]
     rw [this]
     simp [Va.v,Va.cells]
   · cases h
 · cases h
def RV (v:Value):Option (DataW Va × List MemPlace):=(vaOf v).map fun x=>(.held x,[])
theorem RV_v (x:Va):RV x.v=some (.held x,[]):=by simp [RV,vaOf_v]
theorem RV_inv {v:Value} {x:Va} {ps:List MemPlace} (h:RV v=some (.held x,ps)):v=x.v:=by
 unfold RV at h
 obtain ⟨y,hy,e⟩:=Option.map_eq_some_iff.1 h
 cases e
 exact vaOf_inv hy
structure Ob where
 kind:Int
 proto:Int
 a:Int
 b:Int
 scope:Int
 keys:List (List UInt8)
 props:List UInt8→Option Va
 items:List Va
def MapAt (w:World) (m n:Nat) (f:List UInt8→Option Va):Prop :=
 ∃ D,w.ownsMap Tryz.prog 9 RV m n D∧∀ k,Maps.has D (.string k)=(f k).isSome∧∀ z,D.atKey (.string k) z=((f k).map DataW.held).getD z
def upd (f:List UInt8→Option Va) (k:List UInt8) (x:Option Va):List UInt8→Option Va:=fun k'=>if k'=k then x else f k'
theorem World.ownsMap_same {H:Type} {P:Program} {k:TypeId} {R:Value→Option (DataW H × List MemPlace)} {w w':World} {b n:Nat} {D:DataW H} (h:w.ownsMap P k R b n D) (e:w'.heap[b]?=w.heap[b]?):w'.ownsMap P k R b n D:=by
 obtain ⟨es,clock,hb,F,hs,hD⟩:=h
 exact ⟨es,clock,e.trans hb,F,hs,hD⟩
theorem World.ownsMap_tight {H:Type} {P:Program} {k:TypeId} {R:Value→Option (DataW H × List MemPlace)} {w:World} {b n:Nat} {D:DataW H} (h:w.ownsMap P k R b n D):w.ownsMap P k R b (Maps.size D) D:=by
 obtain ⟨es,clock,hb,F,hs,rfl⟩:=h
 exact ⟨es,clock,hb,F,by simp [Maps.size,length_sorted],rfl⟩
theorem World.ownsRow_same {w w':World} {base:Nat} {e:TypeId} {size:Nat} {v:Value} {n:Nat} {xs:List Value} (h:w.ownsRow base e size v n xs) (hb:∀ g,v.ownBlock=some g→w'.heap[g]?=w.heap[g]?):w'.ownsRow base e size v n xs:=by
 refine ⟨h.1,?_⟩
 rcases h.2 with h2 | ⟨g,cap,cur,rfl,h1,h2,h3⟩
 · exact .inl h2
 · exact .inr ⟨g,cap,cur,rfl,h1,(hb g rfl).trans h2,h3⟩
theorem key_lit {k:List UInt8} (h:k.length≤maxLen):Go.keyOf Tryz.prog 9 (.string ⟨k.toArray⟩)=some (.string k) :=
 Go.WideMaps.keyOf_string_mk Tryz.underlying9 (by show k.toArray.size≤maxLen;simpa using h)
structure Pl where
 o:Nat
 m:Nat
 kv:Value
 iv:Value
def Pl.blocks (p:Pl):List Nat:=p.o :: p.m :: (p.kv.ownBlock.toList ++ p.iv.ownBlock.toList)
def keyVs (ks:List (List UInt8)):List Value:=ks.map fun k=>.string ⟨k.toArray⟩
structure ObIn (w:World) (p:Pl) (x:Ob):Prop where
 own:w.heap[p.o]?=some (.cells #[.int .i64 x.kind,.int .i64 x.proto,.int .i64 x.a,.int .i64 x.b,.int .i64 x.scope,p.kv,.map (some p.m),p.iv] 67 (0,0))
 keys:w.ownsRow 0 9 1 p.kv x.keys.length (keyVs x.keys)
 props:MapAt w p.m x.keys.length x.props
 items:w.ownsRow 0 25 4 p.iv x.items.length (x.items.flatMap Va.cells)
structure Hs where
 h:Nat
 ov:Value
 ps:List Pl
 left:Int
 xs:List Ob
def Hs.blocks (s:Hs):List Nat:=s.h :: (s.ov.ownBlock.toList ++ s.ps.flatMap Pl.blocks)
def ptrs (ps:List Pl):List Value:=ps.map fun p=>.pointer (some ⟨p.o,0,none⟩)
structure HpAt (w:World) (s:Hs):Prop where
 own:w.heap[s.h]?=some (.cells #[s.ov,.int .i64 s.left] 60 (0,0))
 row:w.ownsRow 0 61 1 s.ov s.ps.length (ptrs s.ps)
 len:s.xs.length=s.ps.length
 each:∀ (i:Nat) (p:Pl) (x:Ob),s.ps[i]?=some p→s.xs[i]?=some x→ObIn w p x
 apart:s.blocks.Nodup
structure Step (w:World) (s:Hs) (w':World) (s':Hs):Prop where
 chg:Chg s.blocks w w'
 h:s'.h=s.h
 new:∀ b∈s'.blocks,b∈s.blocks∨w.heap.size≤b
theorem Step.refl (w:World) (s:Hs):Step w s w s:=⟨⟨rfl,rfl,rfl,Nat.le_refl _,fun _ _ _=>rfl⟩,rfl,fun _ h=>.inl h⟩
theorem Step.trans {w w1 w2:World} {s s1 s2:Hs} (h:Step w s w1 s1) (k:Step w1 s1 w2 s2):Step w s w2 s2 :=
 ⟨⟨k.chg.os.trans h.chg.os,k.chg.tape.trans h.chg.tape,k.chg.output.trans h.chg.output,Nat.le_trans h.chg.size k.chg.size,fun i hi hn =>
   (k.chg.block i (Nat.lt_of_lt_of_le hi h.chg.size) (fun hm=>(h.new i hm).elim hn (fun hm=>by omega))).trans (h.chg.block i hi hn)⟩,
   k.h.trans h.h,fun b hb=>(k.new b hb).elim (h.new b) (fun hm=>.inr (Nat.le_trans h.chg.size hm))⟩
theorem MapAt.same {w w':World} {m n:Nat} {f:List UInt8→Option Va} (h:MapAt w m n f) (e:w'.heap[m]?=w.heap[m]?):MapAt w' m n f:=by
 obtain ⟨D,h1,h2⟩:=h
 exact ⟨D,World.ownsMap_same h1 e,h2⟩
theorem MapAt.lt {w:World} {m n:Nat} {f:List UInt8→Option Va} (h:MapAt w m n f):m < w.heap.size:=by
 obtain ⟨D,h1,h2⟩:=h
 exact h1.lt
theorem ObIn.same {w w':World} {p:Pl} {x:Ob} (h:ObIn w p x) (e:∀ b∈p.blocks,w'.heap[b]?=w.heap[b]?):ObIn w' p x :=
 ⟨(e p.o (by simp [Pl.blocks])).trans h.own,World.ownsRow_same h.keys (fun g hg=>e g (by simp [Pl.blocks,hg])),h.props.same (e p.m (by simp [Pl.blocks])),World.ownsRow_same h.items (fun g hg=>e g (by simp [Pl.blocks,hg]))⟩
theorem mem_blocks {s:Hs} {p:Pl} (hp:p∈s.ps) {b:Nat} (hb:b∈p.blocks):b∈s.blocks:=by
 unfold Hs.blocks
 exact List.mem_cons_of_mem _ (List.mem_append_right _ (List.mem_flatMap.2 ⟨p,hp,hb⟩))
theorem HpAt.same {w w':World} {s:Hs} (h:HpAt w s) (e:∀ b∈s.blocks,w'.heap[b]?=w.heap[b]?):HpAt w' s :=
 ⟨(e s.h (by simp [Hs.blocks])).trans h.own,World.ownsRow_same h.row (fun g hg=>e g (by simp [Hs.blocks,hg])),h.len,
   fun i p x hp hx=>(h.each i p x hp hx).same (fun b hb=>e b (mem_blocks (List.mem_of_getElem? hp) hb)),h.apart⟩
theorem ObIn.lt {w:World} {p:Pl} {x:Ob} (h:ObIn w p x):∀ b∈p.blocks,b < w.heap.size:=by
 intro b hb
 unfold Pl.blocks at hb
 rcases List.mem_cons.1 hb with rfl | hb
 · exact (Array.getElem?_eq_some_iff.1 h.own).1
 rcases List.mem_cons.1 hb with rfl | hb
 · exact h.props.lt
 rcases List.mem_append.1 hb with hb | hb
 · exact (h.keys.lt b (by simpa using hb)).2
 · exact (h.items.lt b (by simpa using hb)).2
theorem HpAt.lt {w:World} {s:Hs} (h:HpAt w s):∀ b∈s.blocks,b < w.heap.size:=by
 intro b hb
 unfold Hs.blocks at hb
 rcases List.mem_cons.1 hb with rfl | hb
 · exact (Array.getElem?_eq_some_iff.1 h.own).1
 rcases List.mem_append.1 hb with hb | hb
 · exact (h.row.lt b (by simpa using hb)).2
 · obtain ⟨p,hp,hb⟩:=List.mem_flatMap.1 hb
   obtain ⟨i,hi⟩:=List.mem_iff_getElem?.1 hp
   have hl:=(List.getElem?_eq_some_iff.1 hi).1
   have hl':i < s.xs.length:=by rw [h.len];exact hl
   exact (h.each i p _ hi (List.getElem?_eq_getElem hl')).lt b hb
theorem HpAt.pur {w w':World} {s:Hs} (h:HpAt w s) (hp:Pur w w'):HpAt w' s:=h.same fun b hb=>hp.block b (h.lt b hb)
theorem HpAt.kept {w w':World} {s:Hs} {S:List Nat} (h:HpAt w s) (hc:Chg S w w') (hd:∀ b∈s.blocks,b ∉ S):HpAt w' s:=h.same fun b hb=>hc.block b (h.lt b hb) (hd b hb)
def Hs.at (s:Hs) (i:Int):Option Addr:=if i < 0∨(s.ps.length:Int)≤i then none else (s.ps[i.toNat]?).map fun p=>⟨p.o,0,none⟩
theorem HpAt.cell0 {w:World} {s:Hs} (h:HpAt w s):w.cell? ⟨s.h,0,none⟩=some s.ov:=by
 rw [cell_of_row w _ 0 _ _ _ h.own];rfl
theorem HpAt.cell1 {w:World} {s:Hs} (h:HpAt w s):w.cell? ⟨s.h,1,none⟩=some (.int .i64 s.left):=by
 rw [cell_of_row w _ 1 _ _ _ h.own];rfl
theorem HpAt.rows {w:World} {s:Hs} (h:HpAt w s):∃ a c,s.ov=.slice a s.ps.length c∧∀ (i:Nat) (p:Pl),s.ps[i]?=some p→∃ g,a=some ⟨g,0,none⟩∧w.cell? ⟨g,i,none⟩=some (.pointer (some ⟨p.o,0,none⟩)):=by
 have hr:=h.row
 rcases hr.2 with ⟨e,h0⟩ | ⟨g,cap,cur,e,_⟩
 · rw [h0]
   exact ⟨none,0,e,fun i p hp=>by rw [List.length_eq_zero_iff.1 h0] at hp;simp at hp⟩
 · refine ⟨some ⟨g,0,none⟩,cap,e,fun i p hp=>⟨g,rfl,?_⟩⟩
   have:=hr.cells (g:=g) (by rw [e];rfl) i (.pointer (some ⟨p.o,0,none⟩)) (by simp [ptrs,hp])
   rw [← this]
   unfold Addr.add
   split <;> simp_all
theorem HpAt.short {w:World} {s:Hs} (h:HpAt w s):(s.ps.length:Int)≤9223372036854775807:=by
 rcases h.row.2 with ⟨e,h0⟩ | ⟨g,cap,cur,e,_,_,h1,h2,_⟩
 · omega
 · simp only [maxLen] at h2
   omega
theorem at_any (s:Hs) (i:Int) (w:World) (h:HpAt w s):Calls Tryz.prog 28 #[.pointer (some ⟨s.h,0,none⟩),.int .i64 i] w fun e w'=>e=.returned (.pointer (s.at i))∧w=w':=by
 have c0:=h.cell0
 obtain ⟨a,c,hov,hrow⟩:=h.rows
 rw [hov] at c0
 have hst:=h.short
 clear hov h
 unfold Hs.at
 by_cases h1:i < 0
 · rw [if_pos (Or.inl h1)]
   go_enter Tryz.func28,Tryz.ntmps28
   go_wp2
   go_ret
   exact ⟨rfl,rfl⟩
 by_cases h2:(s.ps.length:Int)≤i
 · rw [if_pos (Or.inr h2)]
   go_enter Tryz.func28,Tryz.ntmps28
   go_wp2
   go_ret
   exact ⟨rfl,rfl⟩
 rw [if_neg (by omega)]
 have h3:i.toNat < s.ps.length:=by omega
 obtain ⟨p,hp⟩:∃ p,s.ps[i.toNat]?=some p:=⟨_,List.getElem?_eq_getElem h3⟩
 obtain ⟨g,rfl,hc⟩:=hrow i.toNat p hp
 rw [hp]
 have h4:0≤i:=by omega
 have h5:i < (s.ps.length:Int):=by omega
 go_enter Tryz.func28,Tryz.ntmps28
 go_wp2
 go_ret
 exact ⟨rfl,rfl⟩
theorem nodup_push {h:Nat} {L L' M K:List Nat} (hn:(h :: (L ++ M)).Nodup) (hk:K.Nodup) (hd:∀ b∈K,b ∉ h :: (L ++ M)) (hl:L'=L∨∃ c,L'=[c]∧c ∉ h :: (L ++ M)∧c ∉ K):(h :: (L' ++ (M ++ K))).Nodup:=by
 rw [List.nodup_cons,List.nodup_append] at hn
 obtain ⟨n1,n2,n3,n4⟩:=hn
 have d1:∀ b∈K,b≠h∧b ∉ L∧b ∉ M:=fun b hb=>by
   have:=hd b hb
   simp only [List.mem_cons,List.mem_append,not_or] at this
   exact ⟨this.1,this.2.1,this.2.2⟩
 simp only [List.mem_append,not_or] at n1
 rcases hl with rfl | ⟨c,rfl,hc,hcK⟩
 · rw [List.nodup_cons,List.nodup_append,List.nodup_append]
   refine ⟨?_,n2,⟨n3,hk,fun a ha b hb e=>(d1 b hb).2.2 (e ▸ ha)⟩,fun a ha b hb e=>?_⟩
   · simp only [List.mem_append,not_or]
     exact ⟨n1.1,n1.2,fun hm=>(d1 _ hm).1 rfl⟩
   · rcases List.mem_append.1 hb with hb | hb
     · exact n4 a ha b hb e
     · exact (d1 b hb).2.1 (e ▸ ha)
 · simp only [List.mem_cons,List.mem_append,not_or] at hc
   rw [List.nodup_cons,List.nodup_append,List.nodup_append]
   refine ⟨?_,by simp,⟨n3,hk,fun a ha b hb e=>(d1 b hb).2.2 (e ▸ ha)⟩,fun a ha b hb e=>?_⟩
   · simp only [List.mem_append,List.mem_singleton,not_or]
     exact ⟨fun e=>hc.1 e.symm,n1.2,fun hm=>(d1 _ hm).1 rfl⟩
   · obtain rfl:a=c:=by simpa using ha
     subst e
     rcases List.mem_append.1 hb with hb | hb
     · exact hc.2.2 hb
     · exact hcK hb
def Hs.push (s:Hs) (v':Value) (cells:Int) (p:Pl) (x:Ob):Hs:=⟨s.h,v',s.ps ++ [p],s.left - cells,s.xs ++ [x]⟩
theorem HpAt.push {w w':World} {s:Hs} (h:HpAt w s) {v':Value} {cells:Int} {p:Pl} {x:Ob}
   (hkeep:∀ b,b < w.heap.size→b≠s.h→s.ov.ownBlock≠some b→b≠p.o→w'.heap[b]?=w.heap[b]?)
   (hown:w'.heap[s.h]?=some (.cells #[v',.int .i64 (s.left - cells)] 60 (0,0)))
   (hrow:w'.ownsRow 0 61 1 v' (s.ps.length + 1) (ptrs s.ps ++ [.pointer (some ⟨p.o,0,none⟩)]))
   (hv:v'.ownBlock=s.ov.ownBlock∨∃ c,v'.ownBlock=some c∧w.heap.size≤c∧c ∉ p.blocks)
   (hob:ObIn w' p x) (hpn:p.blocks.Nodup) (hpd:∀ b∈p.blocks,b ∉ s.blocks):HpAt w' (s.push v' cells p x):=by
 have hap:=h.apart
 unfold Hs.blocks at hap
 refine ⟨hown,?_,?_,?_,?_⟩
 · have e1:(s.push v' cells p x).ps.length=s.ps.length + 1:=by simp [Hs.push]
   have e2:ptrs (s.push v' cells p x).ps=ptrs s.ps ++ [.pointer (some ⟨p.o,0,none⟩)]:=by simp [Hs.push,ptrs]
   rw [e1,e2]
   exact hrow
 · simp [Hs.push,h.len]
 · intro i q y hq hy
   simp only [Hs.push] at hq hy
   by_cases hi:i < s.ps.length
   · rw [List.getElem?_append_left hi] at hq
     rw [List.getElem?_append_left (by rw [h.len];exact hi)] at hy
     have hin:=h.each i q y hq hy
     refine hin.same fun b hb=>?_
     have hbs:=mem_blocks (List.mem_of_getElem? hq) hb
     have hbm:b∈s.ps.flatMap Pl.blocks:=List.mem_flatMap.2 ⟨q,List.mem_of_getElem? hq,hb⟩
     rw [List.nodup_cons,List.nodup_append] at hap
     refine hkeep b (hin.lt b hb) (fun e=>hap.1 (by rw [← e];exact List.mem_append_right _ hbm)) (fun e=>?_) (fun e=>hpd p.o (by simp [Pl.blocks]) (e ▸ hbs))
     exact hap.2.2.2 b (by rw [e];simp) b hbm rfl
   · have hi':i=s.ps.length:=by
       have:=(List.getElem?_eq_some_iff.1 hq).1
       simp at this
       omega
     subst hi'
     rw [List.getElem?_append_right (Nat.le_refl _)] at hq
     rw [List.getElem?_append_right (by rw [h.len];exact Nat.le_refl _),h.len] at hy
     simp at hq hy
     subst hq hy
     exact hob
 · unfold Hs.blocks
   simp only [Hs.push,List.flatMap_append,List.flatMap_cons,List.flatMap_nil,List.append_nil]
   refine nodup_push hap hpn hpd ?_
   rcases hv with e | ⟨c,e,hc,hcp⟩
   · exact .inl (by rw [e])
   · refine .inr ⟨c,by rw [e];rfl,fun hm=>?_,hcp⟩
     have:=h.lt c hm
     omega
theorem ptr_info:(Tryz.prog.info? 61).map (fun i=>(i.zero.map (·.cells.size),i.size,i.bytes))=some (some 1,1,8):=by kernel_rfl
@[go_sem] theorem run_mk {P:Program} (t:TypeId) (w:World):(Instr.makeMap t none).run P w=.ok (.map (some w.heap.size)) (w.alloc (.map #[] 0)):=run_makeMap t w
theorem add_any (s:Hs) (o:Nat) (x:Ob) (kv iv mv:Value) (c:Int) (w:World) (h:HpAt w s)
   (ho:w.heap[o]?=some (.cells #[.int .i64 x.kind,.int .i64 x.proto,.int .i64 x.a,.int .i64 x.b,.int .i64 x.scope,kv,mv,iv] 67 (0,0)))
   (hos:o ∉ s.blocks) (hk:x.keys=[]) (hkv:kv=.slice none 0 0) (hpp:x.props=fun _=>none)
   (hiv:w.ownsRow 0 25 4 iv x.items.length (x.items.flatMap Va.cells)) (hiv1:iv.ownBlock≠some o) (hiv2:∀ b,iv.ownBlock=some b→b ∉ s.blocks) (hc:0≤c) (hl:0≤s.left) (hl2:s.left≤10000) (hn:s.ps.length≤1000000) :
   Calls Tryz.prog 29 #[.pointer (some ⟨s.h,0,none⟩),.pointer (some ⟨o,0,none⟩),.int .i64 c] w fun e w'=>(s.left < c∧e=.returned (.tuple #[.int .i64 0,.int .i64 112])∧w=w') ∨
     (c≤s.left∧e=.returned (.tuple #[.int .i64 s.ps.length,.int .i64 0])∧∃ v',HpAt w' (s.push v' c ⟨o,w.heap.size,kv,iv⟩ x)∧Chg (o :: s.blocks) w w'∧(v'.ownBlock=s.ov.ownBlock∨v'.ownBlock=some (w.heap.size + 2))):=by
 have c0:=h.cell0
 have c1:=h.cell1
 obtain ⟨i0,hi,hz⟩:=Option.map_eq_some_iff.1 ptr_info
 simp only [Prod.mk.injEq] at hz
 obtain ⟨hz0,hz1,hz2⟩:=hz
 obtain ⟨z0,hz0,hzs⟩:=Option.map_eq_some_iff.1 hz0
 have hne:o≠s.h:=fun e=>hos (by rw [e];simp [Hs.blocks])
 by_cases hlt:s.left < c
 · clear ho h
   go_enter Tryz.func29,Tryz.ntmps29
   go_wp2
   go_ret2
   exact .inl ⟨hlt,rfl,rfl⟩
 · have f1:=bk_free h.own 1
   have B1h:=bk_set h.own 1 (.int .i64 (s.left - c))
   have B1o:=bk_other ho (a:=⟨s.h,1,none⟩) hne (.int .i64 (s.left - c))
   have B2h:=bk_alloc B1h (.map #[] 0)
   have B2o:=bk_alloc B1o (.map #[] 0)
   have k6:=bk_cell B2o 6 mv rfl
   have f6:=bk_free B2o 6
   have B3h:=bk_other B2h (a:=⟨o,6,none⟩) (Ne.symm hne) (.map (some w.heap.size))
   have B3o:=bk_set B2o 6 (.map (some w.heap.size))
   have k0:=bk_cell B3h 0 s.ov rfl
   have B4h:=bk_alloc B3h (.cells #[.pointer (some ⟨o,0,none⟩)] 61)
   have B4o:=bk_alloc B3o (.cells #[.pointer (some ⟨o,0,none⟩)] 61)
   have hap:=h.apart
   unfold Hs.blocks at hap
   rw [List.nodup_cons] at hap
   have G4:∀ g,g < w.heap.size→g≠s.h→g≠o→((((w.setCell ⟨s.h,1,none⟩ (.int .i64 (s.left - c))).alloc (.map #[] 0)).setCell ⟨o,6,none⟩ (.map (some w.heap.size))).alloc (.cells #[.pointer (some ⟨o,0,none⟩)] 61)).heap[g]?=w.heap[g]?:=fun g hg h1 h2=>by
     have hx:w.heap[g]?=some w.heap[g]:=Array.getElem?_eq_getElem hg
     rw [hx]
     exact bk_alloc (bk_other (bk_alloc (bk_other hx (a:=⟨s.h,1,none⟩) h1 _) _) (a:=⟨o,6,none⟩) h2 _) _
   have H4:some s.h≠s.ov.ownBlock:=fun e=>hap.1 (List.mem_append_left _ (by rw [← e];simp))
   have O4:some o≠s.ov.ownBlock:=fun e=>hos (by unfold Hs.blocks;exact List.mem_cons_of_mem _ (List.mem_append_left _ (by rw [← e];simp)))
   have R4:=World.ownsRow_same h.row (fun g hg=>G4 g (h.row.lt g hg).2 (fun e=>H4 (by rw [hg,e])) (fun e=>O4 (by rw [hg,e])))
   have wr:IntKind.i64.wrap (s.left - c)=s.left - c:=IntWalk.i64_in _ (by omega)
   go_enter Tryz.func29,Tryz.ntmps29
   go_wp2_with (at_builtin;refine wpList_append_own_at _ rfl _ _ 58 rfl 0 61 i0 z0 1 8 Tryz.underlying58 hi hz0 hz1 hz2 hzs (by decide) _ _ _ rfl R4 ⟨_,0,none⟩ 1 1 [.pointer (some ⟨o,0,none⟩)] rfl rfl ?c1 ?c2 ?c3 ?c4 ?c5 ?_)
   case c2=>rfl
   case c3=>unfold maxLen;omega
   case c4=>omega
   intro v5 w5 hown5 hgrow _ hid
   have B5h:=(hgrow.block _ (bk_lt B4h) H4).trans B4h
   have B5o:=(hgrow.block _ (bk_lt B4o) O4).trans B4o
   have f5:=bk_free B5h 0
   have k5:=bk_cell B5h 0 s.ov rfl
   obtain ⟨a5,c5,rfl⟩:=row_shape hown5
   have B6h:=bk_set B5h 0 (.slice a5 (s.ps.length + 1) c5)
   have k6':=bk_cell B6h 0 _ rfl
   have hsz:((((w.setCell ⟨s.h,1,none⟩ (.int .i64 (s.left - c))).alloc (.map #[] 0)).setCell ⟨o,6,none⟩ (.map (some w.heap.size))).alloc (.cells #[.pointer (some ⟨o,0,none⟩)] 61)).heap.size=w.heap.size + 2:=by simp [World.setCell,World.alloc]
   have hown6:=World.ownsRow_same (w':=w5.setCell ⟨s.h,0,none⟩ (.slice a5 (s.ps.length + 1) c5)) hown5 (fun g hg=>by
     have hx:=Array.getElem?_eq_getElem (hown5.lt g hg).2
     rw [hx]
     refine bk_other hx (a:=⟨s.h,0,none⟩) (fun e=>?_) _
     rw [hg] at hid
     rcases hid with e' | e'
     · exact H4 (by rw [← e',e])
     · have:=bk_lt h.own
       simp only [Option.some.injEq] at e'
       simp only at e
       omega)
   have K6:∀ b,b < w.heap.size→b≠s.h→s.ov.ownBlock≠some b→b≠o→(w5.setCell ⟨s.h,0,none⟩ (.slice a5 (s.ps.length + 1) c5)).heap[b]?=w.heap[b]?:=fun b hb h1 h2 h3=>by
     have hx:=Array.getElem?_eq_getElem hb
     rw [hx]
     have e4:=G4 b hb h1 h3
     rw [hx] at e4
     exact bk_other ((hgrow.block b (by rw [hsz];omega) (Ne.symm h2)).trans e4) (a:=⟨s.h,0,none⟩) h1 _
   have B6o:=bk_other B5o (a:=⟨s.h,0,none⟩) hne (.slice a5 (s.ps.length + 1) c5)
   have M2:=bk_new (w.setCell ⟨s.h,1,none⟩ (.int .i64 (s.left - c))) (.map #[] 0)
   have hs1:(w.setCell ⟨s.h,1,none⟩ (.int .i64 (s.left - c))).heap.size=w.heap.size:=by simp [World.setCell]
   rw [hs1] at M2
   have M3:=bk_other M2 (a:=⟨o,6,none⟩) (fun e=>by have:=bk_lt ho;simp only at e;omega) (.map (some w.heap.size))
   have M4:=bk_alloc M3 (.cells #[.pointer (some ⟨o,0,none⟩)] 61)
   have M5:=(hgrow.block _ (bk_lt M4) (fun e=>by have:=(h.row.lt _ e.symm).2;omega)).trans M4
   have M6:=bk_other M5 (a:=⟨s.h,0,none⟩) (fun e=>by have:=bk_lt h.own;simp only at e;omega) (.slice a5 (s.ps.length + 1) c5)
   have hb6:∀ b∈(Pl.mk o w.heap.size kv iv).blocks,b=o∨b=w.heap.size∨iv.ownBlock=some b:=fun b hb=>by
     rw [hkv] at hb
     simpa [Pl.blocks,Value.ownBlock] using hb
   have hres:HpAt (w5.setCell ⟨s.h,0,none⟩ (.slice a5 (s.ps.length + 1) c5)) (s.push (.slice a5 (s.ps.length + 1) c5) c ⟨o,w.heap.size,kv,iv⟩ x):=by
     refine h.push K6 B6h hown6 ?_ ?_ ?_ ?_
     · rcases hid with e | e
       · exact .inl e
       · refine .inr ⟨_,e,by omega,fun hm=>?_⟩
         rcases hb6 _ hm with e | e | e
         · have:=bk_lt ho;omega
         · omega
         · have:=(hiv.lt _ e).2;omega
     · refine ⟨B6o,?_,?_,?_⟩
       · rw [hk,hkv];exact World.ownsRow_nil _ _ _ _
       · rw [hk,hpp]
         refine ⟨.map [],⟨#[],0,M6,⟨by simp,MapKept.stamped_empty 0,by simp⟩,Nat.le_refl _,rfl⟩,fun k=>⟨rfl,fun z=>rfl⟩⟩
       · refine World.ownsRow_same hiv (fun g hg=>?_)
         have h1:=(hiv.lt g hg).2
         refine K6 g h1 (fun e=>hiv2 g hg (by rw [e];simp [Hs.blocks])) (fun e=>hiv2 g hg (by simp [Hs.blocks,e])) (fun e=>hiv1 (by rw [hg,e]))
     · rw [hkv]
       have hlo:=bk_lt ho
       have z:(Value.slice none 0 0).ownBlock=none:=rfl
       rcases he:iv.ownBlock with _ | g
       · simp [Pl.blocks,z,he];omega
       · have:=(hiv.lt g he).2
         have h2:g≠o:=fun e=>hiv1 (by rw [he,e])
         simp [Pl.blocks,z,he]
         omega
     · intro b hb
       rcases hb6 b hb with rfl | rfl | e
       · exact hos
       · intro hm;have:=h.lt _ hm;omega
       · exact hiv2 b e
   have hchg:Chg (o :: s.blocks) w (w5.setCell ⟨s.h,0,none⟩ (.slice a5 (s.ps.length + 1) c5)):=by
     refine ⟨by rw [show (w5.setCell ⟨s.h,0,none⟩ (.slice a5 (s.ps.length + 1) c5)).os=w5.os from rfl,hgrow.os];rfl,by rw [show (w5.setCell ⟨s.h,0,none⟩ (.slice a5 (s.ps.length + 1) c5)).tape=w5.tape from rfl,hgrow.tape];rfl,by rw [show (w5.setCell ⟨s.h,0,none⟩ (.slice a5 (s.ps.length + 1) c5)).output=w5.output from rfl,hgrow.output];rfl,?_,?_⟩
     · have:=hgrow.size
       rw [hsz] at this
       simp only [World.setCell,Array.size_modify]
       omega
     · intro k hk' hn'
       simp only [List.mem_cons,not_or] at hn'
       refine K6 k hk' (fun e=>hn'.2 (by rw [e];simp [Hs.blocks])) (fun e=>hn'.2 (by simp [Hs.blocks,e])) hn'.1
   have hid':(Value.slice a5 (s.ps.length + 1) c5).ownBlock=s.ov.ownBlock∨(Value.slice a5 (s.ps.length + 1) c5).ownBlock=some (w.heap.size + 2):=hid
   have HF:=Lib.hid (And.intro hres (And.intro hchg hid'))
   clear hres hchg hid' hid hown6 K6 B6o M2 M3 M4 M5 M6 hb6 G4 R4 hap B5o hown5 hgrow h ho hiv hiv1 hiv2 hos hk hkv hpp
   go_wp2
   go_ret2
   exact .inr ⟨by omega,by go_num,_,HF.out⟩
structure Hd where
 left:Int
 xs:List Ob
def Hs.d (s:Hs):Hd:=⟨s.left,s.xs⟩
def Hd.obj (d:Hd) (i:Int):Option Ob:=if i < 0 then none else d.xs[i.toNat]?
def Hd.add (d:Hd) (x:Ob) (c:Int):(Int × Int) × Hd:=if d.left < c then ((0,112),d) else (((d.xs.length:Int),0),⟨d.left - c,d.xs ++ [x]⟩)
def Ob.fresh (kind proto a b scope:Int) (items:List Va):Ob:=⟨kind,proto,a,b,scope,[],fun _=>none,items⟩
def Hd.plain (d:Hd) (p:Int):(Int × Int) × Hd:=if p≠-1∧d.obj p=none then ((0,3),d) else d.add (Ob.fresh 1 p 0 0 0 []) 1
def Ob.cost (x:Ob):Nat:=1 + x.keys.length + x.items.length
def Hd.taken (d:Hd):Nat:=(d.xs.map Ob.cost).sum
def Ob.Ok (n:Nat) (x:Ob):Prop:=x.proto < n∧x.keys.Nodup∧∀ k,k∈x.keys↔(x.props k).isSome=true
def Hd.Ok (G:Nat) (d:Hd):Prop:=0≤d.left∧d.left + d.taken=G∧G≤10000∧∀ (i:Nat) x,d.xs[i]?=some x→x.Ok i
theorem sum_ge (xs:List Ob):xs.length≤(xs.map Ob.cost).sum:=by
 induction xs with
 | nil=>simp
 | cons x r ih=>simp only [List.map_cons,List.sum_cons,List.length_cons,Ob.cost] at ih ⊢;omega
theorem sum_mem {xs:List Ob} {x:Ob} (h:x∈xs):x.cost≤(xs.map Ob.cost).sum:=by
 induction xs with
 | nil=>cases h
 | cons y r ih =>
   rw [List.map_cons,List.sum_cons]
   rcases List.mem_cons.1 h with rfl | h
   · omega
   · have:=ih h;omega
theorem Hd.Ok.bounds {G:Nat} {d:Hd} (h:d.Ok G):0≤d.left∧d.left≤10000∧d.xs.length≤10000:=by
 have h1:=sum_ge d.xs
 obtain ⟨h2,h3,h4,-⟩:=h
 unfold Hd.taken at h3
 omega
theorem Hd.Ok.mem {G:Nat} {d:Hd} (h:d.Ok G) {x:Ob} (hx:x∈d.xs):x.keys.length≤10000∧x.items.length≤10000:=by
 have h1:1 + x.keys.length + x.items.length≤(d.xs.map Ob.cost).sum:=sum_mem hx
 obtain ⟨h2,h3,h4,-⟩:=h
 unfold Hd.taken at h3
 omega
theorem Hd.obj_mem {d:Hd} {i:Int} {x:Ob} (h:d.obj i=some x):x∈d.xs∧0≤i∧i < d.xs.length∧d.xs[i.toNat]?=some x:=by
 unfold Hd.obj at h
 split at h
 · cases h
 · have:=(List.getElem?_eq_some_iff.1 h).1
   exact ⟨List.mem_of_getElem? h,by omega,by omega,h⟩
theorem Hd.Ok.add {G:Nat} {d:Hd} (h:d.Ok G) (x:Ob) (c:Int) (hc:c=x.cost) (hx:x.Ok d.xs.length):(d.add x c).2.Ok G:=by
 unfold Hd.add
 split
 · exact h
 · obtain ⟨h2,h3,h4,h5⟩:=h
   refine ⟨by simp only;omega,?_,h4,?_⟩
   · simp only [Hd.taken,List.map_append,List.map_cons,List.map_nil,List.sum_append,List.sum_cons,List.sum_nil] at h3 ⊢
     omega
   · intro i y hy
     simp only at hy
     by_cases hi:i < d.xs.length
     · rw [List.getElem?_append_left hi] at hy
       exact h5 i y hy
     · have hi':i=d.xs.length:=by
         have:=(List.getElem?_eq_some_iff.1 hy).1
         simp at this
         omega
       subst hi'
       rw [List.getElem?_append_right (Nat.le_refl _)] at hy
       simp at hy
       subst hy
       exact hx
theorem Ob.fresh_ok (kind proto a b scope:Int) (items:List Va) (n:Nat) (h:proto < n):(Ob.fresh kind proto a b scope items).Ok n:=⟨h,List.nodup_nil,by simp [Ob.fresh]⟩
theorem Hd.Ok.plain {G:Nat} {d:Hd} (h:d.Ok G) (p:Int):(d.plain p).2.Ok G:=by
 unfold Hd.plain
 split
 · exact h
 · next hp =>
   refine h.add _ _ rfl (Ob.fresh_ok _ _ _ _ _ _ _ ?_)
   by_cases h1:p=-1
   · omega
   · obtain ⟨x,hx⟩:=Option.ne_none_iff_exists'.1 (fun e=>hp ⟨h1,e⟩)
     exact (Hd.obj_mem hx).2.2.1
def lenKey:List UInt8:=[0,108,0,101,0,110,0,103,0,116,0,104]
def Va.right (n:Nat) (x:Va):Bool :=
 if x.kind=0∨x.kind=1 then sameB x.num 0 && (x.text == []) && decide (x.ref=0)
 else if x.kind=2 then (sameB x.num 0 || eqB x.num 4607182418800017408) && (x.text == []) && decide (x.ref=0)
 else if x.kind=3 then (x.text == []) && decide (x.ref=0)
 else if x.kind=4 then sameB x.num 0 && decide (x.ref=0) && ((x.text.length:Int) % 2 == 0)
 else if x.kind=5∨x.kind=6 then sameB x.num 0 && (x.text == []) && decide (0≤x.ref) && (decide (x.kind=6) || decide (x.ref < n))
 else false
def Va.wf (x:Va):Prop:=x.num < 18446744073709551616∧x.text.length≤1000000000
def Ob.own (x:Ob) (key:List UInt8):Va × Bool :=
 if x.kind=2∧key=lenKey then (⟨3,floatOfInt .f64 x.items.length,[],0⟩,true)
 else match (if x.kind=2 then index key else none) with
   | some n=>(x.items[n]?.getD Va.zero,decide (n < x.items.length))
   | none=>((x.props key).getD Va.zero,(x.props key).isSome)
def Hd.own (d:Hd) (i:Int) (key:List UInt8):Va × Bool :=
 match d.obj i with
 | none=>(Va.zero,false)
 | some x=>x.own key
def Hd.holder (d:Hd) (key:List UInt8):Nat→Int→Int
 | 0,_=>-1
 | n + 1,i=>match d.obj i with
   | none=>-1
   | some x=>if (x.own key).2=true then i else d.holder key n x.proto
def Hd.turn (d:Hd) (i:Int) (x:Ob) (left:Int):Hd:=⟨left,d.xs.set i.toNat x⟩
def Ob.resize (x:Ob) (n:Nat):Ob:={ x with items:=if n < x.items.length then x.items.take n else x.items ++ List.replicate (n - x.items.length) Va.zero }
def Hd.resize (d:Hd) (i:Int) (x:Ob) (n:Nat):Int × Hd:=if d.left < (n:Int) - x.items.length then (112,d) else (0,d.turn i (x.resize n) (d.left - ((n:Int) - x.items.length)))
def Ob.item (x:Ob) (n:Nat) (v:Va):Ob:={ x with items:=x.items.set n v }
def Ob.prop (x:Ob) (key:List UInt8) (v:Va):Ob:={ x with keys:=if (x.props key).isSome then x.keys else x.keys ++ [key],props:=upd x.props key (some v) }
def wholeB (x:Nat):Nat:=if nanB x then 0 else FloatKind.f64.encode ((FloatKind.f64.decode x).integral .zero)
def ltB (x y:Nat):Bool:=FloatKind.f64.format.order x y == some Ordering.lt
def gtB (x y:Nat):Bool:=FloatKind.f64.format.order x y == some Ordering.gt
def lenOf (v:Va):Option Nat:=if v.kind=3∧eqB (wholeB v.num) v.num=true∧ltB v.num 0=false∧gtB v.num 4746794007244308480=false then some (((FloatKind.f64.decode v.num).toInt .zero).getD 0).toNat else none
def Hd.put (d:Hd) (i:Int) (key:List UInt8) (v:Va):Int × Hd :=
 match d.obj i with
 | none=>(3,d)
 | some x =>
   if v.right d.xs.length=false then (1,d)
   else if x.kind=2∧key=lenKey then
     match lenOf v with
     | none=>(1,d)
     | some n=>d.resize i x n
   else match (if x.kind=2 then index key else none) with
     | some n =>
       if x.items.length≤n then
         (if d.left < (n:Int) + 1 - x.items.length then (112,d) else (0,d.turn i ((x.resize (n + 1)).item n v) (d.left - ((n:Int) + 1 - x.items.length))))
       else (0,d.turn i (x.item n v) d.left)
     | none =>
       if (x.props key).isSome=true then (0,d.turn i (x.prop key v) d.left)
       else if d.left < 1 then (112,d) else (0,d.turn i (x.prop key v) (d.left - 1))
theorem sum_set {x x':Ob}:∀ (xs:List Ob) (i:Nat),xs[i]?=some x→((xs.set i x').map Ob.cost).sum + x.cost=(xs.map Ob.cost).sum + x'.cost
 | [],i,h=>by simp at h
 | y :: r,0,h=>by
   obtain rfl:y=x:=by simpa using h
   simp only [List.set_cons_zero,List.map_cons,List.sum_cons]
   omega
 | y :: r,i + 1,h=>by
   have:=sum_set (x':=x') r i (by simpa using h)
   simp only [List.set_cons_succ,List.map_cons,List.sum_cons]
   omega
theorem Hd.Ok.turn {G:Nat} {d:Hd} (h:d.Ok G) {i:Int} {x x':Ob} {left:Int} (hx:d.obj i=some x) (hl:0≤left) (hc:left + x'.cost=d.left + x.cost) (hok:x'.Ok i.toNat):(d.turn i x' left).Ok G:=by
 obtain ⟨-,h6,h7,h8⟩:=Hd.obj_mem hx
 obtain ⟨h2,h3,h4,h5⟩:=h
 have:=sum_set (x':=x') d.xs i.toNat h8
 refine ⟨hl,?_,h4,fun j y hy=>?_⟩
 · simp only [Hd.taken,Hd.turn] at h3 ⊢
   omega
 · simp only [Hd.turn] at hy
   by_cases hj:j=i.toNat
   · subst hj
     rw [List.getElem?_set_self (by omega)] at hy
     cases hy
     exact hok
   · rw [List.getElem?_set_ne (fun e=>hj e.symm)] at hy
     exact h5 j y hy
theorem Hd.Ok.at {G:Nat} {d:Hd} (h:d.Ok G) {i:Int} {x:Ob} (hx:d.obj i=some x):x.Ok i.toNat:=h.2.2.2 _ _ (Hd.obj_mem hx).2.2.2
theorem Hd.Ok.resize {G:Nat} {d:Hd} (h:d.Ok G) {i:Int} {x:Ob} (hx:d.obj i=some x) (n:Nat):(d.resize i x n).2.Ok G:=by
 unfold Hd.resize
 split
 · exact h
 · have hk:=h.at hx
   refine h.turn hx (by omega) ?_ hk
   unfold Ob.resize Ob.cost
   split <;> simp <;> omega
theorem Ob.prop_ok {n:Nat} {x:Ob} (h:x.Ok n) (key:List UInt8) (v:Va):(x.prop key v).Ok n:=by
 obtain ⟨h1,h2,h3⟩:=h
 refine ⟨h1,?_,fun k=>?_⟩
 · unfold Ob.prop
   simp only
   split
   · exact h2
   · next hn =>
     have:key ∉ x.keys:=fun hm=>hn ((h3 key).1 hm)
     rw [List.nodup_append]
     exact ⟨h2,by simp,fun a ha b hb e=>this (by simp at hb;rw [← hb,← e];exact ha)⟩
 · unfold Ob.prop upd
   simp only
   by_cases hk:k=key
   · subst hk
     rw [if_pos rfl]
     split
     · next hs=>simp [(h3 k).2 hs]
     · simp
   · rw [if_neg hk]
     split
     · exact h3 k
     · simp [hk,h3 k]
theorem Hd.Ok.put {G:Nat} {d:Hd} (h:d.Ok G) (i:Int) (key:List UInt8) (v:Va):(d.put i key v).2.Ok G:=by
 unfold Hd.put
 split
 · exact h
 · next x hx =>
   have hk:=h.at hx
   have hb:=h.bounds
   split
   · exact h
   · split
     · split
       · exact h
       · exact h.resize hx _
     · split
       · next n _ =>
         split
         · split
           · exact h
           · refine h.turn hx (by omega) ?_ hk
             unfold Ob.item Ob.resize Ob.cost
             simp only [List.length_set]
             split <;> simp <;> omega
         · refine h.turn hx hb.1 ?_ hk
           unfold Ob.item Ob.cost
           simp only [List.length_set]
       · split
         · next hs =>
           refine h.turn hx hb.1 ?_ (Ob.prop_ok hk _ _)
           unfold Ob.prop Ob.cost
           simp only [hs,if_true]
         · next hs =>
           split
           · exact h
           · refine h.turn hx (by omega) ?_ (Ob.prop_ok hk _ _)
             unfold Ob.prop Ob.cost
             simp only [hs]
             simp
             omega
theorem at_none {w:World} {s:Hs} (h:HpAt w s) (i:Int):s.at i=none↔s.d.obj i=none:=by
 unfold Hs.at Hd.obj Hs.d
 by_cases h1:i < 0
 · simp [h1]
 · by_cases h2:(s.ps.length:Int)≤i
   · have:s.xs.length≤i.toNat:=by rw [h.len];omega
     simp [h1,h2,List.getElem?_eq_none this]
   · have h3:i.toNat < s.ps.length:=by omega
     have h4:i.toNat < s.xs.length:=by rw [h.len];exact h3
     simp [h1,h2,List.getElem?_eq_getElem h3,List.getElem?_eq_getElem h4]
theorem Step.pur {w w':World} {s:Hs} (h:Pur w w'):Step w s w' s :=
 ⟨⟨h.os,h.tape,h.output,h.size,fun k hk _=>h.block k hk⟩,rfl,fun _ hb=>.inl hb⟩
theorem add_new (s:Hs) (x:Ob) (kv iv mv:Value) (c:Int) (w w1:World) (o:Nat) (hp:Pur w w1) (hlo:w.heap.size≤o) (h:HpAt w s)
   (ho:w1.heap[o]?=some (.cells #[.int .i64 x.kind,.int .i64 x.proto,.int .i64 x.a,.int .i64 x.b,.int .i64 x.scope,kv,mv,iv] 67 (0,0)))
   (hk:x.keys=[]) (hkv:kv=.slice none 0 0) (hpp:x.props=fun _=>none)
   (hiv:w1.ownsRow w.heap.size 25 4 iv x.items.length (x.items.flatMap Va.cells)) (hiv1:iv.ownBlock≠some o) (hc:0≤c) {G:Nat} (hok:s.d.Ok G) :
   Calls Tryz.prog 29 #[.pointer (some ⟨s.h,0,none⟩),.pointer (some ⟨o,0,none⟩),.int .i64 c] w1 fun e w' =>
     e=.returned (.tuple #[.int .i64 (s.d.add x c).1.1,.int .i64 (s.d.add x c).1.2])∧∃ s',HpAt w' s'∧Step w s w' s'∧s'.d=(s.d.add x c).2:=by
 have hb:=hok.bounds
 have hl:=h.len
 simp only [Hs.d] at hb
 have hos:∀ b,w.heap.size≤b→b ∉ s.blocks:=fun b hb hm=>by have:=h.lt b hm;omega
 have hiv0:w1.ownsRow 0 25 4 iv x.items.length (x.items.flatMap Va.cells):=by
   refine ⟨hiv.1,?_⟩
   rcases hiv.2 with h2 | ⟨g,cap,cur,rfl,h1,h2,h3⟩
   · exact .inl h2
   · exact .inr ⟨g,cap,cur,rfl,Nat.zero_le _,h2,h3⟩
 refine (add_any s o x kv iv mv c w1 (h.pur hp) ho (hos o hlo) hk hkv hpp hiv0 hiv1 (fun b hb=>hos b (hiv.lt b hb).1) hc hb.1 hb.2.1 (by omega)).mono ?_
 rintro e w' (⟨h1,rfl,rfl⟩ | ⟨h1,rfl,v',h2,h3,h4⟩)
 · have e1:s.d.add x c=((0,112),s.d):=by unfold Hd.add;rw [if_pos (by simpa [Hs.d] using h1)]
   rw [e1]
   exact ⟨rfl,s,h.pur hp,Step.pur hp,rfl⟩
 · have e1:s.d.add x c=(((s.xs.length:Int),0),⟨s.left - c,s.xs ++ [x]⟩):=by unfold Hd.add;rw [if_neg (by simp only [Hs.d];omega)];rfl
   rw [e1]
   refine ⟨by rw [hl],_,h2,⟨⟨h3.os.trans hp.os,h3.tape.trans hp.tape,h3.output.trans hp.output,Nat.le_trans hp.size h3.size,fun k hk hn=>?_⟩,rfl,fun b hb=>?_⟩,rfl⟩
   · refine (h3.block k (Nat.lt_of_lt_of_le hk hp.size) ?_).trans (hp.block k hk)
     simp only [List.mem_cons,not_or]
     exact ⟨by omega,hn⟩
   · have hsz:=hp.size
     unfold Hs.blocks at hb
     simp only [Hs.push,List.flatMap_append,List.flatMap_cons,List.flatMap_nil,List.append_nil] at hb
     rcases List.mem_cons.1 hb with rfl | hb
     · exact .inl (by simp [Hs.blocks])
     rcases List.mem_append.1 hb with hb | hb
     · rcases h4 with e | e
       · rw [e] at hb;exact .inl (by unfold Hs.blocks;exact List.mem_cons_of_mem _ (List.mem_append_left _ hb))
       · rw [e] at hb;simp at hb;exact .inr (by omega)
     rcases List.mem_append.1 hb with hb | hb
     · exact .inl (by unfold Hs.blocks;exact List.mem_cons_of_mem _ (List.mem_append_right _ hb))
     · unfold Pl.blocks at hb
       rcases List.mem_cons.1 hb with rfl | hb
       · exact .inr hlo
       rcases List.mem_cons.1 hb with rfl | hb
       · exact .inr hsz
       rw [hkv] at hb
       have hb':iv.ownBlock=some b:=by simpa [show (Value.slice none 0 0).ownBlock=none from rfl] using hb
       exact .inr (hiv.lt b hb').1
theorem plain_any (s:Hs) (p:Int) (w:World) (h:HpAt w s) {G:Nat} (hok:s.d.Ok G) :
   Calls Tryz.prog 9 #[.pointer (some ⟨s.h,0,none⟩),.int .i64 p] w fun e w' =>
     e=.returned (.tuple #[.int .i64 (s.d.plain p).1.1,.int .i64 (s.d.plain p).1.2])∧∃ s',HpAt w' s'∧Step w s w' s'∧s'.d=(s.d.plain p).2:=by
 have AT:=at_any s p w h
 have AD:=add_new s (Ob.fresh 1 p 0 0 0 []) (.slice none 0 0) (.slice none 0 0) (.map none) 1 w (w.alloc (.cells #[.int .i64 1,.int .i64 p,.int .i64 0,.int .i64 0,.int .i64 0,.slice none 0 0,.map none,.slice none 0 0] 67)) w.heap.size ((Pur.refl w).alloc _) (Nat.le_refl _) h (bk_new _ _) rfl rfl rfl (World.ownsRow_nil _ _ _ _) (by simp [Value.ownBlock]) (by decide) hok
 have hat:=at_none h p
 unfold Hd.plain
 by_cases h1:p=-1
 · subst h1
   rw [if_neg (fun hc=>hc.1 rfl)]
   generalize s.d.add _ _=R at *
   clear h hat hok
   go_enter Tryz.func9,Tryz.ntmps9
   go_wp2_with fail
   refine AD.mono ?_
   rintro e w' ⟨rfl,hw⟩
   go_wp2
   go_ret2
   exact ⟨rfl,hw⟩
 · by_cases h2:s.d.obj p=none
   · rw [if_pos ⟨h1,h2⟩]
     rw [hat.2 h2] at AT
     have hfin:∃ s',HpAt w s'∧Step w s w s'∧s'.d=s.d:=⟨s,h,Step.refl w s,rfl⟩
     clear h hat hok AD
     go_enter Tryz.func9,Tryz.ntmps9
     go_wp2_with fail
     refine AT.mono ?_
     rintro e w' ⟨rfl,rfl⟩
     go_wp2
     go_ret2
     exact ⟨rfl,hfin⟩
   · rw [if_neg (fun hc=>h2 hc.2)]
     obtain ⟨ad,had⟩:∃ ad,s.at p=some ad:=Option.ne_none_iff_exists'.1 (fun e=>h2 (hat.1 e))
     rw [had] at AT
     generalize s.d.add _ _=R at *
     clear h hat hok
     go_enter Tryz.func9,Tryz.ntmps9
     go_wp2_with fail
     refine AT.mono ?_
     rintro e w' ⟨rfl,rfl⟩
     go_wp2_with fail
     refine AD.mono ?_
     rintro e w' ⟨rfl,hw⟩
     go_wp2
     go_ret2
     exact ⟨rfl,hw⟩
@[go_sem] theorem run_store_flt {P:Program} (w:World) (a:Addr) (m:Mode) (k:FloatKind) (x:Nat):(store a (.float k x) m).run P w=stored P w a (.float k x) m:=run_store P w a _ m rfl
def VRead (w:World) (v:Value) (vs:List Va):Prop :=
 (v=.slice none 0 0∧vs=[])∨∃ b o c,v=.slice (some ⟨b,o,none⟩) vs.length c∧b < w.heap.size∧∀ (j:Nat) u,(vs.flatMap Va.cells)[j]?=some u→w.cell? ⟨b,o + j,none⟩=some u
theorem VRead.same {w w':World} {v:Value} {vs:List Va} (h:VRead w v vs) (hs:w.heap.size≤w'.heap.size) (e:∀ b,v.ownBlock=some b→w'.heap[b]?=w.heap[b]?):VRead w' v vs:=by
 rcases h with h | ⟨b,o,c,rfl,hb,hc⟩
 · exact .inl h
 · refine .inr ⟨b,o,c,rfl,Nat.lt_of_lt_of_le hb hs,fun j u hu=>?_⟩
   rw [← hc j u hu]
   exact World.cell?_of_block (e b rfl)
theorem VRead.pur {w w':World} {v:Value} {vs:List Va} (h:VRead w v vs) (hp:Pur w w'):VRead w' v vs:=by
 refine h.same hp.size fun b hb=>hp.block b ?_
 rcases h with ⟨rfl,-⟩ | ⟨b',o,c,rfl,hb',-⟩
 · simp [Value.ownBlock] at hb
 · simp [Value.ownBlock] at hb;omega
theorem VRead.of_own {w:World} {B:Nat} {e:TypeId} {v:Value} {vs:List Va} (h:w.ownsRow B e 4 v vs.length (vs.flatMap Va.cells)):VRead w v vs:=by
 rcases h.2 with ⟨rfl,h0⟩ | ⟨g,cap,cur,rfl,hb,hg,_⟩
 · exact .inl ⟨rfl,List.length_eq_zero_iff.1 h0⟩
 · refine .inr ⟨g,0,cap,rfl,(Array.getElem?_eq_some_iff.1 hg).1,fun j u hu=>?_⟩
   have:=h.cells (g:=g) rfl j u hu
   rw [← this,Nat.zero_add]
   unfold Addr.add
   split <;> simp_all
theorem va_len (vs:List Va):(vs.flatMap Va.cells).length=vs.length * 4:=by
 induction vs with
 | nil=>rfl
 | cons x r ih=>rw [List.flatMap_cons,List.length_append,ih,List.length_cons];simp [Va.cells];omega
theorem va_at:∀ (vs:List Va) (j:Nat) (x:Va),vs[j]?=some x→∀ (i:Nat) u,x.cells[i]?=some u→(vs.flatMap Va.cells)[j * 4 + i]?=some u
 | [],j,x,h,i,u,hu=>by simp at h
 | g :: vs,0,x,h,i,u,hu=>by
   obtain rfl:g=x:=by simpa using h
   have hi:=(List.getElem?_eq_some_iff.1 hu).1
   rw [List.flatMap_cons,Nat.zero_mul,Nat.zero_add,List.getElem?_append_left hi,hu]
 | g :: vs,j + 1,x,h,i,u,hu=>by
   have:=va_at vs j x (by simpa using h) i u hu
   have hl:g.cells.length=4:=rfl
   rw [List.flatMap_cons,List.getElem?_append_right (by rw [hl,Nat.succ_mul];omega),hl]
   rw [show (j + 1) * 4 + i - 4=j * 4 + i by rw [Nat.succ_mul];omega]
   exact this
theorem row_low {w:World} {B B':Nat} {e:TypeId} {k:Nat} {v:Value} {n:Nat} {xs:List Value} (h:w.ownsRow B e k v n xs) (hB:B'≤B):w.ownsRow B' e k v n xs:=by
 refine ⟨h.1,?_⟩
 rcases h.2 with h2 | ⟨g,cap,cur,rfl,h1,h2⟩
 · exact .inl h2
 · exact .inr ⟨g,cap,cur,rfl,Nat.le_trans hB h1,h2⟩
theorem va_one {vs:List Va} {u:Value} (h:u∈vs.flatMap Va.cells):u.oneCell'=true:=by
 obtain ⟨x,-,hx⟩:=List.mem_flatMap.1 h
 simp [Va.cells] at hx
 rcases hx with rfl | rfl | rfl | rfl <;> rfl
theorem va_info:(Tryz.prog.info? 25).map (fun i=>(i.zero.map (·.cells.size),i.size,i.bytes))=some (some 4,4,40):=by kernel_rfl
theorem clone_any (v:Value) (vs:List Va) (w:World) (h:VRead w v vs) (hn:vs.length≤1000000) :
   Calls Tryz.prog 31 #[v] w fun e w'=>∃ v',e=.returned v'∧Pur w w'∧w'.ownsRow w.heap.size 25 4 v' vs.length (vs.flatMap Va.cells):=by
 obtain ⟨i0,hi,hz⟩:=Option.map_eq_some_iff.1 va_info
 simp only [Prod.mk.injEq] at hz
 obtain ⟨hz0,hz1,hz2⟩:=hz
 obtain ⟨z0,hz0,hzs⟩:=Option.map_eq_some_iff.1 hz0
 rcases h with ⟨rfl,rfl⟩ | ⟨b,o,c,rfl,hb,hc⟩
 · have he:∀ w:World,(binOp .eql 22 (.slice none 0 0) (.slice none 0 0)).run Tryz.prog w=.ok (.bool true) w:=fun _=>rfl
   go_enter Tryz.func31,Tryz.ntmps31
   go_wp2_with fail
   go_ret
   exact ⟨_,rfl,Pur.refl _,World.ownsRow_nil _ _ _ _⟩
 · have hc':∀ (j:Nat) u,(vs.flatMap Va.cells)[j]?=some u→(w.alloc (.cells #[] 25)).cell? ((⟨b,o,none⟩:Addr).add j)=some u:=fun j u hu=>by
     have e:(⟨b,o,none⟩:Addr).add j=⟨b,o + j,none⟩:=by unfold Addr.add;split <;> simp_all
     rw [e]
     exact (((Pur.refl w).alloc _).cell (p:=⟨b,o + j,none⟩) hb).trans (hc j u hu)
   have hm:=World.ownsRow_made (base:=w.heap.size) (e:=25) (size:=4) w #[] 0 (Nat.le_refl _) (by decide) rfl
   have hlen:=va_len vs
   have hsz:=((Pur.refl w).alloc (.cells #[] 25)).size
   have hn1:0 + vs.length≤maxLen:=by unfold maxLen;omega
   have hn2:(0 + vs.length) * 40≤140737488355328:=by omega
   have he:∀ w:World,(binOp .eql 22 (.slice (some ⟨b,o,none⟩) vs.length c) (.slice none 0 0)).run Tryz.prog w=.ok (.bool false) w:=fun _=>rfl
   go_enter Tryz.func31,Tryz.ntmps31
   go_wp2_with (at_builtin;refine wpList_append_own_at _ rfl _ _ 22 rfl w.heap.size 25 i0 z0 4 40 Tryz.underlying22 hi hz0 hz1 hz2 hzs (by decide) _ _ _ rfl hm ⟨b,o,none⟩ vs.length c (vs.flatMap Va.cells) rfl hlen hc' (fun u hu=>va_one hu) hn1 hn2 hsz ?_)
   intro v5 w5 hown5 hgrow _ hid
   have hp:Pur w w5:=((Pur.refl w).alloc (.cells #[] 25)).grown hgrow hsz (fun k hk=>(hm.lt k hk).1)
   clear hm hc hc' hgrow hid
   go_wp2
   go_ret
   exact ⟨_,rfl,hp,hown5⟩
theorem nsame_self (x:Nat) (w:World):Calls Tryz.prog 21 #[.float .f64 x,.float .f64 x] w fun e w'=>e=.returned (.bool true)∧w=w':=by
 have h6:=@run_callFunc_extern Tryz.prog 38 _ Go.Extern.MathFloatBits.float64bits Tryz.func38 (by kernel_rfl) (by kernel_rfl) (by kernel_rfl) (by kernel_rfl)
 have fb:∀ w:World,(Go.Extern.MathFloatBits.float64bits #[.float .f64 x]).run Tryz.prog w=.ok (.int .u64 (x:Nat)) w:=fun w=>rfl
 obtain ⟨b,hb⟩:∃ b,(FloatKind.f64.format.order x x != some Ordering.eq)=b:=⟨_,rfl⟩
 rcases b with _ | _
 all_goals
   go_enter Tryz.func21,Tryz.ntmps21
   go_wp2
   go_ret
   exact ⟨by simp,rfl⟩
theorem rsame_self (x:Va) (w:World):Calls Tryz.prog 15 #[x.v,x.v] w fun e w'=>e=.returned (.bool true)∧Pur w w':=by
 obtain ⟨k,n,t,r⟩:=x
 have S:=fun w=>nsame_self n w
 simp only [Va.v,Va.cells]
 go_enter Tryz.func15,Tryz.ntmps15
 go_wp2_with fail
 refine (S _).mono ?_
 rintro e w' ⟨rfl,rfl⟩
 go_wp2
 go_ret
 exact ⟨by simp,((Pur.refl w).alloc _).alloc _⟩
def st4 (w:World) (b:Nat) (x:Va):World:=(((w.setCell ⟨b,0,none⟩ (.int .i64 x.kind)).setCell ⟨b,1,none⟩ (.float .f64 x.num)).setCell ⟨b,2,none⟩ (.string ⟨x.text.toArray⟩)).setCell ⟨b,3,none⟩ (.int .i64 x.ref)
theorem st4_at {w:World} {b:Nat} {y x:Va} (h:w.heap[b]?=some (.cells y.cells.toArray 25 (0,0))):(st4 w b x).heap[b]?=some (.cells x.cells.toArray 25 (0,0)) :=
 bk_set (bk_set (bk_set (bk_set h 0 (.int .i64 x.kind)) 1 (.float .f64 x.num)) 2 (.string ⟨x.text.toArray⟩)) 3 (.int .i64 x.ref)
theorem st4_other {w:World} {b c:Nat} {o:Obj} {x:Va} (h:w.heap[c]?=some o) (hne:c≠b):(st4 w b x).heap[c]?=some o :=
 bk_other (bk_other (bk_other (bk_other h (a:=⟨b,0,none⟩) hne _) (a:=⟨b,1,none⟩) hne _) (a:=⟨b,2,none⟩) hne _) (a:=⟨b,3,none⟩) hne _
theorem st4_pur {w0 w:World} {b:Nat} {x:Va} (h:Pur w0 w) (hb:w0.heap.size≤b):Pur w0 (st4 w b x) :=
 (((h.setCell (p:=⟨b,0,none⟩) hb _).setCell (p:=⟨b,1,none⟩) hb _).setCell (p:=⟨b,2,none⟩) hb _).setCell (p:=⟨b,3,none⟩) hb _
theorem st4_steps {w:World} {b:Nat} {y x:Va} (h:w.heap[b]?=some (.cells y.cells.toArray 25 (0,0))) :
   (w.frozen? ⟨b,0,none⟩=false∧w.cell? ⟨b,0,none⟩=some (.int .i64 y.kind)) ∧
   ((w.setCell ⟨b,0,none⟩ (.int .i64 x.kind)).frozen? ⟨b,1,none⟩=false∧(w.setCell ⟨b,0,none⟩ (.int .i64 x.kind)).cell? ⟨b,1,none⟩=some (.float .f64 y.num)) ∧
   (((w.setCell ⟨b,0,none⟩ (.int .i64 x.kind)).setCell ⟨b,1,none⟩ (.float .f64 x.num)).frozen? ⟨b,2,none⟩=false∧((w.setCell ⟨b,0,none⟩ (.int .i64 x.kind)).setCell ⟨b,1,none⟩ (.float .f64 x.num)).cell? ⟨b,2,none⟩=some (.string ⟨y.text.toArray⟩)) ∧
   ((((w.setCell ⟨b,0,none⟩ (.int .i64 x.kind)).setCell ⟨b,1,none⟩ (.float .f64 x.num)).setCell ⟨b,2,none⟩ (.string ⟨x.text.toArray⟩)).frozen? ⟨b,3,none⟩=false∧(((w.setCell ⟨b,0,none⟩ (.int .i64 x.kind)).setCell ⟨b,1,none⟩ (.float .f64 x.num)).setCell ⟨b,2,none⟩ (.string ⟨x.text.toArray⟩)).cell? ⟨b,3,none⟩=some (.int .i64 y.ref)):=by
 have h1:=bk_set h 0 (.int .i64 x.kind)
 have h2:=bk_set h1 1 (.float .f64 x.num)
 have h3:=bk_set h2 2 (.string ⟨x.text.toArray⟩)
 exact ⟨⟨bk_free h 0,bk_cell h 0 _ rfl⟩,⟨bk_free h1 1,bk_cell h1 1 _ rfl⟩,⟨bk_free h2 2,bk_cell h2 2 _ rfl⟩,⟨bk_free h3 3,bk_cell h3 3 _ rfl⟩⟩
theorem right_ref (s:Hs) (k:Int) (n:Nat) (t:List UInt8) (r:Int) (hk:k=5∨k=6) (w:World) (h:HpAt w s) (hx:n < 18446744073709551616) (ht:t.length≤1000000000) :
   Calls Tryz.prog 30 #[.pointer (some ⟨s.h,0,none⟩),(Va.mk k n t r).v] w fun e w'=>e=.returned (.bool (sameB n 0 && (t == []) && decide (0≤r) && (decide (k=6) || decide (r < s.ps.length))))∧Pur w w':=by
 have c0:=h.cell0
 obtain ⟨a,c,hov,-⟩:=h.rows
 rw [hov] at c0
 clear hov h
 have S:=fun w=>same_any n 0 hx (by decide) w
 have Qh:∀ y:PW (w.alloc (.cells #[.int .i64 k,.float .f64 n,.string ⟨t.toArray⟩,.int .i64 r] 25)),y.to.cell? ⟨s.h,0,none⟩=some (.slice a s.ps.length c):=fun y =>
   ((((Pur.refl w).alloc _).trans y.pur).cell (World.block_lt_of_cell? w _ c0)).trans c0
 have hN:=bk_new w (.cells #[.int .i64 k,.float .f64 n,.string ⟨t.toArray⟩,.int .i64 r] 25)
 have Q0:∀ y:PW (w.alloc (.cells #[.int .i64 k,.float .f64 n,.string ⟨t.toArray⟩,.int .i64 r] 25)),y.to.cell? ⟨w.heap.size,0,none⟩=some (.int .i64 k):=fun y=>bk_cell (bk_pur hN y.pur) 0 _ rfl
 have Q1:∀ y:PW (w.alloc (.cells #[.int .i64 k,.float .f64 n,.string ⟨t.toArray⟩,.int .i64 r] 25)),y.to.cell? ⟨w.heap.size,1,none⟩=some (.float .f64 n):=fun y=>bk_cell (bk_pur hN y.pur) 1 _ rfl
 have Q2:∀ y:PW (w.alloc (.cells #[.int .i64 k,.float .f64 n,.string ⟨t.toArray⟩,.int .i64 r] 25)),y.to.cell? ⟨w.heap.size,2,none⟩=some (.string ⟨t.toArray⟩):=fun y=>bk_cell (bk_pur hN y.pur) 2 _ rfl
 have Q3:∀ y:PW (w.alloc (.cells #[.int .i64 k,.float .f64 n,.string ⟨t.toArray⟩,.int .i64 r] 25)),y.to.cell? ⟨w.heap.size,3,none⟩=some (.int .i64 r):=fun y=>bk_cell (bk_pur hN y.pur) 3 _ rfl
 simp only [Va.v,Va.cells] at *
 generalize s.ps.length=m at *
 generalize s.h=hh at *
 generalize sameB n 0=b1 at *
 clear hx c0 hN
 rcases b1 with _ | _
 · rcases hk with rfl | rfl
   all_goals
     go_enter Tryz.func30,Tryz.ntmps30
     go_wp2_with fail
     refine wp_region_pur (by kernel_rfl) (by kernel_rfl) ?_
     repeat (go_big_quiet_step (((go_at_call 58;with_reducible exact quiet_eq (S _)))))
     refine wpQuiet_nil ?_
     intro w1 hp
     go_wp2
     go_ret
     exact ⟨by simp [*],((Pur.refl _).alloc _).trans hp⟩
 · rcases t with _ | ⟨t1,t⟩
   · by_cases r0:0≤r
     · rcases hk with rfl | rfl
       · by_cases r2:r < (m:Int)
         · skip
           have r3:=decide_eq_true r2
           go_enter Tryz.func30,Tryz.ntmps30
           go_wp2_with fail
           refine wp_region_pur (by kernel_rfl) (by kernel_rfl) ?_
           repeat (go_big_quiet_step (((go_at_call 58;with_reducible exact quiet_eq (S _)))))
           refine wpQuiet_nil ?_
           intro w1 hp
           go_wp2
           go_ret
           exact ⟨by simp [*],((Pur.refl _).alloc _).trans hp⟩
         · skip
           have r3:=decide_eq_false r2
           go_enter Tryz.func30,Tryz.ntmps30
           go_wp2_with fail
           refine wp_region_pur (by kernel_rfl) (by kernel_rfl) ?_
           repeat (go_big_quiet_step (((go_at_call 58;with_reducible exact quiet_eq (S _)))))
           refine wpQuiet_nil ?_
           intro w1 hp
           go_wp2
           go_ret
           exact ⟨by simp [*],((Pur.refl _).alloc _).trans hp⟩
       · skip
         go_enter Tryz.func30,Tryz.ntmps30
         go_wp2_with fail
         refine wp_region_pur (by kernel_rfl) (by kernel_rfl) ?_
         repeat (go_big_quiet_step (((go_at_call 58;with_reducible exact quiet_eq (S _)))))
         refine wpQuiet_nil ?_
         intro w1 hp
         go_wp2
         go_ret
         exact ⟨by simp [*],((Pur.refl _).alloc _).trans hp⟩
     · have r1:=decide_eq_false r0
       rcases hk with rfl | rfl
       all_goals
         go_enter Tryz.func30,Tryz.ntmps30
         go_wp2_with fail
         refine wp_region_pur (by kernel_rfl) (by kernel_rfl) ?_
         repeat (go_big_quiet_step (((go_at_call 58;with_reducible exact quiet_eq (S _)))))
         refine wpQuiet_nil ?_
         intro w1 hp
         go_wp2
         go_ret
         exact ⟨by simp [*],((Pur.refl _).alloc _).trans hp⟩
   · rcases hk with rfl | rfl
     all_goals
       go_enter Tryz.func30,Tryz.ntmps30
       go_wp2_with fail
       refine wp_region_pur (by kernel_rfl) (by kernel_rfl) ?_
       repeat (go_big_quiet_step (((go_at_call 58;with_reducible exact quiet_eq (S _)))))
       refine wpQuiet_nil ?_
       intro w1 hp
       go_wp2
       go_ret
       exact ⟨by simp [*],((Pur.refl _).alloc _).trans hp⟩
theorem right_any (s:Hs) (x:Va) (w:World) (h:HpAt w s) (hx:x.num < 18446744073709551616) (ht:x.text.length≤1000000000) :
   Calls Tryz.prog 30 #[.pointer (some ⟨s.h,0,none⟩),x.v] w fun e w'=>e=.returned (.bool (x.right s.ps.length))∧Pur w w':=by
 obtain ⟨k,n,t,r⟩:=x
 have R5:=fun hk=>right_ref s k n t r hk w h hx ht
 have c0:=h.cell0
 obtain ⟨a,c,hov,-⟩:=h.rows
 rw [hov] at c0
 clear hov h
 have S:=fun w=>same_any n 0 hx (by decide) w
 have c0':=fun (o:Obj)=>(((Pur.refl w).alloc o).cell (World.block_lt_of_cell? w _ c0)).trans c0
 simp only [Va.v,Va.cells,Va.right] at *
 generalize s.ps.length=m at *
 generalize s.h=hh at *
 have u3:(FloatKind.f64.format.order n 4607182418800017408 == some Ordering.eq)=eqB n 4607182418800017408:=rfl
 generalize sameB n 0=b1 at *
 generalize eqB n 4607182418800017408=b2 at *
 clear hx
 by_cases k0:k=0
 · subst k0
   clear R5
   rcases b1 with _ | _ <;> rcases t with _ | ⟨t1,t⟩ <;> by_cases r0:r=0
   all_goals
     try have r1:=decide_eq_false r0
     go_enter Tryz.func30,Tryz.ntmps30
     go_wp2_with (go_at_call 58;refine (S _).mono ?_;rintro e w' ⟨rfl,rfl⟩)
     go_ret
     exact ⟨by simp_all,(Pur.refl _).alloc _⟩
 by_cases k1:k=1
 · subst k1
   clear R5
   rcases b1 with _ | _ <;> rcases t with _ | ⟨t1,t⟩ <;> by_cases r0:r=0
   all_goals
     try have r1:=decide_eq_false r0
     go_enter Tryz.func30,Tryz.ntmps30
     go_wp2_with (go_at_call 58;refine (S _).mono ?_;rintro e w' ⟨rfl,rfl⟩)
     go_ret
     exact ⟨by simp_all,(Pur.refl _).alloc _⟩
 by_cases k2:k=2
 · subst k2
   clear R5
   rcases b1 with _ | _ <;> rcases hb2:b2 with _ | _ <;> rcases t with _ | ⟨t1,t⟩ <;> by_cases r0:r=0
   all_goals
     try have r1:=decide_eq_false r0
     go_enter Tryz.func30,Tryz.ntmps30
     go_wp2_with (go_at_call 58;refine (S _).mono ?_;rintro e w' ⟨rfl,rfl⟩)
     go_ret
     exact ⟨by simp_all,(Pur.refl _).alloc _⟩
 by_cases k3:k=3
 · subst k3
   clear R5
   rcases t with _ | ⟨t1,t⟩ <;> by_cases r0:r=0
   all_goals
     try have r1:=decide_eq_false r0
     go_enter Tryz.func30,Tryz.ntmps30
     go_wp2_with (go_at_call 58;refine (S _).mono ?_;rintro e w' ⟨rfl,rfl⟩)
     go_ret
     exact ⟨by simp_all,(Pur.refl _).alloc _⟩
 by_cases k4:k=4
 · subst k4
   clear R5
   rcases b1 with _ | _ <;> by_cases r0:r=0
   all_goals
     try have r1:=decide_eq_false r0
     go_enter Tryz.func30,Tryz.ntmps30
     go_wp2_with (go_at_call 58;refine (S _).mono ?_;rintro e w' ⟨rfl,rfl⟩)
     go_ret
     exact ⟨by simp_all,(Pur.refl _).alloc _⟩
 by_cases k5:k=5∨k=6
 · have R:=R5 k5
   rw [if_neg (by omega),if_neg k2,if_neg k3,if_neg k4,if_pos k5]
   exact R
 rw [if_neg (by omega),if_neg k2,if_neg k3,if_neg k4,if_neg k5]
 have k6:k≠6:=fun e=>k5 (.inr e)
 have k7:k≠5:=fun e=>k5 (.inl e)
 clear k5 R5
 go_enter Tryz.func30,Tryz.ntmps30
 go_wp2_with fail
 go_ret
 exact ⟨rfl,(Pur.refl _).alloc _⟩
def Hd.array (d:Hd) (vs:List Va):(Int × Int) × Hd:=if vs.all (Va.right d.xs.length)=true then d.add (Ob.fresh 2 (-1) 0 0 0 vs) (1 + vs.length) else ((0,1),d)
theorem Hd.Ok.array {G:Nat} {d:Hd} (h:d.Ok G) (vs:List Va):(d.array vs).2.Ok G:=by
 unfold Hd.array
 split
 · exact h.add _ _ (by simp [Ob.cost,Ob.fresh]) (Ob.fresh_ok _ _ _ _ _ _ _ (by omega))
 · exact h
theorem VRead.each {w:World} {v:Value} {vs:List Va} (h:VRead w v vs):∃ a c,v=.slice a vs.length c∧∀ (n:Nat) x,vs[n]?=some x→∃ b o,a=some ⟨b,o,none⟩∧b < w.heap.size∧∀ (i:Nat) u,x.cells[i]?=some u→w.cell? ⟨b,o + n * 4 + i,none⟩=some u:=by
 rcases h with ⟨rfl,rfl⟩ | ⟨b,o,c,rfl,hb,hc⟩
 · exact ⟨none,0,rfl,fun n x hx=>by simp at hx⟩
 · refine ⟨_,c,rfl,fun n x hx=>⟨b,o,rfl,hb,fun i u hu=>?_⟩⟩
   have:=hc _ _ (va_at vs n x hx i u hu)
   rw [← Nat.add_assoc] at this
   exact this
theorem array_any (s:Hs) (v:Value) (vs:List Va) (w:World) (h:HpAt w s) (hv:VRead w v vs) (hwf:∀ x∈vs,x.wf) (hn:vs.length≤1000000) {G:Nat} (hok:s.d.Ok G) :
   Calls Tryz.prog 11 #[.pointer (some ⟨s.h,0,none⟩),v] w fun e w' =>
     e=.returned (.tuple #[.int .i64 (s.d.array vs).1.1,.int .i64 (s.d.array vs).1.2])∧∃ s',HpAt w' s'∧Step w s w' s'∧s'.d=(s.d.array vs).2:=by
 have hlen:s.d.xs.length=s.ps.length:=h.len
 obtain ⟨a,c,rfl,hC⟩:=hv.each
 obtain ⟨R,hR⟩:∃ R,s.d.array vs=R:=⟨_,rfl⟩
 rw [hR]
 unfold Hd.array at hR
 rw [hlen] at hR
 have HR0:=Lib.hid hR
 clear hR
 go_enter Tryz.func11,Tryz.ntmps11
 go_wp2
 go_loopw [10] (fun i wr=>∃ n:Nat,n≤vs.length∧i=.int .i64 n∧Pur w wr∧Hid (∀ x∈vs.take n,x.right s.ps.length=true)) (fun i _=>vs.length + 1 - (intOf i).toNat)
 case atStart=>exact ⟨0,by omega,rfl,Pur.refl w,Lib.hid (by simp)⟩
 case round =>
   obtain ⟨n,hnl,rfl,hpr,HR⟩:=hrel
   by_cases hlt:n < vs.length
   · have hlt':(n:Int) < vs.length:=by omega
     have hn0:(0:Int)≤n:=by omega
     obtain ⟨x,hx⟩:∃ x,vs[n]?=some x:=⟨_,List.getElem?_eq_getElem hlt⟩
     have hxw:=hwf x (List.mem_of_getElem? hx)
     obtain ⟨b,o,ha,hb,hcell⟩:=hC n x hx
     have k0:=(hpr.cell (p:=⟨b,o + n * 4 + 0,none⟩) hb).trans (hcell 0 _ rfl)
     have k1:=(hpr.cell (p:=⟨b,o + n * 4 + 1,none⟩) hb).trans (hcell 1 _ rfl)
     have k2:=(hpr.cell (p:=⟨b,o + n * 4 + 2,none⟩) hb).trans (hcell 2 _ rfl)
     have k3:=(hpr.cell (p:=⟨b,o + n * 4 + 3,none⟩) hb).trans (hcell 3 _ rfl)
     rw [Nat.add_zero] at k0
     subst ha
     have RT:=fun (wx:World) (hw:HpAt wx s)=>right_any s x wx hw hxw.1 hxw.2
     have hr:=h.pur hpr
     have hfin:∀ wx,Pur w wx→∃ s',HpAt wx s'∧Step w s wx s'∧s'.d=s.d:=fun wx hp=>⟨s,h.pur hp,Step.pur hp,rfl⟩
     have HT:Hid (vs.take (n + 1)=vs.take n ++ [x]):=Lib.hid (by rw [List.take_add_one,hx];rfl)
     have HX:Hid (x∈vs):=Lib.hid (List.mem_of_getElem? hx)
     clear hcell hC hwf hxw
     obtain ⟨bx,hbx⟩:∃ bx,x.right s.ps.length=bx:=⟨_,rfl⟩
     rw [hbx] at RT
     obtain ⟨kk,nn,tt,rr⟩:=x
     simp only [Va.v,Va.cells] at RT
     go_wp2_with fail
     refine (RT _ (hr.pur ?hp1)).mono ?_
     case hp1=>exact (Pur.refl _).alloc _
     rintro e w2 ⟨rfl,h2⟩
     have hp2:=(hpr.trans ((Pur.refl wr).alloc (.cells #[.int .i64 kk,.float .f64 nn,.string ⟨tt.toArray⟩,.int .i64 rr] 25))).trans h2
     have hfin2:=hfin _ hp2
     clear k0 k1 k2 k3 RT hr hfin hok h2 hpr
     rcases bx with _ | _
     · have HN:¬ vs.all (Va.right s.ps.length)=true:=fun ha=>by
         rw [List.all_eq_true.1 ha _ HX.out] at hbx
         cases hbx
       have e:=HR0.out
       rw [if_neg HN] at e
       subst e
       go_wp2
       go_ret2
       exact ⟨rfl,hfin2⟩
     · go_wp2
       go_roundw
       case rel =>
         refine ⟨n + 1,by omega,by go_num,hp2,Lib.hid (fun y hy=>?_)⟩
         rw [HT.out] at hy
         rcases List.mem_append.1 hy with hy | hy
         · exact HR.out y hy
         · rw [List.mem_singleton.1 hy];exact hbx
       case measure=>simp [intOf];omega
   · obtain rfl:n=vs.length:=by omega
     have HA:vs.all (Va.right s.ps.length)=true:=List.all_eq_true.2 (fun y hy=>HR.out y (by rw [List.take_length];exact hy))
     have e:=HR0.out
     rw [if_pos HA] at e
     have CL:=clone_any _ vs wr (hv.pur hpr) hn
     clear hC hwf HA HR hlen HR0
     have AD:=fun (v':Value) (w3:World) (hp:Pur w w3) (hrow:w3.ownsRow w.heap.size 25 4 v' vs.length (vs.flatMap Va.cells)) =>
       add_new s (Ob.fresh 2 (-1) 0 0 0 vs) (.slice none 0 0) v' (.map none) (1 + vs.length) w (w3.alloc (.cells #[.int .i64 2,.int .i64 (-1),.int .i64 0,.int .i64 0,.int .i64 0,.slice none 0 0,.map none,v'] 67)) w3.heap.size (hp.alloc _) hp.size h (bk_new _ _) rfl rfl rfl
         (hrow.alloc _) (fun e=>by have:=(hrow.lt _ e).2;omega) (by omega) hok
     rw [e] at AD
     clear e
     have wr1:IntKind.i64.wrap (1 + (vs.length:Int))=1 + vs.length:=IntWalk.i64_in _ (by omega)
     go_wp2_with fail
     refine CL.mono ?_
     rintro e w3 ⟨v',rfl,h3,hrow⟩
     have AD':=AD v' w3 (hpr.trans h3) (row_low hrow hpr.size)
     obtain ⟨a3,c3,rfl⟩:=row_shape hrow
     clear AD CL hrow
     go_wp2_with fail
     refine AD'.mono ?_
     rintro e w' ⟨rfl,hw⟩
     go_wp2
     go_ret2
     exact ⟨rfl,hw⟩
theorem HpAt.find {w:World} {s:Hs} (h:HpAt w s) {i:Int} {x:Ob} (hx:s.d.obj i=some x):∃ p,s.at i=some ⟨p.o,0,none⟩∧ObIn w p x∧p∈s.ps:=by
 unfold Hd.obj Hs.d at hx
 unfold Hs.at
 split at hx
 · cases hx
 · next h0 =>
   have hl:=(List.getElem?_eq_some_iff.1 hx).1
   simp only at hx hl
   have hl':i.toNat < s.ps.length:=by rw [← h.len];exact hl
   refine ⟨s.ps[i.toNat],?_,h.each _ _ _ (List.getElem?_eq_getElem hl') hx,List.getElem_mem hl'⟩
   rw [if_neg (by omega),List.getElem?_eq_getElem hl']
   rfl
theorem own_len (s:Hs) (i:Int) (x:Ob) (w:World) (h:HpAt w s) (hx:s.d.obj i=some x) (hk:x.kind=2) (hn:x.items.length≤10000) :
   Calls Tryz.prog 136 #[.pointer (some ⟨s.h,0,none⟩),.int .i64 i,.string ⟨lenKey.toArray⟩] w fun e w'=>e=.returned (.tuple #[(Va.mk 3 (floatOfInt .f64 x.items.length) [] 0).v,.bool true])∧Pur w w':=by
 have AT:=at_any s i w h
 obtain ⟨p,hp,hob,-⟩:=h.find hx
 rw [hp] at AT
 obtain ⟨a,c,hiv⟩:=row_shape hob.items
 have B:=hob.own
 rw [hiv,hk] at B
 have B1:=bk_alloc B (.cells #[.int .i64 0,.float .f64 0,.string ⟨#[]⟩,.int .i64 0] 25)
 have k0:=bk_cell B1 0 _ rfl
 have k7:=bk_cell B1 7 _ rfl
 have AT':=at_any s i _ (h.pur ((Pur.refl w).alloc (.cells #[.int .i64 0,.float .f64 0,.string ⟨#[]⟩,.int .i64 0] 25)))
 rw [hp] at AT'
 clear AT B B1 hob hiv h hx hk
 unfold lenKey
 go_enter Tryz.func136,Tryz.ntmps136
 go_wp2_with fail
 refine AT'.mono ?_
 rintro e w1 ⟨rfl,rfl⟩
 go_wp2_with fail
 refine bodyPost_ret (v:=.tuple #[.agg #[.int .i64 3,.float .f64 (floatOfInt .f64 x.items.length),.string ⟨#[]⟩,.int .i64 0],.bool true]) (by simp [results,Tryz.results136,go_sem]) rfl ⟨rfl,?_⟩
 repeat (first | exact Pur.refl _ | with_reducible refine Pur.setCell ?_ (Nat.le_refl _) _ | with_reducible refine Pur.alloc ?_ _)
theorem zero_va (w:World):(zeroValue 25).run Tryz.prog w=.ok Va.zero.v w:=by kernel_rfl
theorem va_law:Go.Maps.Keyed Tryz.prog 9:=Go.Maps.string_keyed Tryz.underlying9
theorem own_none (s:Hs) (i:Int) (key:List UInt8) (w:World) (h:HpAt w s) (hx:s.d.obj i=none) :
   Calls Tryz.prog 136 #[.pointer (some ⟨s.h,0,none⟩),.int .i64 i,.string ⟨key.toArray⟩] w fun e w'=>e=.returned (.tuple #[Va.zero.v,.bool false])∧Pur w w':=by
 have AT':=at_any s i _ (h.pur ((Pur.refl w).alloc (.cells #[.int .i64 0,.float .f64 0,.string ⟨#[]⟩,.int .i64 0] 25)))
 rw [(at_none h i).2 hx] at AT'
 clear h hx
 go_enter Tryz.func136,Tryz.ntmps136
 go_wp2_with fail
 refine AT'.mono ?_
 rintro e w1 ⟨rfl,rfl⟩
 go_wp2_with fail
 refine bodyPost_ret (v:=.tuple #[.agg #[.int .i64 0,.float .f64 0,.string ⟨#[]⟩,.int .i64 0],.bool false]) (by simp [results,Tryz.results136,go_sem]) rfl ⟨rfl,?_⟩
 repeat (first | exact Pur.refl _ | with_reducible refine Pur.setCell ?_ (Nat.le_refl _) _ | with_reducible refine Pur.alloc ?_ _)
theorem own_prop (s:Hs) (i:Int) (x:Ob) (key:List UInt8) (w:World) (h:HpAt w s) (hx:s.d.obj i=some x) (hk:x.kind≠2) (hkl:key.length≤1000000) :
   Calls Tryz.prog 136 #[.pointer (some ⟨s.h,0,none⟩),.int .i64 i,.string ⟨key.toArray⟩] w fun e w'=>e=.returned (.tuple #[((x.props key).getD Va.zero).v,.bool (x.props key).isSome])∧Pur w w':=by
 obtain ⟨p,hp,hob,-⟩:=h.find hx
 have B1:=bk_alloc hob.own (.cells #[.int .i64 0,.float .f64 0,.string ⟨#[]⟩,.int .i64 0] 25)
 have k0:=bk_cell B1 0 _ rfl
 have k6:=bk_cell B1 6 _ rfl
 have AT':=at_any s i _ (h.pur ((Pur.refl w).alloc (.cells #[.int .i64 0,.float .f64 0,.string ⟨#[]⟩,.int .i64 0] 25)))
 rw [hp] at AT'
 obtain ⟨D,hD,hf⟩:=hob.props
 have hD':=hD.alloc (.cells #[.int .i64 0,.float .f64 0,.string ⟨#[]⟩,.int .i64 0] 25)
 obtain ⟨f1,f2⟩:=hf key
 have f3:D.atKey (.string key) (.held Va.zero)=.held ((x.props key).getD Va.zero):=by
   rw [f2];cases x.props key <;> rfl
 have hkey:=key_lit (k:=key) (by unfold maxLen;omega)
 generalize (x.props key).isSome=bo at *
 obtain ⟨y,hy⟩:∃ y,(x.props key).getD Va.zero=y:=⟨_,rfl⟩
 rw [hy] at f3 ⊢
 obtain ⟨kk,nn,tt,rr⟩:=y
 have hz:=RV_v Va.zero
 clear B1 hob h hx hf hD hy f2
 go_enter Tryz.func136,Tryz.ntmps136
 go_wp2_with fail
 refine AT'.mono ?_
 rintro e w1 ⟨rfl,rfl⟩
 go_wp2_with (at_lookup;refine wpList_lookup_own_ok _ rfl _ _ 65 rfl 9 25 va_law Tryz.underlying65 _ (zero_va _) (.held Va.zero) [] hz p.m _ D rfl hD' _ _ rfl hkey ?_)
 intro v ps hv
 try rw [f3] at hv
 obtain rfl:=RV_inv hv
 try rw [f1]
 simp only [Va.v,Va.cells]
 go_wp2_with fail
 refine bodyPost_ret (v:=.tuple #[.agg #[.int .i64 kk,.float .f64 nn,.string ⟨tt.toArray⟩,.int .i64 rr],.bool bo]) (by simp [results,Tryz.results136,go_sem]) rfl ⟨rfl,?_⟩
 repeat (first | exact Pur.refl _ | with_reducible refine Pur.setCell ?_ (Nat.le_refl _) _ | with_reducible refine Pur.alloc ?_ _)
theorem item_cell {w:World} {v:Value} {vs:List Va} (h:VRead w v vs) {n:Nat} {x:Va} (hx:vs[n]?=some x):∃ b o c,v=.slice (some ⟨b,o,none⟩) vs.length c∧b < w.heap.size∧∀ (i:Nat) u,x.cells[i]?=some u→w.cell? ⟨b,o + (n * 4 + i),none⟩=some u:=by
 rcases h with ⟨rfl,rfl⟩ | ⟨b,o,c,rfl,hb,hc⟩
 · simp at hx
 · refine ⟨b,o,c,rfl,hb,fun i u hu=>hc _ _ ?_⟩
   have hl:=(List.getElem?_eq_some_iff.1 hx).1
   clear hc hb
   induction vs generalizing n with
   | nil=>simp at hx
   | cons g vs ih =>
     cases n with
     | zero =>
       obtain rfl:g=x:=by simpa using hx
       have hi:=(List.getElem?_eq_some_iff.1 hu).1
       rw [List.flatMap_cons,Nat.zero_mul,Nat.zero_add,List.getElem?_append_left hi,hu]
     | succ n =>
       have:=ih (n:=n) (by simpa using hx) (by simp at hl;omega)
       have hl4:g.cells.length=4:=rfl
       rw [List.flatMap_cons,List.getElem?_append_right (by rw [hl4,Nat.succ_mul];omega),hl4]
       rw [show (n + 1) * 4 + i - 4=n * 4 + i by rw [Nat.succ_mul];omega]
       exact this
theorem eqkey_no {l m:List UInt8} (h:¬ l=m):(l == m)=false:=by simpa using h
theorem own_out (s:Hs) (i:Int) (x:Ob) (key:List UInt8) (n:Nat) (w:World) (h:HpAt w s) (hx:s.d.obj i=some x) (hk:x.kind=2) (hkl:key.length≤1000000) (hne:¬ key=lenKey) (hix:index key=some n) (hn:x.items.length≤n) :
   Calls Tryz.prog 136 #[.pointer (some ⟨s.h,0,none⟩),.int .i64 i,.string ⟨key.toArray⟩] w fun e w'=>e=.returned (.tuple #[Va.zero.v,.bool false])∧Pur w w':=by
 obtain ⟨p,hp,hob,-⟩:=h.find hx
 obtain ⟨a,c,hiv⟩:=row_shape hob.items
 have B:=hob.own
 rw [hiv,hk] at B
 have B1:=bk_alloc B (.cells #[.int .i64 0,.float .f64 0,.string ⟨#[]⟩,.int .i64 0] 25)
 have k0:=bk_cell B1 0 _ rfl
 have AT':=at_any s i _ (h.pur ((Pur.refl w).alloc (.cells #[.int .i64 0,.float .f64 0,.string ⟨#[]⟩,.int .i64 0] 25)))
 rw [hp] at AT'
 have IX:=fun w=>index_any key w (by omega)
 rw [hix] at IX
 simp only [ix] at IX
 have q1:=eqkey_no hne
 unfold lenKey at q1 hne
 have hK7:∀ w2,Pur (w.alloc (.cells #[.int .i64 0,.float .f64 0,.string ⟨#[]⟩,.int .i64 0] 25)) w2→w2.cell? ⟨p.o,7,none⟩=some (.slice a x.items.length c):=fun w2 hp2=>bk_cell (bk_pur B1 hp2) 7 _ rfl
 have hK6:∀ w2,Pur (w.alloc (.cells #[.int .i64 0,.float .f64 0,.string ⟨#[]⟩,.int .i64 0] 25)) w2→w2.heap[w.heap.size]?=some (.cells #[.int .i64 0,.float .f64 0,.string ⟨#[]⟩,.int .i64 0] 25 (0,0)):=fun w2 hp2=>bk_pur (bk_new _ _) hp2
 clear B B1 hob hiv h hx hk
 go_enter Tryz.func136,Tryz.ntmps136
 go_wp2_with fail
 refine AT'.mono ?_
 rintro e w1 ⟨rfl,rfl⟩
 go_wp2_with fail
 refine (IX _).mono ?_
 rintro e w2 ⟨rfl,h2⟩
 have k7:=hK7 _ h2
 have r0:=hK6 _ h2
 have c0:=bk_cell r0 0 _ rfl
 have c1:=bk_cell r0 1 _ rfl
 have c2:=bk_cell r0 2 _ rfl
 have c3:=bk_cell r0 3 _ rfl
 have f0:=bk_free r0 0
 have f1:=bk_free r0 1
 have f2:=bk_free r0 2
 have f3:=bk_free r0 3
 go_wp2_with fail
 refine bodyPost_ret (v:=.tuple #[.agg #[.int .i64 0,.float .f64 0,.string ⟨#[]⟩,.int .i64 0],.bool false]) (by simp [results,Tryz.results136,go_sem,c0,c1,c2,c3]) rfl ⟨rfl,?_⟩
 have hp2:=((Pur.refl w).alloc (.cells #[.int .i64 0,.float .f64 0,.string ⟨#[]⟩,.int .i64 0] 25)).trans h2
 repeat (first | exact hp2 | with_reducible refine Pur.setCell ?_ (Nat.le_refl _) _)
theorem own_item (s:Hs) (i:Int) (x:Ob) (key:List UInt8) (n:Nat) (w:World) (h:HpAt w s) (hx:s.d.obj i=some x) (hk:x.kind=2) (hkl:key.length≤1000000) (hne:¬ key=lenKey) (hix:index key=some n) (y:Va) (hy:x.items[n]?=some y) :
   Calls Tryz.prog 136 #[.pointer (some ⟨s.h,0,none⟩),.int .i64 i,.string ⟨key.toArray⟩] w fun e w'=>e=.returned (.tuple #[y.v,.bool true])∧Pur w w':=by
 obtain ⟨p,hp,hob,-⟩:=h.find hx
 obtain ⟨b,o,c,hiv,hb,hcell⟩:=item_cell (VRead.of_own hob.items) hy
 have hlt:(n:Int) < x.items.length:=by have:=(List.getElem?_eq_some_iff.1 hy).1;omega
 have hn0:(0:Int)≤n:=by omega
 obtain ⟨kk,nn,tt,rr⟩:=y
 have hI:∀ w2,Pur (w.alloc (.cells #[.int .i64 0,.float .f64 0,.string ⟨#[]⟩,.int .i64 0] 25)) w2→∀ (j:Nat) u,(Va.mk kk nn tt rr).cells[j]?=some u→w2.cell? ⟨b,o + n * 4 + j,none⟩=some u:=fun w2 hp2 j u hu=>by
   have:=hcell j u hu
   rw [← Nat.add_assoc] at this
   exact ((((Pur.refl w).alloc _).trans hp2).cell (p:=⟨b,o + n * 4 + j,none⟩) hb).trans this
 have B:=hob.own
 rw [hiv,hk] at B
 have B1:=bk_alloc B (.cells #[.int .i64 0,.float .f64 0,.string ⟨#[]⟩,.int .i64 0] 25)
 have k0:=bk_cell B1 0 _ rfl
 have AT':=at_any s i _ (h.pur ((Pur.refl w).alloc (.cells #[.int .i64 0,.float .f64 0,.string ⟨#[]⟩,.int .i64 0] 25)))
 rw [hp] at AT'
 have IX:=fun w=>index_any key w (by omega)
 rw [hix] at IX
 simp only [ix] at IX
 have q1:=eqkey_no hne
 unfold lenKey at q1 hne
 have hK7:∀ w2,Pur (w.alloc (.cells #[.int .i64 0,.float .f64 0,.string ⟨#[]⟩,.int .i64 0] 25)) w2→w2.cell? ⟨p.o,7,none⟩=some (.slice (some ⟨b,o,none⟩) x.items.length c):=fun w2 hp2=>bk_cell (bk_pur B1 hp2) 7 _ rfl
 have hK6:∀ w2,Pur (w.alloc (.cells #[.int .i64 0,.float .f64 0,.string ⟨#[]⟩,.int .i64 0] 25)) w2→w2.heap[w.heap.size]?=some (.cells #[.int .i64 0,.float .f64 0,.string ⟨#[]⟩,.int .i64 0] 25 (0,0)):=fun w2 hp2=>bk_pur (bk_new _ _) hp2
 clear B B1 hob hiv h hx hk hcell hb hy
 go_enter Tryz.func136,Tryz.ntmps136
 go_wp2_with fail
 refine AT'.mono ?_
 rintro e w1 ⟨rfl,rfl⟩
 go_wp2_with fail
 refine (IX _).mono ?_
 rintro e w2 ⟨rfl,h2⟩
 have k7:=hK7 _ h2
 have r0:=hK6 _ h2
 have c0:=bk_cell r0 0 _ rfl
 have c1:=bk_cell r0 1 _ rfl
 have c2:=bk_cell r0 2 _ rfl
 have c3:=bk_cell r0 3 _ rfl
 have f0:=bk_free r0 0
 have f1:=bk_free r0 1
 have f2:=bk_free r0 2
 have f3:=bk_free r0 3
 have g0:=hI _ h2 0 _ rfl
 have g1:=hI _ h2 1 _ rfl
 have g2:=hI _ h2 2 _ rfl
 have g3:=hI _ h2 3 _ rfl
 rw [Nat.add_zero] at g0
 go_wp2_with fail
 refine bodyPost_ret (v:=.tuple #[.agg #[.int .i64 kk,.float .f64 nn,.string ⟨tt.toArray⟩,.int .i64 rr],.bool true]) (by simp [results,Tryz.results136,go_sem,c0,c1,c2,c3]) rfl ⟨rfl,?_⟩
 have hp2:=((Pur.refl w).alloc (.cells #[.int .i64 0,.float .f64 0,.string ⟨#[]⟩,.int .i64 0] 25)).trans h2
 repeat (first | exact hp2 | with_reducible refine Pur.setCell ?_ (Nat.le_refl _) _)
theorem own_arr (s:Hs) (i:Int) (x:Ob) (key:List UInt8) (w:World) (h:HpAt w s) (hx:s.d.obj i=some x) (hk:x.kind=2) (hkl:key.length≤1000000) (hne:¬ key=lenKey) (hix:index key=none) :
   Calls Tryz.prog 136 #[.pointer (some ⟨s.h,0,none⟩),.int .i64 i,.string ⟨key.toArray⟩] w fun e w'=>e=.returned (.tuple #[((x.props key).getD Va.zero).v,.bool (x.props key).isSome])∧Pur w w':=by
 obtain ⟨p,hp,hob,-⟩:=h.find hx
 have B:=hob.own
 rw [hk] at B
 have B1:=bk_alloc B (.cells #[.int .i64 0,.float .f64 0,.string ⟨#[]⟩,.int .i64 0] 25)
 have k0:=bk_cell B1 0 _ rfl
 have AT':=at_any s i _ (h.pur ((Pur.refl w).alloc (.cells #[.int .i64 0,.float .f64 0,.string ⟨#[]⟩,.int .i64 0] 25)))
 rw [hp] at AT'
 have IX:=fun w=>index_any key w (by omega)
 rw [hix] at IX
 simp only [ix] at IX
 have q1:=eqkey_no hne
 unfold lenKey at q1 hne
 have hK6:∀ w2,Pur (w.alloc (.cells #[.int .i64 0,.float .f64 0,.string ⟨#[]⟩,.int .i64 0] 25)) w2→w2.cell? ⟨p.o,6,none⟩=some (.map (some p.m)):=fun w2 hp2=>bk_cell (bk_pur B1 hp2) 6 _ rfl
 have hR:∀ w2,Pur (w.alloc (.cells #[.int .i64 0,.float .f64 0,.string ⟨#[]⟩,.int .i64 0] 25)) w2→w2.heap[w.heap.size]?=some (.cells #[.int .i64 0,.float .f64 0,.string ⟨#[]⟩,.int .i64 0] 25 (0,0)):=fun w2 hp2=>bk_pur (bk_new _ _) hp2
 obtain ⟨D,hD,hf⟩:=hob.props
 have hD':∀ w2,Pur (w.alloc (.cells #[.int .i64 0,.float .f64 0,.string ⟨#[]⟩,.int .i64 0] 25)) w2→w2.ownsMap Tryz.prog 9 RV p.m x.keys.length D:=fun w2 hp2=>World.ownsMap_same hD ((((Pur.refl w).alloc _).trans hp2).block _ hD.lt)
 obtain ⟨f1,f2⟩:=hf key
 have f3:D.atKey (.string key) (.held Va.zero)=.held ((x.props key).getD Va.zero):=by
   rw [f2];cases x.props key <;> rfl
 have hkey:=key_lit (k:=key) (by unfold maxLen;omega)
 generalize (x.props key).isSome=bo at *
 obtain ⟨y,hy⟩:∃ y,(x.props key).getD Va.zero=y:=⟨_,rfl⟩
 rw [hy] at f3 ⊢
 obtain ⟨kk,nn,tt,rr⟩:=y
 have hz:=RV_v Va.zero
 clear B B1 hob h hx hf hD hy f2 hk
 go_enter Tryz.func136,Tryz.ntmps136
 go_wp2_with fail
 refine AT'.mono ?_
 rintro e w1 ⟨rfl,rfl⟩
 go_wp2_with fail
 refine (IX _).mono ?_
 rintro e w2 ⟨rfl,h2⟩
 have k6:=hK6 _ h2
 have r0:=hR _ h2
 have m2:=hD' _ h2
 have b1:=bk_alloc r0 (.cells #[.int .i64 kk,.float .f64 nn,.string ⟨tt.toArray⟩,.int .i64 rr] 25)
 have j0:=bk_free b1 0
 have j1:=bk_free b1 1
 have j2:=bk_free b1 2
 have j3:=bk_free b1 3
 have c0:=bk_cell b1 0 _ rfl
 have c1:=bk_cell b1 1 _ rfl
 have c2:=bk_cell b1 2 _ rfl
 have c3:=bk_cell b1 3 _ rfl
 go_wp2_with (at_lookup;refine wpList_lookup_own_ok _ rfl _ _ 65 rfl 9 25 va_law Tryz.underlying65 _ (zero_va _) (.held Va.zero) [] hz p.m _ D rfl m2 _ _ rfl hkey ?_)
 intro v ps hv
 try rw [f3] at hv
 obtain rfl:=RV_inv hv
 try rw [f1]
 simp only [Va.v,Va.cells]
 go_wp2_with fail
 refine bodyPost_ret (v:=.tuple #[.agg #[.int .i64 kk,.float .f64 nn,.string ⟨tt.toArray⟩,.int .i64 rr],.bool bo]) (by simp [results,Tryz.results136,go_sem,c0,c1,c2,c3]) rfl ⟨rfl,?_⟩
 have hp2:=((Pur.refl w).alloc (.cells #[.int .i64 0,.float .f64 0,.string ⟨#[]⟩,.int .i64 0] 25)).trans h2
 repeat (first | exact hp2 | with_reducible refine Pur.setCell ?_ (Nat.le_refl _) _ | with_reducible refine Pur.alloc ?_ _)
theorem own_any (s:Hs) (i:Int) (key:List UInt8) (w:World) (h:HpAt w s) {G:Nat} (hok:s.d.Ok G) (hkl:key.length≤1000000) :
   Calls Tryz.prog 136 #[.pointer (some ⟨s.h,0,none⟩),.int .i64 i,.string ⟨key.toArray⟩] w fun e w'=>e=.returned (.tuple #[(s.d.own i key).1.v,.bool (s.d.own i key).2])∧Pur w w':=by
 unfold Hd.own
 rcases hx:s.d.obj i with _ | x
 · exact own_none s i key w h hx
 · have hb:=hok.mem (Hd.obj_mem hx).1
   show Calls _ _ _ _ fun e w'=>e=.returned (.tuple #[(x.own key).1.v,.bool (x.own key).2])∧Pur w w'
   unfold Ob.own
   by_cases hk:x.kind=2
   · by_cases hl:key=lenKey
     · rw [if_pos ⟨hk,hl⟩]
       subst hl
       exact own_len s i x w h hx hk hb.2
     · rw [if_neg (fun e=>hl e.2),if_pos hk]
       rcases hi:index key with _ | n
       · exact own_arr s i x key w h hx hk hkl hl hi
       · by_cases hn:n < x.items.length
         · have:=own_item s i x key n w h hx hk hkl hl hi _ (List.getElem?_eq_getElem hn)
           simp only [List.getElem?_eq_getElem hn,Option.getD_some,decide_eq_true hn]
           exact this
         · have:=own_out s i x key n w h hx hk hkl hl hi (by omega)
           simp only [List.getElem?_eq_none (Nat.le_of_not_lt hn),Option.getD_none,decide_eq_false hn]
           exact this
   · rw [if_neg (fun e=>hk e.1),if_neg hk]
     exact own_prop s i x key w h hx hk hkl
theorem own_pur (s:Hs) (i:Int) (key:List UInt8) (w:World) (h:HpAt w s) {G:Nat} (hok:s.d.Ok G) (hkl:key.length≤1000000) {R:Va × Bool} (hR:s.d.own i key=R) :
   Calls Tryz.prog 136 #[.pointer (some ⟨s.h,0,none⟩),.int .i64 i,.string ⟨key.toArray⟩] w fun e w'=>e=.returned (.tuple #[R.1.v,.bool R.2])∧Pur w w':=hR ▸ own_any s i key w h hok hkl
end Go.Proofs.YtgdolcoiihagfaaGreatDoor
