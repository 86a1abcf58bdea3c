/- Layer 8: an object that turns; the cells that are left. Layer 8: an object's items turned. Layer 8: (*Heap).resize. Layer 4: Whole cuts a number toward 0; a number as a length. Layer 8: the length that a number says. Layer 8: an object's properties and items turned; (*Heap).Put where nothing is put. Layer 8: (*Heap).Put: an array's length. Layer 8: an item stored. Layer 8: (*Heap).Put: an array's item. Layer 8: (*Heap).Put: an item beyond an array's end. Layer 8: (*Heap).Put: a property. Layer 8: (*Heap).Put: a new property. Layer 8: (*Heap).Put, whole. -/
import Derived.Test.YtgdolcoiihagfaaGreatDoorHaA
import Derived.Test.YtgdolcoiihagfaaGreatDoorApX
import Derived.Laws.OwnMore
import Derived.Maps.OwnSet
namespace Go.Proofs.YtgdolcoiihagfaaGreatDoor
open Go Go.RowKit
set_option linter.all false
set_option maxRecDepth 100000
set_option maxHeartbeats 100000000
def Hs.turn (s:Hs) (i:Nat) (p:Pl) (x:Ob):Hs:=⟨s.h,s.ov,s.ps.set i p,s.left,s.xs.set i x⟩
def Hs.less (s:Hs) (c:Int):Hs:=⟨s.h,s.ov,s.ps,c,s.xs⟩
theorem ptrs_set (ps:List Pl) (i:Nat) (p p':Pl) (hp:ps[i]?=some p) (ho:p'.o=p.o):ptrs (ps.set i p')=ptrs ps:=by
 unfold ptrs
 rw [List.map_set,ho]
 apply List.ext_getElem?
 intro j
 by_cases hj:j=i
 · subst hj
   have hl:=(List.getElem?_eq_some_iff.1 hp).1
   rw [List.getElem?_set_self (by simpa using hl),List.getElem?_map,hp]
   rfl
 · rw [List.getElem?_set_ne (fun e=>hj e.symm)]
theorem set_split {α:Type}:∀ (l:List α) (i:Nat) (a a':α),l[i]?=some a→∃ A B,l=A ++ a :: B∧l.set i a'=A ++ a' :: B
 | [],i,a,a',h=>by simp at h
 | b :: r,0,a,a',h=>by
   obtain rfl:b=a:=by simpa using h
   exact ⟨[],r,rfl,rfl⟩
 | b :: r,i + 1,a,a',h=>by
   obtain ⟨A,B,h1,h2⟩:=set_split r i a a' (by simpa using h)
   exact ⟨b :: A,B,by rw [h1];rfl,by rw [List.set_cons_succ,h2];rfl⟩
theorem nodup_turn {L A B K K':List Nat} (h:(L ++ (A ++ (K ++ B))).Nodup) (hk:K'.Nodup) (hd:∀ b∈K',b∈K∨b ∉ L ++ (A ++ (K ++ B))):(L ++ (A ++ (K' ++ B))).Nodup:=by
 simp only [List.nodup_append] at h ⊢
 obtain ⟨h1,⟨h2,⟨h3,h4,h5⟩,h6⟩,h7⟩:=h
 have out:∀ b∈K',(∀ a∈L,a≠b)∧(∀ a∈A,a≠b)∧(∀ a∈B,b≠a):=by
   intro b hb
   rcases hd b hb with hb | hb
   · exact ⟨fun a ha=>h7 a ha b (by simp [hb]),fun a ha=>h6 a ha b (by simp [hb]),fun a ha=>h5 b hb a ha⟩
   · simp only [List.mem_append,not_or] at hb
     exact ⟨fun a ha e=>hb.1 (e ▸ ha),fun a ha e=>hb.2.1 (e ▸ ha),fun a ha e=>hb.2.2.2 (e ▸ ha)⟩
 refine ⟨h1,⟨h2,⟨hk,h4,fun b hb a ha=>(out b hb).2.2 a ha⟩,?_⟩,?_⟩
 · intro a ha b hb
   rcases List.mem_append.1 hb with hb | hb
   · exact (out b hb).2.1 a ha
   · exact h6 a ha b (by simp [hb])
 · intro a ha b hb
   rcases List.mem_append.1 hb with hb | hb
   · exact h7 a ha b (by simp [hb])
   · rcases List.mem_append.1 hb with hb | hb
     · exact (out b hb).1 a ha
     · exact h7 a ha b (by simp [hb])
theorem HpAt.turn {w w':World} {s:Hs} (h:HpAt w s) {i:Nat} {p p':Pl} {x x':Ob} (hp:s.ps[i]?=some p) (hx:s.xs[i]?=some x) (hc:Chg p.blocks w w')
   (hob:ObIn w' p' x') (ho:p'.o=p.o) (hpn:p'.blocks.Nodup) (hnew:∀ b∈p'.blocks,b∈p.blocks∨w.heap.size≤b):HpAt w' (s.turn i p' x')∧Step w s w' (s.turn i p' x'):=by
 have hap:=h.apart
 obtain ⟨A,B,hA,hB⟩:=set_split s.ps i p p' hp
 have e1:s.blocks=(s.h :: s.ov.ownBlock.toList) ++ (A.flatMap Pl.blocks ++ (p.blocks ++ B.flatMap Pl.blocks)):=by
   unfold Hs.blocks;rw [hA];simp
 have e2:(s.turn i p' x').blocks=(s.h :: s.ov.ownBlock.toList) ++ (A.flatMap Pl.blocks ++ (p'.blocks ++ B.flatMap Pl.blocks)):=by
   unfold Hs.blocks Hs.turn;simp only;rw [hB];simp
 have hmem:=List.mem_of_getElem? hp
 have hsub:∀ b∈p.blocks,b∈s.blocks:=fun b hb=>mem_blocks hmem hb
 have hl:=(List.getElem?_eq_some_iff.1 hp).1
 have hout:∀ b,w.heap.size≤b→b ∉ s.blocks:=fun b hb hm=>by have:=h.lt b hm;omega
 rw [e1] at hap
 have hL:∀ b∈s.h :: s.ov.ownBlock.toList,b ∉ p.blocks:=fun b hb hb'=>by
   rw [List.nodup_append] at hap
   exact hap.2.2 b hb b (by simp [hb']) rfl
 have hAB:∀ b,b∈A.flatMap Pl.blocks∨b∈B.flatMap Pl.blocks→b ∉ p.blocks:=fun b hb hb'=>by
   rw [List.nodup_append,List.nodup_append,List.nodup_append] at hap
   rcases hb with hb | hb
   · exact hap.2.1.2.2 b hb b (by simp [hb']) rfl
   · exact hap.2.1.2.1.2.2 b hb' b hb rfl
 refine ⟨⟨?_,?_,?_,?_,?_⟩,⟨?_,rfl,?_⟩⟩
 · exact (hc.block _ (bk_lt h.own) (hL _ (by simp))).trans h.own
 · have:=World.ownsRow_same h.row (fun g hg=>hc.block g (h.row.lt g hg).2 (hL g (by simp [hg])))
   show World.ownsRow w' 0 _ 1 s.ov (s.ps.set i p').length (ptrs (s.ps.set i p'))
   rw [List.length_set,ptrs_set _ _ _ _ hp ho]
   exact this
 · simp [Hs.turn,h.len]
 · intro j q y hq hy
   simp only [Hs.turn] at hq hy
   by_cases hj:j=i
   · subst hj
     rw [List.getElem?_set_self hl] at hq
     rw [List.getElem?_set_self (by rw [h.len];exact hl)] at hy
     cases hq
     cases hy
     exact hob
   · rw [List.getElem?_set_ne (fun e=>hj e.symm)] at hq hy
     have hin:=h.each j q y hq hy
     refine hin.same fun b hb=>hc.block b (hin.lt b hb) (hAB b ?_)
     have hq':(s.ps.set i p')[j]?=some q:=by rw [List.getElem?_set_ne (fun e=>hj e.symm)];exact hq
     have hq2:=hq
     rw [hA] at hq2
     have hAl:A.length=i:=by
       have e3:=congrArg List.length hA
       have e4:(A ++ p' :: B)[A.length]?=some p':=by simp
       have e5:(A ++ p :: B)[i]?=some p:=by rw [← hA];exact hp
       by_cases hlt:A.length < i
       · exfalso
         have e6:(s.ps.set i p)[i]?=some p:=by rw [List.getElem?_set_self hl]
         have e7:s.ps[A.length]?=some p:=by rw [hA];simp
         have d:=hap
         have e8:B[i - A.length - 1]?=some p:=by
           rw [List.getElem?_append_right (by omega)] at e5
           rw [show i - A.length=(i - A.length - 1) + 1 by omega] at e5
           simpa using e5
         exact hAB p.o (.inr (List.mem_flatMap.2 ⟨p,List.mem_of_getElem? e8,by simp [Pl.blocks]⟩)) (by simp [Pl.blocks])
       · by_cases hgt:i < A.length
         · exfalso
           rw [List.getElem?_append_left hgt] at e5
           exact hAB p.o (.inl (List.mem_flatMap.2 ⟨p,List.mem_of_getElem? e5,by simp [Pl.blocks]⟩)) (by simp [Pl.blocks])
         · omega
     by_cases hjl:j < A.length
     · rw [List.getElem?_append_left hjl] at hq2
       exact .inl (List.mem_flatMap.2 ⟨q,List.mem_of_getElem? hq2,hb⟩)
     · rw [List.getElem?_append_right (by omega)] at hq2
       rw [show j - A.length=(j - A.length - 1) + 1 by omega] at hq2
       exact .inr (List.mem_flatMap.2 ⟨q,List.mem_of_getElem? (by simpa using hq2),hb⟩)
 · rw [e2]
   refine nodup_turn hap hpn fun b hb=>?_
   rcases hnew b hb with hb | hb
   · exact .inl hb
   · exact .inr (by rw [← e1];exact hout b hb)
 · exact ⟨hc.os,hc.tape,hc.output,hc.size,fun k hk hn=>hc.block k hk (fun hm=>hn (hsub k hm))⟩
 · intro b hb
   rw [e2] at hb
   rw [e1]
   simp only [List.mem_append] at hb ⊢
   rcases hb with hb | hb | hb | hb
   · exact .inl (.inl hb)
   · exact .inl (.inr (.inl hb))
   · rcases hnew b hb with hb | hb
     · exact .inl (.inr (.inr (.inl hb)))
     · exact .inr hb
   · exact .inl (.inr (.inr (.inr hb)))
theorem HpAt.less {w:World} {s:Hs} (h:HpAt w s) (c:Int):HpAt (w.setCell ⟨s.h,1,none⟩ (.int .i64 c)) (s.less c)∧Step w s (w.setCell ⟨s.h,1,none⟩ (.int .i64 c)) (s.less c):=by
 have hap:=h.apart
 unfold Hs.blocks at hap
 rw [List.nodup_cons] at hap
 have keep:∀ b,b≠s.h→(w.setCell ⟨s.h,1,none⟩ (.int .i64 c)).heap[b]?=w.heap[b]?:=fun b hb=>RowKit.Below.heap_setCell _ _ _ _ hb
 refine ⟨⟨bk_set h.own 1 _,?_,h.len,fun j q y hq hy=>?_,h.apart⟩,⟨⟨rfl,rfl,rfl,by simp [World.setCell],fun k hk hn=>keep k (fun e=>hn (by rw [e];simp [Hs.blocks]))⟩,rfl,fun b hb=>.inl hb⟩⟩
 · exact World.ownsRow_same h.row (fun g hg=>keep g (fun e=>hap.1 (List.mem_append_left _ (by rw [← e,show s.ov.ownBlock=some g from hg];simp))))
 · exact (h.each j q y hq hy).same fun b hb=>keep b (fun e=>hap.1 (List.mem_append_right _ (List.mem_flatMap.2 ⟨q,List.mem_of_getElem? hq,e ▸ hb⟩)))
theorem HpAt.pl {w:World} {s:Hs} (h:HpAt w s) {i:Int} {x:Ob} (hx:s.d.obj i=some x):∃ p,s.ps[i.toNat]?=some p∧s.xs[i.toNat]?=some x∧s.at i=some ⟨p.o,0,none⟩∧ObIn w p x:=by
 obtain ⟨-,h0,h1,h2⟩:=Hd.obj_mem hx
 have h3:i.toNat < s.ps.length:=by have:=h.len;simp only [Hs.d] at h1;omega
 refine ⟨s.ps[i.toNat],List.getElem?_eq_getElem h3,h2,?_,h.each _ _ _ (List.getElem?_eq_getElem h3) h2⟩
 unfold Hs.at
 rw [if_neg (by omega),List.getElem?_eq_getElem h3]
 rfl
theorem turn_at (s:Hs) (i:Nat) (p p':Pl) (x':Ob) (hp:s.ps[i]?=some p) (ho:p'.o=p.o) (j:Int):(s.turn i p' x').at j=s.at j:=by
 unfold Hs.at Hs.turn
 simp only [List.length_set]
 by_cases h:j < 0∨(s.ps.length:Int)≤j
 · rw [if_pos h,if_pos h]
 · rw [if_neg h,if_neg h]
   by_cases hj:j.toNat=i
   · rw [hj,List.getElem?_set_self (List.getElem?_eq_some_iff.1 hp).1,hp]
     simp [ho]
   · rw [List.getElem?_set_ne (fun e=>hj e.symm)]
theorem pl_nodup {w:World} {s:Hs} (h:HpAt w s) {i:Nat} {p:Pl} (hp:s.ps[i]?=some p):p.blocks.Nodup:=by
 have hap:=h.apart
 unfold Hs.blocks at hap
 rw [List.nodup_cons,List.nodup_append] at hap
 obtain ⟨A,B,hA,-⟩:=set_split s.ps i p p hp
 have:=hap.2.2.1
 rw [hA,List.flatMap_append,List.flatMap_cons,List.nodup_append,List.nodup_append] at this
 exact this.2.1.1
theorem pl_head {w:World} {s:Hs} (h:HpAt w s) {i:Nat} {p:Pl} (hp:s.ps[i]?=some p):s.h ∉ p.blocks:=by
 have hap:=h.apart
 unfold Hs.blocks at hap
 rw [List.nodup_cons] at hap
 exact fun hm=>hap.1 (List.mem_append_right _ (List.mem_flatMap.2 ⟨p,List.mem_of_getElem? hp,hm⟩))
theorem Chg.sub {S T:List Nat} {w w':World} (h:Chg S w w') (hs:∀ b∈S,b∈T):Chg T w w':=⟨h.os,h.tape,h.output,h.size,fun k hk hn=>h.block k hk (fun hm=>hn (hs k hm))⟩
theorem Chg.purS {w w':World} (h:Pur w w') (S:List Nat):Chg S w w':=⟨h.os,h.tape,h.output,h.size,fun k hk _=>h.block k hk⟩
theorem Chg.grownS {w w':World} {r:Option Nat} (h:w.grownBy w' r):Chg r.toList w w':=⟨h.os,h.tape,h.output,h.size,fun k hk hn=>h.block k hk (fun e=>hn (by rw [← e];simp))⟩
theorem Chg.set (w:World) (a:Addr) (v:Value):Chg [a.block] w (w.setCell a v):=⟨rfl,rfl,rfl,by simp [World.setCell],fun k _ hn=>RowKit.Below.heap_setCell _ _ _ _ (by simpa using hn)⟩
theorem HpAt.items {w w2:World} {s:Hs} (h:HpAt w s) {i:Nat} {p:Pl} {x:Ob} (hp:s.ps[i]?=some p) (hx:s.xs[i]?=some x) {v':Value} {l:List Va}
   (hc:Chg (p.o :: p.iv.ownBlock.toList) w w2)
   (ho:w2.heap[p.o]?=some (.cells #[.int .i64 x.kind,.int .i64 x.proto,.int .i64 x.a,.int .i64 x.b,.int .i64 x.scope,p.kv,.map (some p.m),v'] 67 (0,0)))
   (hv:w2.ownsRow 0 25 4 v' l.length (l.flatMap Va.cells)) (hid:∀ b,v'.ownBlock=some b→p.iv.ownBlock=some b∨w.heap.size≤b) :
   HpAt w2 (s.turn i ⟨p.o,p.m,p.kv,v'⟩ { x with items:=l })∧Step w s w2 (s.turn i ⟨p.o,p.m,p.kv,v'⟩ { x with items:=l }):=by
 have hob:=h.each i p x hp hx
 have hnd:=pl_nodup h hp
 have hlt:=hob.lt
 unfold Pl.blocks at hnd
 simp only [List.nodup_cons,List.mem_cons,List.mem_append,not_or,Option.mem_toList] at hnd
 obtain ⟨⟨n1,n2,n3⟩,⟨n4,n5⟩,n6⟩:=hnd
 rw [List.nodup_append] at n6
 obtain ⟨n7,n8,n9⟩:=n6
 have kk:∀ g,p.kv.ownBlock=some g→w2.heap[g]?=w.heap[g]?:=fun g hg=>hc.block g (hlt g (by simp [Pl.blocks,hg])) (by
   simp only [List.mem_cons,Option.mem_toList,not_or]
   exact ⟨fun e=>n2 (e ▸ hg),fun e=>n9 g (by simp [hg]) g (by simpa using e) rfl⟩)
 refine h.turn hp hx (hc.sub fun b hb=>?_) ⟨ho,World.ownsRow_same hob.keys kk,hob.props.same (hc.block p.m (hlt p.m (by simp [Pl.blocks])) ?_),hv⟩ rfl ?_ ?_
 · rcases List.mem_cons.1 hb with rfl | hb
   · simp [Pl.blocks]
   · simp only [Pl.blocks,List.mem_cons,List.mem_append];exact .inr (.inr (.inr hb))
 · simp only [List.mem_cons,Option.mem_toList,not_or]
   exact ⟨fun e=>n1 e.symm,n5⟩
 · have f1:∀ b,v'.ownBlock=some b→b≠p.o∧b≠p.m∧p.kv.ownBlock≠some b:=fun b hb=>by
     rcases hid b hb with e | e
     · exact ⟨fun h=>n3 (h ▸ e),fun h=>n5 (h ▸ e),fun h=>n9 b (by simp [h]) b (by simp [e]) rfl⟩
     · refine ⟨fun h=>?_,fun h=>?_,fun h=>?_⟩
       · have:=hlt p.o (by simp [Pl.blocks]);omega
       · have:=hlt p.m (by simp [Pl.blocks]);omega
       · have:=hlt b (by simp [Pl.blocks,h]);omega
   unfold Pl.blocks
   simp only [List.nodup_cons,List.mem_cons,List.mem_append,not_or,Option.mem_toList,List.nodup_append]
   refine ⟨⟨n1,n2,fun e=>(f1 _ e).1 rfl⟩,⟨n4,fun e=>(f1 _ e).2.1 rfl⟩,n7,by cases v'.ownBlock <;> simp,fun a ha b hb e=>(f1 b hb).2.2 (by rw [← e];exact ha)⟩
 · intro b hb
   simp only [Pl.blocks,List.mem_cons,List.mem_append,Option.mem_toList] at hb ⊢
   rcases hb with rfl | rfl | hb | hb
   · exact .inl (.inl rfl)
   · exact .inl (.inr (.inl rfl))
   · exact .inl (.inr (.inr (.inl hb)))
   · rcases hid b hb with e | e
     · exact .inl (.inr (.inr (.inr e)))
     · exact .inr e
theorem HpAt.slice {w w1:World} {s:Hs} (h:HpAt w s) {i:Nat} {p:Pl} {x:Ob} (hp:s.ps[i]?=some p) (hx:s.xs[i]?=some x) {v':Value} {l:List Va}
   (hg:w.grownBy w1 p.iv.ownBlock) (hv:w1.ownsRow 0 25 4 v' l.length (l.flatMap Va.cells)) (hid:∀ b,v'.ownBlock=some b→p.iv.ownBlock=some b∨w.heap.size≤b) :
   HpAt (w1.setCell ⟨p.o,7,none⟩ v') (s.turn i ⟨p.o,p.m,p.kv,v'⟩ { x with items:=l })∧Step w s (w1.setCell ⟨p.o,7,none⟩ v') (s.turn i ⟨p.o,p.m,p.kv,v'⟩ { x with items:=l }):=by
 have hob:=h.each i p x hp hx
 have hnd:=pl_nodup h hp
 have hlt:=hob.lt
 unfold Pl.blocks at hnd
 simp only [List.nodup_cons,List.mem_cons,List.mem_append,not_or,Option.mem_toList] at hnd
 obtain ⟨⟨n1,n2,n3⟩,⟨n4,n5⟩,n6⟩:=hnd
 have ho1:=(hg.block p.o (hlt p.o (by simp [Pl.blocks])) (fun e=>n3 e.symm)).trans hob.own
 refine h.items hp hx (((Chg.grownS hg).sub (T:=p.o :: p.iv.ownBlock.toList) (fun b hb=>List.mem_cons_of_mem _ hb)).trans ((Chg.set w1 ⟨p.o,7,none⟩ v').sub (fun b hb=>by simp at hb;simp [hb]))) (bk_set ho1 7 v') ?_ hid
 refine World.ownsRow_same hv fun g hg'=>RowKit.Below.heap_setCell _ _ _ _ fun e=>?_
 simp only at e
 subst e
 rcases hid _ hg' with e | e
 · exact n3 e
 · have:=hlt p.o (by simp [Pl.blocks]);omega
theorem grown_pur {w w':World} (h:Pur w w') (r:Option Nat):w.grownBy w' r:=⟨h.os,h.tape,h.output,h.size,fun k hk _=>h.block k hk⟩
theorem va_info':(Tryz.prog.info? 25).map (fun i=>(i.zero.map (·.cells),i.size,i.bytes))=some (some Va.zero.cells.toArray,4,40):=by kernel_rfl
theorem zero_cells (m:Nat):(Builtin.zeroCells Va.zero.cells.toArray m).toList=(List.replicate m Va.zero).flatMap Va.cells:=by
 apply List.ext_getElem?
 intro j
 have hl:((List.replicate m Va.zero).flatMap Va.cells).length=m * 4:=by rw [va_len,List.length_replicate]
 by_cases hj:j < m * 4
 · have hv:=va_at (List.replicate m Va.zero) (j / 4) Va.zero (by rw [List.getElem?_replicate,if_pos (by omega)]) (j % 4) (Va.zero.cells[j % 4]'(Nat.mod_lt _ (by decide))) (List.getElem?_eq_getElem _)
   rw [show j / 4 * 4 + j % 4=j by omega] at hv
   rw [hv]
   have hs:Va.zero.cells.toArray.size=4:=rfl
   simp only [Builtin.zeroCells,hs,Array.getElem?_toList]
   rw [Array.getElem?_map,Array.getElem?_range,if_pos hj]
   simp only [Option.map_some]
   congr 1
   rw [getElem!_pos Va.zero.cells.toArray (j % 4) (Nat.mod_lt _ (by decide))]
   rfl
 · have hz:(Builtin.zeroCells Va.zero.cells.toArray m).toList.length=m * 4:=by simp [Builtin.zeroCells,Va.zero,Va.cells]
   rw [List.getElem?_eq_none (by rw [hz];omega),List.getElem?_eq_none (by rw [hl];omega)]
def Left (w:World) (s:Hs) (w':World) (d:Hd):Prop:=∃ s',HpAt w' s'∧Step w s w' s'∧s'.d=d∧∀ j,s'.at j=s.at j
theorem less_at (s:Hs) (c:Int) (j:Int):(s.less c).at j=s.at j:=rfl
theorem VRead.take {w:World} {v:Value} {vs:List Va} (h:VRead w v vs) {a:Option Addr} {m c:Nat} (hv:v=.slice a m c) (n:Nat) (hn:n≤vs.length) (hpos:vs≠[]) (c':Nat):VRead w (.slice a n c') (vs.take n):=by
 rcases h with ⟨rfl,rfl⟩ | ⟨b,o,c,rfl,hb,hc⟩
 · exact absurd rfl hpos
 · simp only [Value.slice.injEq] at hv
   obtain ⟨rfl,-,-⟩:=hv
   refine .inr ⟨b,o,c',?_,hb,fun j u hu=>hc j u ?_⟩
   · rw [List.length_take,Nat.min_eq_left hn]
   · have e:vs=vs.take n ++ vs.drop n:=(List.take_append_drop n vs).symm
     rw [e,List.flatMap_append,List.getElem?_append_left (List.getElem?_eq_some_iff.1 hu).1]
     exact hu
theorem resize_any (s:Hs) (i:Int) (x:Ob) (o n:Nat) (w:World) (h:HpAt w s) (hx:s.d.obj i=some x) (ho:s.at i=some ⟨o,0,none⟩) (hn:n≤2147483648) {G:Nat} (hok:s.d.Ok G) :
   Calls Tryz.prog 102 #[.pointer (some ⟨s.h,0,none⟩),.pointer (some ⟨o,0,none⟩),.int .i64 n] w fun e w' =>
     e=.returned (.int .i64 (s.d.resize i x n).1)∧Left w s w' (s.d.resize i x n).2:=by
 obtain ⟨p,hp,hxx,hat,hob⟩:=h.pl hx
 obtain rfl:p.o=o:=by rw [ho] at hat;simpa using hat.symm
 have hb:=hok.bounds
 have hil:=(hok.mem (Hd.obj_mem hx).1).2
 simp only [Hs.d] at hb
 obtain ⟨a,c,hiv⟩:=row_shape hob.items
 have Q7:∀ y:PW w,y.to.cell? ⟨p.o,7,none⟩=some (.slice a x.items.length c):=fun y=>bk_cell (bk_pur hob.own y.pur) 7 _ (by rw [← hiv];rfl)
 have Q1:∀ y:PW w,y.to.cell? ⟨s.h,1,none⟩=some (.int .i64 s.left):=fun y=>bk_cell (bk_pur h.own y.pur) 1 _ rfl
 have wr1:IntKind.i64.wrap ((n:Int) - x.items.length)=n - x.items.length:=IntWalk.i64_in _ (by omega)
 obtain ⟨R,hR⟩:∃ R,s.d.resize i x n=R:=⟨_,rfl⟩
 rw [hR]
 unfold Hd.resize at hR
 by_cases hlt:s.left < (n:Int) - x.items.length
 · rw [if_pos (show s.d.left < _ from hlt)] at hR
   subst hR
   have hfin:∀ w',Pur w w'→Left w s w' s.d:=fun w' hpp=>⟨s,h.pur hpp,Step.pur hpp,rfl,fun _=>rfl⟩
   have hd:=decide_eq_true hlt
   clear h hx ho hok hp hxx hat hob hiv
   go_enter Tryz.func102,Tryz.ntmps102
   go_wp2_with fail
   refine wp_region_pur (by kernel_rfl) (by kernel_rfl) ?_
   repeat (go_big_quiet_step (fail))
   refine wpQuiet_nil ?_
   intro w1 h1
   go_wp2
   go_ret
   exact ⟨rfl,hfin _ h1⟩
 · rw [if_neg (show ¬ s.d.left < _ from hlt)] at hR
   have hd:=decide_eq_false hlt
   have wr2:IntKind.i64.wrap (s.left - ((n:Int) - x.items.length))=s.left - (n - x.items.length):=IntWalk.i64_in _ (by omega)
   have LS:∀ w2,Pur w w2→HpAt (w2.setCell ⟨s.h,1,none⟩ (.int .i64 (s.left - ((n:Int) - x.items.length)))) (s.less (s.left - ((n:Int) - x.items.length)))∧Step w s (w2.setCell ⟨s.h,1,none⟩ (.int .i64 (s.left - ((n:Int) - x.items.length)))) (s.less (s.left - ((n:Int) - x.items.length))):=fun w2 h2 =>
     ⟨((h.pur h2).less (s.left - ((n:Int) - x.items.length))).1,(Step.pur h2).trans ((h.pur h2).less (s.left - ((n:Int) - x.items.length))).2⟩
   have hpl:(s.less (s.left - ((n:Int) - x.items.length))).ps[i.toNat]?=some p:=hp
   have hxl:(s.less (s.left - ((n:Int) - x.items.length))).xs[i.toNat]?=some x:=hxx
   have F1:∀ w2,Pur w w2→w2.frozen? ⟨s.h,1,none⟩=false∧w2.cell? ⟨s.h,1,none⟩=some (.int .i64 s.left):=fun w2 h2=>⟨bk_free (bk_pur h.own h2) 1,bk_cell (bk_pur h.own h2) 1 _ rfl⟩
   by_cases hs:n < x.items.length
   · have hsI:(n:Int) < x.items.length:=by omega
     have hxr:x.resize n={ x with items:=x.items.take n }:=by unfold Ob.resize;rw [if_pos hs]
     rw [hxr] at hR
     subst hR
     have hfin:∀ (w3 w4:World) (v':Value),HpAt w3 (s.less (s.left - ((n:Int) - x.items.length)))→Step w s w3 (s.less (s.left - ((n:Int) - x.items.length)))→Pur w3 w4→w4.ownsRow w3.heap.size 25 4 v' (x.items.take n).length ((x.items.take n).flatMap Va.cells)→Left w s (w4.setCell ⟨p.o,7,none⟩ v') (s.d.turn i { x with items:=x.items.take n } (s.left - ((n:Int) - x.items.length))):=fun w3 w4 v' h3 k3 hpp hv=>by
       have hlt3:=h3.lt
       have:=h3.slice hpl hxl (grown_pur hpp _) (row_low hv (Nat.zero_le _)) (fun b hb'=>.inr (hv.lt b hb').1)
       exact ⟨_,this.1,k3.trans this.2,rfl,fun j=>(turn_at (s.less (s.left - ((n:Int) - x.items.length))) i.toNat p ⟨p.o,p.m,p.kv,v'⟩ _ hpl rfl j).trans (less_at s _ j)⟩
     have hfr:∀ (w3:World),HpAt w3 (s.less (s.left - ((n:Int) - x.items.length)))→∀ w4,Pur w3 w4→w4.frozen? ⟨p.o,7,none⟩=false∧w4.cell? ⟨p.o,7,none⟩=some (.slice a x.items.length c)∧VRead w4 (.slice a n c) (x.items.take n):=fun w3 h3 w4 h4=>by
       have hb3:=(h3.pur h4).each _ _ _ hpl hxl
       refine ⟨bk_free hb3.own 7,bk_cell hb3.own 7 _ (by rw [← hiv];rfl),(VRead.of_own hb3.items).take hiv n (by omega) (fun e=>by rw [e] at hs;simp at hs) c⟩
     have CL:=fun w4 (hv:VRead w4 (.slice a n c) (x.items.take n))=>clone_any _ _ w4 hv (by rw [List.length_take];omega)
     have hcap:n≤c:=by
       rcases hob.items.2 with ⟨e1,e2⟩ | ⟨g,cap,cur,e1,-,-,e2,-⟩
       · omega
       · rw [hiv] at e1
         simp only [Value.slice.injEq] at e1
         omega
     have hcapI:(n:Int)≤c:=by omega
     clear h hx ho hok hp hxx hat hob hpl hxl hiv hxr hlt
     go_enter Tryz.func102,Tryz.ntmps102
     go_wp2_with fail
     refine wp_region_pur (by kernel_rfl) (by kernel_rfl) ?_
     repeat (go_big_quiet_step (fail))
     refine wpQuiet_nil ?_
     intro w1 h1
     have Q7':∀ y:PW w1,y.to.cell? ⟨p.o,7,none⟩=some (.slice a x.items.length c):=fun y=>Q7 ⟨y.to,h1.trans y.pur⟩
     have Q1':∀ y:PW w1,y.to.cell? ⟨s.h,1,none⟩=some (.int .i64 s.left):=fun y=>Q1 ⟨y.to,h1.trans y.pur⟩
     clear Q7 Q1
     go_wp2_with fail
     refine wp_region_pur_tail 12 (by kernel_rfl) (by kernel_rfl) ?_
     simp only [List.take_succ_cons,List.take_zero,List.drop_succ_cons,List.drop_zero]
     repeat (go_big_quiet_step (fail))
     refine wpQuiet_nil ?_
     intro w2 h2
     obtain ⟨f1,g1⟩:=F1 _ (h1.trans h2)
     obtain ⟨h3,k3⟩:=LS _ (h1.trans h2)
     obtain ⟨f7,q7,v7⟩:=hfr _ h3 _ (Pur.refl _)
     have CL':=CL _ v7
     have hfin':=fun w4 v'=>hfin _ w4 v' h3 k3
     have hfr':=hfr _ h3
     clear hfin hfr CL LS F1 h3 k3 v7 f7 Q7' Q1'
     go_wp2_with fail
     refine CL'.mono ?_
     rintro e w4 ⟨v',rfl,h4,hrow⟩
     obtain ⟨f7,q7',-⟩:=hfr' _ h4
     have HF:=hfin' w4 v' h4 hrow
     have hrow2:=hrow
     rw [show (x.items.take n).length=n by rw [List.length_take];omega] at hrow2
     obtain ⟨a3,c3,rfl⟩:=row_shape hrow2
     clear hrow2
     clear CL' hfin' hfr' hrow q7 f1 g1
     go_wp2
     go_ret
     exact ⟨rfl,HF⟩
   · obtain ⟨m,hnm⟩:∃ m,n=x.items.length + m:=⟨n - x.items.length,by omega⟩
     have hm:m≤10000:=by omega
     have hsI:¬ (n:Int) < x.items.length:=by omega
     have hsD:decide ((n:Int) < x.items.length)=false:=decide_eq_false hsI
     have hxr:x.resize n={ x with items:=x.items ++ List.replicate m Va.zero }:=by
       unfold Ob.resize;rw [if_neg hs,hnm,Nat.add_sub_cancel_left]
     rw [hxr] at hR
     subst hR
     obtain ⟨i0,hi,hz⟩:=Option.map_eq_some_iff.1 va_info'
     simp only [Prod.mk.injEq] at hz
     obtain ⟨hz0,hz1,hz2⟩:=hz
     obtain ⟨z0,hz0,hzs⟩:=Option.map_eq_some_iff.1 hz0
     have hlen:(x.items ++ List.replicate m Va.zero).length=x.items.length + m:=by simp
     have hfin:∀ (w3 w4 w5:World) (v':Value),HpAt w3 (s.less (s.left - ((n:Int) - x.items.length)))→Step w s w3 (s.less (s.left - ((n:Int) - x.items.length)))→Pur w3 w4→w4.grownBy w5 (Value.slice a x.items.length c).ownBlock→w5.ownsRow 0 25 4 v' n (x.items.flatMap Va.cells ++ (Builtin.zeroCells z0.cells m).toList)→(v'.ownBlock=(Value.slice a x.items.length c).ownBlock∨v'.ownBlock=some w4.heap.size)→Left w s (w5.setCell ⟨p.o,7,none⟩ v') (s.d.turn i { x with items:=x.items ++ List.replicate m Va.zero } (s.left - ((n:Int) - x.items.length))):=fun w3 w4 w5 v' h3 k3 hpp hg hv hid=>by
       have h4:=h3.pur hpp
       have hv2:=hv
       rw [hzs,zero_cells,← List.flatMap_append,hnm,← hlen] at hv2
       rw [← hiv] at hg hid
       have:=h4.slice hpl hxl hg hv2 (fun b hb'=>by
         rcases hid with e | e
         · exact .inl (e ▸ hb')
         · rw [hb'] at e;simp only [Option.some.injEq] at e;exact .inr (by omega))
       exact ⟨_,this.1,k3.trans ((Step.pur hpp).trans this.2),rfl,fun j=>(turn_at (s.less (s.left - ((n:Int) - x.items.length))) i.toNat p ⟨p.o,p.m,p.kv,v'⟩ _ hpl rfl j).trans (less_at s _ j)⟩
     have hfr:∀ (w3:World),HpAt w3 (s.less (s.left - ((n:Int) - x.items.length)))→∀ w4,Pur w3 w4→w4.heap[p.o]?=some (.cells #[.int .i64 x.kind,.int .i64 x.proto,.int .i64 x.a,.int .i64 x.b,.int .i64 x.scope,p.kv,.map (some p.m),.slice a x.items.length c] 67 (0,0))∧w4.ownsRow 0 25 4 (.slice a x.items.length c) x.items.length (x.items.flatMap Va.cells):=fun w3 h3 w4 h4=>by
       have hb3:=(h3.pur h4).each _ _ _ hpl hxl
       rw [← hiv]
       exact ⟨hb3.own,hb3.items⟩
     have hne:(Value.slice a x.items.length c).ownBlock≠some p.o:=by
       rw [← hiv]
       have:=pl_nodup h hp
       unfold Pl.blocks at this
       intro e
       rw [e] at this
       simp at this
     clear h hx ho hok hp hxx hat hob hpl hxl hiv hxr hlt hs hlen
     have HN:=Lib.hid hnm
     have hmI:Hid ((n:Int) - x.items.length=m):=Lib.hid (by omega)
     clear hnm
     go_enter Tryz.func102,Tryz.ntmps102
     go_wp2_with fail
     refine wp_region_pur (by kernel_rfl) (by kernel_rfl) ?_
     repeat (go_big_quiet_step (fail))
     refine wpQuiet_nil ?_
     intro w1 h1
     have Q7':∀ y:PW w1,y.to.cell? ⟨p.o,7,none⟩=some (.slice a x.items.length c):=fun y=>Q7 ⟨y.to,h1.trans y.pur⟩
     have Q1':∀ y:PW w1,y.to.cell? ⟨s.h,1,none⟩=some (.int .i64 s.left):=fun y=>Q1 ⟨y.to,h1.trans y.pur⟩
     clear Q7 Q1
     go_wp2_with fail
     refine wp_region_pur_tail 12 (by kernel_rfl) (by kernel_rfl) ?_
     simp only [List.take_succ_cons,List.take_zero,List.drop_succ_cons,List.drop_zero]
     repeat (go_big_quiet_step (fail))
     refine wpQuiet_nil ?_
     intro w2 h2
     obtain ⟨f1,g1⟩:=F1 _ (h1.trans h2)
     obtain ⟨h3,k3⟩:=LS _ (h1.trans h2)
     have q7:=bk_cell (hfr _ h3 _ (Pur.refl _)).1 7 _ rfl
     have Q7:∀ y:PW (w2.setCell ⟨s.h,1,none⟩ (.int .i64 (s.left - ((n:Int) - x.items.length)))),y.to.cell? ⟨p.o,7,none⟩=some (.slice a x.items.length c):=fun y=>bk_cell (hfr _ h3 _ y.pur).1 7 _ rfl
     have hfin':=fun w4 w5 v'=>hfin _ w4 w5 v' h3 k3
     have hfr':=hfr _ h3
     clear hfin hfr LS F1 h3 k3 Q7' Q1'
     go_wp2_with fail
     clear f1 g1 q7
     refine wp_region_pur_tail_m 12 [0] [1,2,3,4,5,6,7,8,9,10,11] (by kernel_rfl) (by kernel_rfl) (fun d _ _ _ _ h=>by cases d <;> exact h) ?_
     simp only [List.filterMap_cons,List.filterMap_nil,List.getElem?_cons_succ,List.getElem?_cons_zero,List.drop_succ_cons,List.drop_zero,putM,isMove,List.foldl_cons,List.foldl_nil]
     repeat (quiet_step (fail))
     refine wpQuiet_nil ?_
     intro w4 h4
     obtain ⟨B4,R4⟩:=hfr' _ h4
     refine wpList_append_own_zeros _ rfl _ _ 22 3 rfl 0 25 .i64 .i64 i0 z0 4 40 Tryz.underlying22 Tryz.underlying3 hi hz0 hz1 hz2 (by rw [hzs];rfl) (by decide) (by rw [hzs];simp [Va.zero,Va.cells,Value.oneCell']) _ _ _ rfl R4 m ?cx ?c1 ?c2 (Nat.zero_le _) ?_
     case cx=>exact congrArg (Value.int IntKind.i64) hmI.out
     case c1=>have:=HN.out;unfold maxLen;omega
     case c2=>have:=HN.out;omega
     rw [← HN.out]
     intro v5 w5 hown5 hgrow hid
     have B5:=(hgrow.block _ (bk_lt B4) (fun e=>hne e.symm)).trans B4
     have f7:=bk_free B5 7
     have q7:=bk_cell B5 7 _ rfl
     have HF:=hfin' w4 w5 v5 h4 hgrow hown5 hid
     obtain ⟨a5,c5,rfl⟩:=row_shape hown5
     clear hfin' hfr' hown5 hgrow hid B4 B5 R4 Q7
     go_wp2
     go_ret
     exact ⟨rfl,HF⟩
theorem nan_order (s:Bool) (t:Nat) (d:Ieee.Datum):(Ieee.Datum.nan s t).order d=none:=by cases d <;> rfl
theorem trunc_ext (x:Nat) (h:nanB x=false) (w:World):(Go.Extern.MathFloor.toIntegral "math.archTrunc" .zero #[.float .f64 x]).run Tryz.prog w=.ok (.float .f64 (FloatKind.f64.encode ((FloatKind.f64.decode x).integral .zero))) w:=by
 unfold nanB at h
 have e:FloatKind.f64.format.order x x=(FloatKind.f64.decode x).order (FloatKind.f64.decode x):=rfl
 rw [e] at h
 conv=>lhs;arg 2;whnf
 rcases hd:FloatKind.f64.decode x with ⟨s,m,i⟩ | s | ⟨s,t⟩
 · rfl
 · rfl
 · rw [hd,nan_order] at h
   simp at h
theorem trunc_any (x:Nat) (h:nanB x=false) (w:World):Calls Tryz.prog 137 #[.float .f64 x] w fun e w'=>e=.returned (.float .f64 (FloatKind.f64.encode ((FloatKind.f64.decode x).integral .zero)))∧w=w':=by
 have h6:=@run_callFunc_extern Tryz.prog 162 _ (Go.Extern.MathFloor.toIntegral "math.archTrunc" .zero) Tryz.func162 (by kernel_rfl) (by kernel_rfl) (by kernel_rfl) (by kernel_rfl)
 have fb:=trunc_ext x h
 go_enter Tryz.func137,Tryz.ntmps137
 go_wp2
 go_ret
 exact ⟨rfl,rfl⟩
theorem whole_any (x:Nat) (w:World):Calls Tryz.prog 101 #[.float .f64 x] w fun e w'=>e=.returned (.float .f64 (wholeB x))∧w=w':=by
 unfold wholeB
 obtain ⟨b,hb⟩:∃ b,nanB x=b:=⟨_,rfl⟩
 have hb':(FloatKind.f64.format.order x x != some Ordering.eq)=b:=hb
 have T:=fun hn=>trunc_any x hn w
 rw [hb] at T ⊢
 rcases b with _ | _
 · have T':=T rfl
   clear T hb
   go_enter Tryz.func101,Tryz.ntmps101
   go_wp2_with fail
   refine T'.mono ?_
   rintro e w' ⟨rfl,rfl⟩
   go_wp2
   go_ret
   exact ⟨by simp,rfl⟩
 · clear T hb
   go_enter Tryz.func101,Tryz.ntmps101
   go_wp2
   go_ret
   exact ⟨by simp,rfl⟩
theorem cut_zero (s:Bool) (N drop B:Nat) (h:N < B * 2 ^ drop):Ieee.Toward.zero.cut s N drop < max B 1:=by
 unfold Ieee.Toward.cut
 simp only [Bool.toNat_false,Nat.add_zero,Nat.shiftLeft_eq,Nat.one_mul]
 by_cases hd:drop≤N.log2 + 2
 · rw [Nat.min_eq_left hd]
   have:N / 2 ^ drop < B:=(Nat.div_lt_iff_lt_mul (Nat.two_pow_pos _)).2 h
   omega
 · rw [Nat.min_eq_right (by omega)]
   have h1:N < 2 ^ (N.log2 + 2):=by
     have h2:N < 2 ^ (N.log2 + 1):=Nat.lt_log2_self
     have h3:2 ^ (N.log2 + 1)≤2 ^ (N.log2 + 2):=Nat.pow_le_pow_right (by decide) (by omega)
     omega
   rw [Nat.div_eq_of_lt h1]
   omega
theorem signed_nonneg {s:Bool} {m k:Nat} (h:¬ Ieee.signed s m k < 0):s=false∨m=0:=by
 cases s with
 | false=>exact .inl rfl
 | true =>
   right
   unfold Ieee.signed at h
   simp only [if_true,Nat.shiftLeft_eq] at h
   have:m * 2 ^ k=0:=by omega
   rcases Nat.mul_eq_zero.1 this with h | h
   · exact h
   · exact absurd h (Nat.pos_iff_ne_zero.1 (Nat.two_pow_pos _))
theorem cmp_lt {a b:Int} (h:¬ some (compare a b)=some Ordering.lt):¬ a < b:=fun hlt=>h (by rw [Int.compare_eq_lt.2 hlt])
theorem zero_datum:FloatKind.f64.decode 0=.number false 0 (-1074):=by kernel_rfl
theorem most_datum:FloatKind.f64.decode 4746794007244308480=.number false (2147483647 * 2 ^ 22) (-22):=by kernel_rfl
theorem toInt_small (d:Ieee.Datum) (hn:d.order d=some .eq) (h0:¬ d.order (FloatKind.f64.decode 0)=some .lt) (h1:¬ (FloatKind.f64.decode 4746794007244308480).order d=some .lt):∃ n:Nat,d.toInt .zero=some (n:Int)∧n≤2147483647:=by
 rw [zero_datum] at h0
 rw [most_datum] at h1
 cases d with
 | nan s t=>rw [nan_order] at hn;cases hn
 | infinity s =>
   exfalso
   simp only [Ieee.Datum.order] at h0 h1
   cases s <;> simp at h0 h1
 | number s m i =>
   simp only [Ieee.Datum.order] at h0 h1
   have e0:=cmp_lt h0
   have e1:=cmp_lt h1
   have z:∀ k,Ieee.signed false 0 k=0:=fun k=>by simp [Ieee.signed]
   rw [z] at e0
   have hs:=signed_nonneg e0
   have hpos:∀ k,Ieee.signed s m k=((m * 2 ^ k:Nat):Int):=fun k=>by
     rcases hs with rfl | rfl
     · simp [Ieee.signed,Nat.shiftLeft_eq]
     · cases s <;> simp [Ieee.signed]
   rw [hpos] at e1
   have hM:∀ k,Ieee.signed false (2147483647 * 2 ^ 22) k=((2147483647 * 2 ^ 22 * 2 ^ k:Nat):Int):=fun k=>by simp [Ieee.signed,Nat.shiftLeft_eq]
   rw [hM] at e1
   have e2:m * 2 ^ (i - min (-22) i).toNat≤2147483647 * 2 ^ 22 * 2 ^ (-22 - min (-22) i).toNat:=by omega
   clear e0 e1 h0 h1 hn hM
   obtain ⟨N,hN⟩:∃ N,Ieee.Toward.zero.cut s (m <<< i.toNat) (-i).toNat=N:=⟨_,rfl⟩
   have hb:N < 2147483648:=by
     have:=cut_zero s (m <<< i.toNat) (-i).toNat 2147483648 ?_
     · rw [hN] at this;omega
     · rw [Nat.shiftLeft_eq]
       by_cases hi:i < -22
       · have a1:min (-22) i=i:=by omega
         rw [a1,Int.sub_self] at e2
         have a2:i.toNat=0:=by omega
         rw [a2]
         have a3:(-i).toNat=22 + (-22 - i).toNat:=by omega
         rw [a3,Nat.pow_add]
         simp only [Int.toNat_zero,Nat.pow_zero,Nat.mul_one] at e2 ⊢
         have:=Nat.two_pow_pos (-22 - i).toNat
         have a4:2147483647 * 2 ^ 22 * 2 ^ (-22 - i).toNat < 2147483648 * (2 ^ 22 * 2 ^ (-22 - i).toNat):=by
           rw [Nat.mul_assoc]
           exact Nat.mul_lt_mul_of_pos_right (by decide) (Nat.mul_pos (by decide) this)
         omega
       · have a1:min (-22) i=-22:=by omega
         rw [a1] at e2
         simp only [Int.sub_self,Int.toNat_zero,Nat.pow_zero,Nat.mul_one] at e2
         have a5:(i - -22).toNat + (-i).toNat=22 + i.toNat:=by omega
         by_cases hi0:0≤i
         · have a6:(-i).toNat=0:=by omega
           have a7:(i - -22).toNat=22 + i.toNat:=by omega
           rw [a7,Nat.pow_add,← Nat.mul_assoc,Nat.mul_right_comm] at e2
           rw [a6]
           have a8:m * 2 ^ i.toNat≤2147483647:=Nat.le_of_mul_le_mul_right e2 (by decide)
           omega
         · have a6:i.toNat=0:=by omega
           rw [a6]
           have a7:(i - -22).toNat + (-i).toNat=22:=by omega
           have a8:m * 2 ^ (i - -22).toNat < 2147483648 * 2 ^ (-i).toNat * 2 ^ (i - -22).toNat:=by
             rw [Nat.mul_assoc,← Nat.pow_add,Nat.add_comm (-i).toNat,a7]
             exact Nat.lt_of_le_of_lt e2 (by decide)
           have:=Nat.lt_of_mul_lt_mul_right a8
           simpa using this
   refine ⟨N,?_,by omega⟩
   unfold Ieee.Datum.toInt Ieee.Datum.integral
   simp only [hN]
   congr 1
   rcases hs with rfl | rfl
   · simp [Ieee.signed]
   · have:N=0:=by
       rw [← hN]
       have:=cut_zero s (0 <<< i.toNat) (-i).toNat 0
       simp [Ieee.Toward.cut]
     rw [this]
     cases s <;> simp [Ieee.signed]
theorem eq_self_of {d e:Ieee.Datum} (h:d.order e=some .eq):e.order e=some .eq:=by
 cases e with
 | number s m i=>simp [Ieee.Datum.order]
 | infinity s=>simp [Ieee.Datum.order]
 | nan s t=>cases d <;> cases h
theorem order_swap {d e:Ieee.Datum} (h:d.order e=some .lt):e.order d=some .gt:=by
 cases d with
 | nan s t=>rw [nan_order] at h;cases h
 | infinity s =>
   cases e with
   | nan s t=>cases h
   | infinity t=>cases s <;> cases t <;> simp [Ieee.Datum.order] at h ⊢ <;> first | rfl | (exact absurd h (by decide))
   | number t n j=>cases s <;> simp [Ieee.Datum.order] at h ⊢
 | number s m i =>
   cases e with
   | nan s t=>cases h
   | infinity t=>cases t <;> simp [Ieee.Datum.order] at h ⊢
   | number t n j =>
     simp only [Ieee.Datum.order,Option.some.injEq] at h ⊢
     rw [Int.compare_eq_lt] at h
     rw [Int.compare_eq_gt,Int.min_comm j i]
     exact h
theorem lenOf_some {v:Va} {n:Nat} (h:lenOf v=some n):v.kind=3∧eqB (wholeB v.num) v.num=true∧ltB v.num 0=false∧gtB v.num 4746794007244308480=false∧(FloatKind.f64.decode v.num).toInt .zero=some (n:Int)∧n≤2147483647:=by
 unfold lenOf at h
 split at h
 · next hc =>
   obtain ⟨h1,h2,h3,h4⟩:=hc
   have e:FloatKind.f64.format.order (wholeB v.num) v.num=some .eq:=by unfold eqB at h2;simpa using h2
   obtain ⟨k,hk,hle⟩:=toInt_small (FloatKind.f64.decode v.num) (eq_self_of (d:=FloatKind.f64.decode (wholeB v.num)) e) (fun hl=>by unfold ltB at h3;rw [show FloatKind.f64.format.order v.num 0=some .lt from hl] at h3;simp at h3) (fun hl=>by unfold gtB at h4;rw [show FloatKind.f64.format.order v.num 4746794007244308480=some .gt from order_swap hl] at h4;simp at h4)
   rw [hk] at h
   simp at h
   subst h
   exact ⟨h1,h2,h3,h4,hk,hle⟩
 · cases h
theorem lenOf_none {v:Va} (h:lenOf v=none):¬ v.kind=3∨eqB (wholeB v.num) v.num=false∨ltB v.num 0=true∨gtB v.num 4746794007244308480=true:=by
 unfold lenOf at h
 split at h
 · cases h
 · next hc =>
   by_cases h1:v.kind=3
   · rcases h2:eqB (wholeB v.num) v.num with _ | _
     · exact .inr (.inl rfl)
     · rcases h3:ltB v.num 0 with _ | _
       · rcases h4:gtB v.num 4746794007244308480 with _ | _
         · exact absurd ⟨h1,h2,h3,h4⟩ hc
         · exact .inr (.inr (.inr rfl))
       · exact .inr (.inr (.inl rfl))
   · exact .inl h1
theorem Left.after {w w3 w':World} {s:Hs} {d:Hd} (hp:Pur w w3) (h:Left w3 s w' d):Left w s w' d:=by
 obtain ⟨s',h1,h2,h3⟩:=h
 exact ⟨s',h1,(Step.pur hp).trans h2,h3⟩
theorem MapAt.put {w w':World} {m n n':Nat} {f:List UInt8→Option Va} {D:DataW Va} {k:List UInt8} {x:Va} (hD:w.ownsMap Tryz.prog 9 RV m n D)
   (hf:∀ k,Maps.has D (.string k)=(f k).isSome∧∀ z,D.atKey (.string k) z=((f k).map DataW.held).getD z)
   (h':w'.ownsMap Tryz.prog 9 RV m (n + 1) (D.put (.string k) (.held x))) (hn:n'=if (f k).isSome=true then n else n + 1):MapAt w' m n' (upd f k (some x)):=by
 have hs:=hD.size_le
 have ht:w'.ownsMap Tryz.prog 9 RV m n' (D.put (.string k) (.held x)):=by
   refine (World.ownsMap_tight h').mono ?_
   rw [Maps.size_put (hD.tidy va_law),(hf k).1,hn]
   split <;> omega
 refine ⟨_,ht,fun k'=>?_⟩
 unfold upd
 by_cases hk:k'=k
 · subst hk
   rw [if_pos rfl]
   exact ⟨Maps.has_put_same hD.isMap (show WideAt.IsKeyLit (.string k') from trivial) _,fun z=>Maps.atKey_put_same hD.isMap (show WideAt.IsKeyLit (.string k') from trivial) _ z⟩
 · rw [if_neg hk]
   have hne:Lit.string k'≠Lit.string k:=fun e=>hk (by injection e)
   exact ⟨(Maps.has_put_other hne _).trans (hf k').1,fun z=>(Maps.atKey_put_other hne _ z).trans ((hf k').2 z)⟩
theorem HpAt.props {w w2:World} {s:Hs} (h:HpAt w s) {i:Nat} {p:Pl} {x:Ob} (hp:s.ps[i]?=some p) (hx:s.xs[i]?=some x) {v':Value} {ks:List (List UInt8)} {f:List UInt8→Option Va}
   (hc:Chg (p.o :: p.m :: p.kv.ownBlock.toList) w w2)
   (ho:w2.heap[p.o]?=some (.cells #[.int .i64 x.kind,.int .i64 x.proto,.int .i64 x.a,.int .i64 x.b,.int .i64 x.scope,v',.map (some p.m),p.iv] 67 (0,0)))
   (hv:w2.ownsRow 0 9 1 v' ks.length (keyVs ks)) (hm:MapAt w2 p.m ks.length f) (hid:∀ b,v'.ownBlock=some b→p.kv.ownBlock=some b∨w.heap.size≤b) :
   HpAt w2 (s.turn i ⟨p.o,p.m,v',p.iv⟩ { x with keys:=ks,props:=f })∧Step w s w2 (s.turn i ⟨p.o,p.m,v',p.iv⟩ { x with keys:=ks,props:=f }):=by
 have hob:=h.each i p x hp hx
 have hnd:=pl_nodup h hp
 have hlt:=hob.lt
 unfold Pl.blocks at hnd
 simp only [List.nodup_cons,List.mem_cons,List.mem_append,not_or,Option.mem_toList] at hnd
 obtain ⟨⟨n1,n2,n3⟩,⟨n4,n5⟩,n6⟩:=hnd
 rw [List.nodup_append] at n6
 obtain ⟨n7,n8,n9⟩:=n6
 have ii:∀ g,p.iv.ownBlock=some g→w2.heap[g]?=w.heap[g]?:=fun g hg=>hc.block g (hlt g (by simp [Pl.blocks,hg])) (by
   simp only [List.mem_cons,Option.mem_toList,not_or]
   exact ⟨fun e=>n3 (e ▸ hg),fun e=>n5 (e ▸ hg),fun e=>n9 g (by simpa using e) g (by simp [hg]) rfl⟩)
 refine h.turn hp hx (hc.sub fun b hb=>?_) ⟨ho,hv,hm,World.ownsRow_same hob.items ii⟩ rfl ?_ ?_
 · simp only [Pl.blocks,List.mem_cons,List.mem_append] at hb ⊢
   rcases hb with h | h | h
   · exact .inl h
   · exact .inr (.inl h)
   · exact .inr (.inr (.inl h))
 · have f1:∀ b,v'.ownBlock=some b→b≠p.o∧b≠p.m∧p.iv.ownBlock≠some b:=fun b hb=>by
     rcases hid b hb with e | e
     · exact ⟨fun h=>n2 (h ▸ e),fun h=>n4 (h ▸ e),fun h=>n9 b (by simp [e]) b (by simp [h]) rfl⟩
     · refine ⟨fun h=>?_,fun h=>?_,fun h=>?_⟩
       · have:=hlt p.o (by simp [Pl.blocks]);omega
       · have:=hlt p.m (by simp [Pl.blocks]);omega
       · have:=hlt b (by simp [Pl.blocks,h]);omega
   unfold Pl.blocks
   simp only [List.nodup_cons,List.mem_cons,List.mem_append,not_or,Option.mem_toList,List.nodup_append]
   refine ⟨⟨n1,fun e=>(f1 _ e).1 rfl,n3⟩,⟨fun e=>(f1 _ e).2.1 rfl,n5⟩,by cases v'.ownBlock <;> simp,n8,fun a ha b hb e=>(f1 a ha).2.2 (by rw [e];exact hb)⟩
 · intro b hb
   simp only [Pl.blocks,List.mem_cons,List.mem_append,Option.mem_toList] at hb ⊢
   rcases hb with rfl | rfl | hb | hb
   · exact .inl (.inl rfl)
   · exact .inl (.inr (.inl rfl))
   · rcases hid b hb with e | e
     · exact .inl (.inr (.inr (.inl e)))
     · exact .inr e
   · exact .inl (.inr (.inr (.inr hb)))
theorem put_none (s:Hs) (i:Int) (key:List UInt8) (v:Va) (w:World) (h:HpAt w s) (hx:s.d.obj i=none) :
   Calls Tryz.prog 50 #[.pointer (some ⟨s.h,0,none⟩),.int .i64 i,.string ⟨key.toArray⟩,v.v] w fun e w'=>e=.returned (.int .i64 3)∧Left w s w' s.d:=by
 obtain ⟨k,n,t,r⟩:=v
 have p1:Pur w (w.alloc (.cells #[.int .i64 k,.float .f64 n,.string ⟨t.toArray⟩,.int .i64 r] 25)):=(Pur.refl w).alloc _
 have AT:=at_any s i _ (h.pur p1)
 rw [(at_none h i).2 hx] at AT
 have hfin:∀ w',Pur w w'→Left w s w' s.d:=fun w' hpp=>⟨s,h.pur hpp,Step.pur hpp,rfl,fun _=>rfl⟩
 simp only [Va.v,Va.cells]
 clear h hx
 go_enter Tryz.func50,Tryz.ntmps50
 go_wp2_with fail
 go_wp2_with fail
 refine (AT).mono ?_
 rintro e w2 ⟨rfl,rfl⟩
 go_wp2
 go_ret
 exact ⟨rfl,hfin _ p1⟩
theorem put_wrong (s:Hs) (i:Int) (x:Ob) (key:List UInt8) (v:Va) (w:World) (h:HpAt w s) (hx:s.d.obj i=some x) (hvw:v.wf) (hr:v.right s.d.xs.length=false) :
   Calls Tryz.prog 50 #[.pointer (some ⟨s.h,0,none⟩),.int .i64 i,.string ⟨key.toArray⟩,v.v] w fun e w'=>e=.returned (.int .i64 1)∧Left w s w' s.d:=by
 obtain ⟨k,n,t,r⟩:=v
 have p1:Pur w (w.alloc (.cells #[.int .i64 k,.float .f64 n,.string ⟨t.toArray⟩,.int .i64 r] 25)):=(Pur.refl w).alloc _
 obtain ⟨p,hp,hxx,hat,hob⟩:=h.pl hx
 have AT:=at_any s i _ (h.pur p1)
 rw [hat] at AT
 have RT:=right_any s ⟨k,n,t,r⟩ _ (h.pur p1) hvw.1 hvw.2
 rw [show s.ps.length=s.d.xs.length from h.len.symm,hr] at RT
 have hfin:∀ w',Pur w w'→Left w s w' s.d:=fun w' hpp=>⟨s,h.pur hpp,Step.pur hpp,rfl,fun _=>rfl⟩
 simp only [Va.v,Va.cells] at *
 clear h hx hp hxx hat hob hr
 go_enter Tryz.func50,Tryz.ntmps50
 go_wp2_with fail
 go_wp2_with fail
 refine (AT).mono ?_
 rintro e w2 ⟨rfl,rfl⟩
 go_wp2_with fail
 go_wp2_with fail
 refine (RT).mono ?_
 rintro e w3 ⟨rfl,h3⟩
 go_wp2
 go_ret
 exact ⟨rfl,hfin _ (p1.trans h3)⟩
theorem put_len_bad (s:Hs) (i:Int) (x:Ob) (key:List UInt8) (v:Va) (w:World) (h:HpAt w s) {G:Nat} (hok:s.d.Ok G) (hx:s.d.obj i=some x) (hvw:v.wf) (hr:v.right s.d.xs.length=true) (hk:x.kind=2) (hkl:key=lenKey) (hl:lenOf v=none) :
   Calls Tryz.prog 50 #[.pointer (some ⟨s.h,0,none⟩),.int .i64 i,.string ⟨key.toArray⟩,v.v] w fun e w'=>e=.returned (.int .i64 1)∧Left w s w' s.d:=by
 obtain ⟨k,n,t,r⟩:=v
 have p1:Pur w (w.alloc (.cells #[.int .i64 k,.float .f64 n,.string ⟨t.toArray⟩,.int .i64 r] 25)):=(Pur.refl w).alloc _
 obtain ⟨p,hp,hxx,hat,hob⟩:=h.pl hx
 have AT:=at_any s i _ (h.pur p1)
 rw [hat] at AT
 have RT:=right_any s ⟨k,n,t,r⟩ _ (h.pur p1) hvw.1 hvw.2
 rw [show s.ps.length=s.d.xs.length from h.len.symm,hr] at RT
 have V2:∀ w2,Pur (w.alloc (.cells #[.int .i64 k,.float .f64 n,.string ⟨t.toArray⟩,.int .i64 r] 25)) w2→w2.heap[w.heap.size]?=some (.cells #[.int .i64 k,.float .f64 n,.string ⟨t.toArray⟩,.int .i64 r] 25 (0,0)):=fun w2 h2=>bk_pur (bk_new _ _) h2
 have O2:∀ w2,Pur (w.alloc (.cells #[.int .i64 k,.float .f64 n,.string ⟨t.toArray⟩,.int .i64 r] 25)) w2→HpAt w2 s∧ObIn w2 p x:=fun w2 h2=>⟨h.pur (p1.trans h2),(h.pur (p1.trans h2)).each _ _ _ hp hxx⟩
 have hfin:∀ w',Pur w w'→Left w s w' s.d:=fun w' hpp=>⟨s,h.pur hpp,Step.pur hpp,rfl,fun _=>rfl⟩
 have WH:=fun w=>whole_any n w
 have hl':=lenOf_none hl
 simp only at hl'
 obtain ⟨b1,e1⟩:∃ b1,decide (k=3)=b1:=⟨_,rfl⟩
 obtain ⟨b2,e2⟩:∃ b2,eqB (wholeB n) n=b2:=⟨_,rfl⟩
 obtain ⟨b3,e3⟩:∃ b3,ltB n 0=b3:=⟨_,rfl⟩
 obtain ⟨b4,e4⟩:∃ b4,gtB n 4746794007244308480=b4:=⟨_,rfl⟩
 have u2:(FloatKind.f64.format.order (wholeB n) n != some Ordering.eq)=!b2:=congrArg Bool.not e2
 have u3:(FloatKind.f64.format.order n 0 == some Ordering.lt)=b3:=e3
 have u4:(FloatKind.f64.format.order n 4746794007244308480 == some Ordering.gt)=b4:=e4
 have hall:b1=false∨b2=false∨b3=true∨b4=true:=by
   rcases hl' with h1 | h1 | h1 | h1
   · exact .inl (by rw [← e1];exact decide_eq_false h1)
   · exact .inr (.inl (e2.symm.trans h1))
   · exact .inr (.inr (.inl (e3.symm.trans h1)))
   · exact .inr (.inr (.inr (e4.symm.trans h1)))
 simp only [Va.v,Va.cells] at *
 unfold lenKey at hkl
 subst hkl
 clear h hx hp hxx hat hob hr hl hl' hok e2 e3 e4 hvw
 rcases b1 with _ | _ <;> rcases b2 with _ | _ <;> rcases b3 with _ | _ <;> rcases b4 with _ | _ <;> first | (exfalso;revert hall;decide) | skip
 all_goals
   try (have k3:=of_decide_eq_true e1;subst k3)
   try (have n1:¬ k=3:=of_decide_eq_false e1;have n2:(k != 3)=true:=bne_iff_ne.2 n1;have n3:decide (¬ k=3)=true:=decide_eq_true n1)
   clear hall
   simp only [Bool.not_false,Bool.not_true] at u2
   go_enter Tryz.func50,Tryz.ntmps50
   go_wp2_with fail
   go_wp2_with fail
   refine (AT).mono ?_
   rintro e w2 ⟨rfl,rfl⟩
   go_wp2_with fail
   go_wp2_with fail
   refine (RT).mono ?_
   rintro e w2 ⟨rfl,h2⟩
   have ob:=(O2 _ h2).2.own
   rw [hk] at ob
   have q0:=bk_cell ob 0 _ rfl
   have hV:=V2 _ h2
   have Z0:∀ y:PW w2,y.to.cell? ⟨w.heap.size,0,none⟩=some (.int .i64 _):=fun y=>bk_cell (bk_pur hV y.pur) 0 _ rfl
   have Z1:∀ y:PW w2,y.to.cell? ⟨w.heap.size,1,none⟩=some (.float .f64 n):=fun y=>bk_cell (bk_pur hV y.pur) 1 _ rfl
   clear O2 V2 ob hV AT RT
   go_wp2_with fail
   refine wp_region_pur (by kernel_rfl) (by kernel_rfl) ?_
   repeat (go_big_quiet_step (((go_at_call 101;with_reducible exact quiet_eq (WH _)))))
   refine wpQuiet_nil ?_
   intro w3 h3
   go_wp2
   go_ret
   exact ⟨rfl,hfin _ ((p1.trans h2).trans h3)⟩
theorem put_len (s:Hs) (i:Int) (x:Ob) (key:List UInt8) (v:Va) (w:World) (h:HpAt w s) {G:Nat} (hok:s.d.Ok G) (hx:s.d.obj i=some x) (hvw:v.wf) (hr:v.right s.d.xs.length=true) (hk:x.kind=2) (hkl:key=lenKey) (m:Nat) (hl:lenOf v=some m) :
   Calls Tryz.prog 50 #[.pointer (some ⟨s.h,0,none⟩),.int .i64 i,.string ⟨key.toArray⟩,v.v] w fun e w'=>e=.returned (.int .i64 (s.d.resize i x m).1)∧Left w s w' (s.d.resize i x m).2:=by
 obtain ⟨k,n,t,r⟩:=v
 have p1:Pur w (w.alloc (.cells #[.int .i64 k,.float .f64 n,.string ⟨t.toArray⟩,.int .i64 r] 25)):=(Pur.refl w).alloc _
 obtain ⟨p,hp,hxx,hat,hob⟩:=h.pl hx
 have AT:=at_any s i _ (h.pur p1)
 rw [hat] at AT
 have RT:=right_any s ⟨k,n,t,r⟩ _ (h.pur p1) hvw.1 hvw.2
 rw [show s.ps.length=s.d.xs.length from h.len.symm,hr] at RT
 have V2:∀ w2,Pur (w.alloc (.cells #[.int .i64 k,.float .f64 n,.string ⟨t.toArray⟩,.int .i64 r] 25)) w2→w2.heap[w.heap.size]?=some (.cells #[.int .i64 k,.float .f64 n,.string ⟨t.toArray⟩,.int .i64 r] 25 (0,0)):=fun w2 h2=>bk_pur (bk_new _ _) h2
 have O2:∀ w2,Pur (w.alloc (.cells #[.int .i64 k,.float .f64 n,.string ⟨t.toArray⟩,.int .i64 r] 25)) w2→HpAt w2 s∧ObIn w2 p x:=fun w2 h2=>⟨h.pur (p1.trans h2),(h.pur (p1.trans h2)).each _ _ _ hp hxx⟩
 have WH:=fun w=>whole_any n w
 obtain ⟨k3,e2,e3,e4,e5,hm⟩:=lenOf_some hl
 simp only at k3 e2 e3 e4 e5
 subst k3
 have u2:(FloatKind.f64.format.order (wholeB n) n != some Ordering.eq)=false:=congrArg Bool.not e2
 have u3:(FloatKind.f64.format.order n 0 == some Ordering.lt)=false:=e3
 have u4:(FloatKind.f64.format.order n 4746794007244308480 == some Ordering.gt)=false:=e4
 have RS:=fun w3 (hp3:Pur w w3)=>resize_any s i x p.o m w3 (h.pur hp3) hx hat (by omega) hok
 have lo:IntKind.i64.min≤(m:Int)∧(m:Int)≤IntKind.i64.max:=by simp [IntKind.min,IntKind.max,IntKind.signed,IntKind.bits];omega
 have cv:∀ w:World,(Conv.floatToInt .f64 n .i64).run Tryz.prog w=.ok (.int .i64 m) w:=fun w=>by
   unfold Conv.floatToInt
   rw [e5]
   simp only [lo.1,lo.2,and_self,if_true]
   rfl
 have cv2:∀ w:World,(convert 23 3 (.float .f64 n)).run Tryz.prog w=.ok (.int .i64 m) w:=fun w=>(show _=(Conv.floatToInt .f64 n .i64).run Tryz.prog w from rfl).trans (cv w)
 clear cv
 simp only [Va.v,Va.cells] at *
 unfold lenKey at hkl
 subst hkl
 generalize s.d.resize i x m=R at *
 clear h hx hp hxx hat hob hr hl hok e2 e3 e4 hvw e5 lo hm
 go_enter Tryz.func50,Tryz.ntmps50
 go_wp2_with fail
 go_wp2_with fail
 refine (AT).mono ?_
 rintro e w2 ⟨rfl,rfl⟩
 go_wp2_with fail
 go_wp2_with fail
 refine (RT).mono ?_
 rintro e w2 ⟨rfl,h2⟩
 have ob:=(O2 _ h2).2.own
 rw [hk] at ob
 have q0:=bk_cell ob 0 _ rfl
 have hV:=V2 _ h2
 have Z0:∀ y:PW w2,y.to.cell? ⟨w.heap.size,0,none⟩=some (.int .i64 3):=fun y=>bk_cell (bk_pur hV y.pur) 0 _ rfl
 have Z1:∀ y:PW w2,y.to.cell? ⟨w.heap.size,1,none⟩=some (.float .f64 n):=fun y=>bk_cell (bk_pur hV y.pur) 1 _ rfl
 clear O2 V2 ob AT RT
 go_wp2_with fail
 refine wp_region_pur (by kernel_rfl) (by kernel_rfl) ?_
 repeat (go_big_quiet_step (((go_at_call 101;with_reducible exact quiet_eq (WH _)))))
 refine wpQuiet_nil ?_
 intro w3 h3
 have z1:=bk_cell (bk_pur hV h3) 1 _ rfl
 have p3:=(p1.trans h2).trans h3
 have RS':=RS _ p3
 clear RS Z0 Z1 hV q0
 go_wp2_with fail
 refine RS'.mono ?_
 rintro e w4 ⟨rfl,hL⟩
 go_wp2
 go_ret
 exact ⟨rfl,hL.after p3⟩
theorem flat_set (x:Va):∀ (vs:List Va) (m:Nat),m < vs.length→((((vs.flatMap Va.cells).set (m * 4) (.int .i64 x.kind)).set (m * 4 + 1) (.float .f64 x.num)).set (m * 4 + 2) (.string ⟨x.text.toArray⟩)).set (m * 4 + 3) (.int .i64 x.ref)=(vs.set m x).flatMap Va.cells
 | [],m,h=>by simp at h
 | y :: r,0,h=>by simp [Va.cells]
 | y :: r,m + 1,h=>by
   have ih:=flat_set x r m (by simpa using h)
   rw [List.set_cons_succ,List.flatMap_cons,List.flatMap_cons,← ih]
   have hl:y.cells.length=4:=rfl
   have sa:∀ (L:List Value) (j:Nat) (u:Value),(y.cells ++ L).set (4 + j) u=y.cells ++ L.set j u:=fun L j u=>by
     rw [List.set_append_right _ _ (by rw [hl];omega),hl,Nat.add_sub_cancel_left]
   rw [show (m + 1) * 4=4 + m * 4 by omega,show 4 + m * 4 + 1=4 + (m * 4 + 1) by omega,show 4 + m * 4 + 2=4 + (m * 4 + 2) by omega,show 4 + m * 4 + 3=4 + (m * 4 + 3) by omega,sa,sa,sa,sa]
theorem own_has {w:World} {B:Nat} {e:TypeId} {g n cap:Nat} {xs:List Value} (h:w.ownsRow B e 4 (.slice (some ⟨g,0,none⟩) n cap) n xs) (j:Nat) (hj:j < n * 4):w.frozen? ⟨g,j,none⟩=false∧∃ u,w.cell? ⟨g,j,none⟩=some u:=by
 refine ⟨h.frozenAt j,?_⟩
 rw [h.cellAt j hj]
 exact ⟨_,List.getElem?_eq_getElem (by rw [h.1];exact hj)⟩
def put4 (w:World) (g m:Nat) (x:Va):World:=(((w.setCell ⟨g,m * 4,none⟩ (.int .i64 x.kind)).setCell ⟨g,m * 4 + 1,none⟩ (.float .f64 x.num)).setCell ⟨g,m * 4 + 2,none⟩ (.string ⟨x.text.toArray⟩)).setCell ⟨g,m * 4 + 3,none⟩ (.int .i64 x.ref)
theorem row_some {w:World} {B:Nat} {e:TypeId} {v:Value} {n:Nat} {xs:List Value} (h:w.ownsRow B e 4 v n xs) (hn:0 < n):∃ g cap,v=.slice (some ⟨g,0,none⟩) n cap:=by
 rcases h.2 with ⟨rfl,h0⟩ | ⟨g,cap,cur,rfl,_⟩
 · omega
 · exact ⟨g,cap,rfl⟩
theorem item_store {w:World} {s:Hs} (h:HpAt w s) {i:Nat} {p:Pl} {x:Ob} (hp:s.ps[i]?=some p) (hx:s.xs[i]?=some x) {g cap m:Nat} (hiv:p.iv=.slice (some ⟨g,0,none⟩) x.items.length cap) (hm:m < x.items.length) (v:Va) :
   (w.frozen? ⟨g,m * 4,none⟩=false∧∃ u,w.cell? ⟨g,m * 4,none⟩=some u) ∧
   ((w.setCell ⟨g,m * 4,none⟩ (.int .i64 v.kind)).frozen? ⟨g,m * 4 + 1,none⟩=false∧∃ u,(w.setCell ⟨g,m * 4,none⟩ (.int .i64 v.kind)).cell? ⟨g,m * 4 + 1,none⟩=some u) ∧
   (((w.setCell ⟨g,m * 4,none⟩ (.int .i64 v.kind)).setCell ⟨g,m * 4 + 1,none⟩ (.float .f64 v.num)).frozen? ⟨g,m * 4 + 2,none⟩=false∧∃ u,((w.setCell ⟨g,m * 4,none⟩ (.int .i64 v.kind)).setCell ⟨g,m * 4 + 1,none⟩ (.float .f64 v.num)).cell? ⟨g,m * 4 + 2,none⟩=some u) ∧
   ((((w.setCell ⟨g,m * 4,none⟩ (.int .i64 v.kind)).setCell ⟨g,m * 4 + 1,none⟩ (.float .f64 v.num)).setCell ⟨g,m * 4 + 2,none⟩ (.string ⟨v.text.toArray⟩)).frozen? ⟨g,m * 4 + 3,none⟩=false∧∃ u,(((w.setCell ⟨g,m * 4,none⟩ (.int .i64 v.kind)).setCell ⟨g,m * 4 + 1,none⟩ (.float .f64 v.num)).setCell ⟨g,m * 4 + 2,none⟩ (.string ⟨v.text.toArray⟩)).cell? ⟨g,m * 4 + 3,none⟩=some u) ∧
   HpAt (put4 w g m v) (s.turn i p (x.item m v))∧Step w s (put4 w g m v) (s.turn i p (x.item m v)):=by
 have hob:=h.each i p x hp hx
 have R0:=hob.items
 rw [hiv] at R0
 obtain ⟨R1,G1⟩:=R0.stored (m * 4) (.int .i64 v.kind)
 obtain ⟨R2,G2⟩:=R1.stored (m * 4 + 1) (.float .f64 v.num)
 obtain ⟨R3,G3⟩:=R2.stored (m * 4 + 2) (.string ⟨v.text.toArray⟩)
 obtain ⟨R4,G4⟩:=R3.stored (m * 4 + 3) (.int .i64 v.ref)
 refine ⟨own_has R0 _ (by omega),own_has R1 _ (by omega),own_has R2 _ (by omega),own_has R3 _ (by omega),?_⟩
 have G:=G1.trans (G2.trans (G3.trans G4))
 have hnd:=pl_nodup h hp
 unfold Pl.blocks at hnd
 have hne:some p.o≠some g:=fun e=>by
   rw [show p.iv.ownBlock=some g by rw [hiv];rfl] at hnd
   simp only [Option.some.injEq] at e
   simp [e] at hnd
 have hl:(x.items.set m v).length=x.items.length:=List.length_set
 rw [flat_set v x.items m hm] at R4
 have:=h.items hp hx (w2:=put4 w g m v) (v':=p.iv) (l:=x.items.set m v)
   ((Chg.grownS G).sub (fun b hb=>by rw [hiv];exact List.mem_cons_of_mem _ hb)) ((G.block _ (bk_lt hob.own) hne).trans hob.own) (by rw [hl,hiv];exact R4) (fun b hb=>.inl hb)
 exact this
theorem put_item (s:Hs) (i:Int) (x:Ob) (key:List UInt8) (v:Va) (w:World) (h:HpAt w s) {G:Nat} (hok:s.d.Ok G) (hx:s.d.obj i=some x) (hvw:v.wf) (hr:v.right s.d.xs.length=true) (hk:x.kind=2) (hkl:key.length≤1000000) (hne:¬ key=lenKey) (m:Nat) (hix:index key=some m) (hm:m < x.items.length) :
   Calls Tryz.prog 50 #[.pointer (some ⟨s.h,0,none⟩),.int .i64 i,.string ⟨key.toArray⟩,v.v] w fun e w'=>e=.returned (.int .i64 0)∧Left w s w' (s.d.turn i (x.item m v) s.d.left):=by
 obtain ⟨k,n,t,r⟩:=v
 have p1:Pur w (w.alloc (.cells #[.int .i64 k,.float .f64 n,.string ⟨t.toArray⟩,.int .i64 r] 25)):=(Pur.refl w).alloc _
 obtain ⟨p,hp,hxx,hat,hob⟩:=h.pl hx
 have AT:=at_any s i _ (h.pur p1)
 rw [hat] at AT
 have RT:=right_any s ⟨k,n,t,r⟩ _ (h.pur p1) hvw.1 hvw.2
 rw [show s.ps.length=s.d.xs.length from h.len.symm,hr] at RT
 have V2:∀ w2,Pur (w.alloc (.cells #[.int .i64 k,.float .f64 n,.string ⟨t.toArray⟩,.int .i64 r] 25)) w2→w2.heap[w.heap.size]?=some (.cells #[.int .i64 k,.float .f64 n,.string ⟨t.toArray⟩,.int .i64 r] 25 (0,0)):=fun w2 h2=>bk_pur (bk_new _ _) h2
 have O2:∀ w2,Pur (w.alloc (.cells #[.int .i64 k,.float .f64 n,.string ⟨t.toArray⟩,.int .i64 r] 25)) w2→HpAt w2 s∧ObIn w2 p x:=fun w2 h2=>⟨h.pur (p1.trans h2),(h.pur (p1.trans h2)).each _ _ _ hp hxx⟩
 have IX:=fun w=>index_any key w (by omega)
 rw [hix] at IX
 simp only [ix] at IX
 have q1:=eqkey_no hne
 unfold lenKey at q1 hne
 obtain ⟨g,cap,hiv⟩:=row_some hob.items (by omega)
 have hmI:(m:Int) < x.items.length:=by omega
 have hm0:(0:Int)≤m:=by omega
 have hmD:decide ((x.items.length:Int)≤m)=false:=decide_eq_false (by omega)
 have ST:∀ w4,Pur (w.alloc (.cells #[.int .i64 k,.float .f64 n,.string ⟨t.toArray⟩,.int .i64 r] 25)) w4→_:=fun w4 h4=>item_store (O2 w4 h4).1 hp hxx hiv hm ⟨k,n,t,r⟩
 have hfin:∀ w4,Pur w w4→HpAt (put4 w4 g m ⟨k,n,t,r⟩) (s.turn i.toNat p (x.item m ⟨k,n,t,r⟩))→Step w4 s (put4 w4 g m ⟨k,n,t,r⟩) (s.turn i.toNat p (x.item m ⟨k,n,t,r⟩))→Left w s (put4 w4 g m ⟨k,n,t,r⟩) (s.d.turn i (x.item m ⟨k,n,t,r⟩) s.d.left):=fun w4 h4 a b =>
   ⟨_,a,(Step.pur h4).trans b,rfl,fun j=>turn_at s i.toNat p p _ hp rfl j⟩
 simp only [Va.v,Va.cells] at *
 generalize s.d.turn i (x.item m ⟨k,n,t,r⟩) s.d.left=D at *
 clear h hx hp hxx hat hr hok hvw hob
 go_enter Tryz.func50,Tryz.ntmps50
 go_wp2_with fail
 go_wp2_with fail
 refine (AT).mono ?_
 rintro e w2 ⟨rfl,rfl⟩
 go_wp2_with fail
 go_wp2_with fail
 refine (RT).mono ?_
 rintro e w2 ⟨rfl,h2⟩
 have ob:=(O2 _ h2).2.own
 rw [hk] at ob
 have q0:=bk_cell ob 0 _ rfl
 clear AT RT ob
 go_wp2_with fail
 refine (IX _).mono ?_
 rintro e w3 ⟨rfl,h3⟩
 have h23:=h2.trans h3
 have B:=(O2 _ h23).2.own
 rw [hk] at B
 have q0:=bk_cell B 0 _ rfl
 have q7:=bk_cell B 7 (.slice (some ⟨g,0,none⟩) x.items.length cap) (by rw [← hiv];rfl)
 have Z7:∀ y:PW w3,y.to.cell? ⟨p.o,7,none⟩=some (.slice (some ⟨g,0,none⟩) x.items.length cap):=fun y=>bk_cell (bk_pur B y.pur) 7 _ (by rw [← hiv];rfl)
 have Zv:=V2 _ h23
 have Z0:∀ y:PW w3,y.to.cell? ⟨w.heap.size,0,none⟩=some (.int .i64 k):=fun y=>bk_cell (bk_pur Zv y.pur) 0 _ rfl
 have Z1:∀ y:PW w3,y.to.cell? ⟨w.heap.size,1,none⟩=some (.float .f64 n):=fun y=>bk_cell (bk_pur Zv y.pur) 1 _ rfl
 have Z2:∀ y:PW w3,y.to.cell? ⟨w.heap.size,2,none⟩=some (.string ⟨t.toArray⟩):=fun y=>bk_cell (bk_pur Zv y.pur) 2 _ rfl
 have Z3:∀ y:PW w3,y.to.cell? ⟨w.heap.size,3,none⟩=some (.int .i64 r):=fun y=>bk_cell (bk_pur Zv y.pur) 3 _ rfl
 clear IX V2 B O2
 go_wp2_with fail
 refine wp_region_pur_tail 7 (by kernel_rfl) (by kernel_rfl) ?_
 simp only [List.take_succ_cons,List.take_zero,List.drop_succ_cons,List.drop_zero]
 repeat (go_big_quiet_step (fail))
 refine wpQuiet_nil ?_
 intro w4 h4
 have h24:=h23.trans h4
 obtain ⟨⟨f0,u0,c0⟩,⟨f1,u1,c1⟩,⟨f2,u2,c2⟩,⟨f3,u3,c3⟩,HP,HS⟩:=ST _ h24
 have HF:=hfin _ (p1.trans h24) HP HS
 unfold put4 at HF
 simp only at HF f0 f1 f2 f3 c0 c1 c2 c3
 clear Z7 Z0 Z1 Z2 Z3 Zv ST HP HS hfin
 go_wp2
 go_ret
 exact ⟨rfl,HF⟩
theorem obj_turn {d:Hd} {i:Int} {x x':Ob} {c:Int} (h:d.obj i=some x):(d.turn i x' c).obj i=some x':=by
 obtain ⟨-,h0,h1,-⟩:=Hd.obj_mem h
 unfold Hd.obj Hd.turn
 rw [if_neg (by omega)]
 simp only
 rw [List.getElem?_set_self (by omega)]
theorem turn_turn (d:Hd) (i:Int) (x x':Ob) (c c':Int):(d.turn i x c).turn i x' c'=d.turn i x' c':=by
 unfold Hd.turn
 simp only [List.set_set]
theorem Left.then {w w3 w':World} {s s':Hs} {d:Hd} (h:HpAt w3 s') (k:Step w s w3 s') (ha:∀ j,s'.at j=s.at j) (l:Left w3 s' w' d):Left w s w' d:=by
 obtain ⟨s2,h1,h2,h3,h4⟩:=l
 exact ⟨s2,h1,k.trans h2,h3,fun j=>(h4 j).trans (ha j)⟩
theorem put_full (s:Hs) (i:Int) (x:Ob) (key:List UInt8) (v:Va) (w:World) (h:HpAt w s) {G:Nat} (hok:s.d.Ok G) (hx:s.d.obj i=some x) (hvw:v.wf) (hr:v.right s.d.xs.length=true) (hk:x.kind=2) (hkl:key.length≤1000000) (hne:¬ key=lenKey) (m:Nat) (hix:index key=some m) (hm:x.items.length≤m) (hm2:m≤2147483647) (hlt:s.d.left < (m:Int) + 1 - x.items.length) :
   Calls Tryz.prog 50 #[.pointer (some ⟨s.h,0,none⟩),.int .i64 i,.string ⟨key.toArray⟩,v.v] w fun e w'=>e=.returned (.int .i64 112)∧Left w s w' s.d:=by
 obtain ⟨k,n,t,r⟩:=v
 have p1:Pur w (w.alloc (.cells #[.int .i64 k,.float .f64 n,.string ⟨t.toArray⟩,.int .i64 r] 25)):=(Pur.refl w).alloc _
 obtain ⟨p,hp,hxx,hat,hob⟩:=h.pl hx
 have AT:=at_any s i _ (h.pur p1)
 rw [hat] at AT
 have RT:=right_any s ⟨k,n,t,r⟩ _ (h.pur p1) hvw.1 hvw.2
 rw [show s.ps.length=s.d.xs.length from h.len.symm,hr] at RT
 have V2:∀ w2,Pur (w.alloc (.cells #[.int .i64 k,.float .f64 n,.string ⟨t.toArray⟩,.int .i64 r] 25)) w2→w2.heap[w.heap.size]?=some (.cells #[.int .i64 k,.float .f64 n,.string ⟨t.toArray⟩,.int .i64 r] 25 (0,0)):=fun w2 h2=>bk_pur (bk_new _ _) h2
 have O2:∀ w2,Pur (w.alloc (.cells #[.int .i64 k,.float .f64 n,.string ⟨t.toArray⟩,.int .i64 r] 25)) w2→HpAt w2 s∧ObIn w2 p x:=fun w2 h2=>⟨h.pur (p1.trans h2),(h.pur (p1.trans h2)).each _ _ _ hp hxx⟩
 have IX:=fun w=>index_any key w (by omega)
 rw [hix] at IX
 simp only [ix] at IX
 have q1:=eqkey_no hne
 unfold lenKey at q1 hne
 have hmI:(x.items.length:Int)≤m:=by omega
 have wr:IntKind.i64.wrap ((m:Int) + 1)=m + 1:=IntWalk.i64_in _ (by omega)
 have hres:s.d.resize i x (m + 1)=(112,s.d):=by unfold Hd.resize;rw [if_pos (by omega)]
 have RS:=fun w3 (hp3:Pur w w3)=>resize_any s i x p.o (m + 1) w3 (h.pur hp3) hx hat (by omega) hok
 rw [hres] at RS
 rw [show (((m + 1:Nat)):Int)=(m:Int) + 1 from rfl] at RS
 obtain ⟨a,c,hiv⟩:=row_shape hob.items
 simp only [Va.v,Va.cells] at *
 clear h hx hp hxx hat hr hok hvw hob hres hlt
 go_enter Tryz.func50,Tryz.ntmps50
 go_wp2_with fail
 go_wp2_with fail
 refine (AT).mono ?_
 rintro e w2 ⟨rfl,rfl⟩
 go_wp2_with fail
 go_wp2_with fail
 refine (RT).mono ?_
 rintro e w2 ⟨rfl,h2⟩
 have ob:=(O2 _ h2).2.own
 rw [hk] at ob
 have q0:=bk_cell ob 0 _ rfl
 clear AT RT ob
 go_wp2_with fail
 refine (IX _).mono ?_
 rintro e w3 ⟨rfl,h3⟩
 have h23:=h2.trans h3
 have B:=(O2 _ h23).2.own
 rw [hk] at B
 have q0:=bk_cell B 0 _ rfl
 have q7:=bk_cell B 7 (.slice a x.items.length c) (by rw [← hiv];rfl)
 have RS':=RS _ (p1.trans h23)
 clear IX V2 B O2 RS
 go_wp2_with fail
 refine RS'.mono ?_
 rintro e w4 ⟨rfl,hL⟩
 go_wp2
 go_ret
 exact ⟨rfl,hL.after (p1.trans h23)⟩
theorem put_grow (s:Hs) (i:Int) (x:Ob) (key:List UInt8) (v:Va) (w:World) (h:HpAt w s) {G:Nat} (hok:s.d.Ok G) (hx:s.d.obj i=some x) (hvw:v.wf) (hr:v.right s.d.xs.length=true) (hk:x.kind=2) (hkl:key.length≤1000000) (hne:¬ key=lenKey) (m:Nat) (hix:index key=some m) (hm:x.items.length≤m) (hm2:m≤2147483647) (hlt:¬ s.d.left < (m:Int) + 1 - x.items.length) :
   Calls Tryz.prog 50 #[.pointer (some ⟨s.h,0,none⟩),.int .i64 i,.string ⟨key.toArray⟩,v.v] w fun e w'=>e=.returned (.int .i64 0)∧Left w s w' (s.d.turn i ((x.resize (m + 1)).item m v) (s.d.left - ((m:Int) + 1 - x.items.length))):=by
 obtain ⟨k,n,t,r⟩:=v
 have p1:Pur w (w.alloc (.cells #[.int .i64 k,.float .f64 n,.string ⟨t.toArray⟩,.int .i64 r] 25)):=(Pur.refl w).alloc _
 obtain ⟨p,hp,hxx,hat,hob⟩:=h.pl hx
 have AT:=at_any s i _ (h.pur p1)
 rw [hat] at AT
 have RT:=right_any s ⟨k,n,t,r⟩ _ (h.pur p1) hvw.1 hvw.2
 rw [show s.ps.length=s.d.xs.length from h.len.symm,hr] at RT
 have V2:∀ w2,Pur (w.alloc (.cells #[.int .i64 k,.float .f64 n,.string ⟨t.toArray⟩,.int .i64 r] 25)) w2→w2.heap[w.heap.size]?=some (.cells #[.int .i64 k,.float .f64 n,.string ⟨t.toArray⟩,.int .i64 r] 25 (0,0)):=fun w2 h2=>bk_pur (bk_new _ _) h2
 have O2:∀ w2,Pur (w.alloc (.cells #[.int .i64 k,.float .f64 n,.string ⟨t.toArray⟩,.int .i64 r] 25)) w2→HpAt w2 s∧ObIn w2 p x:=fun w2 h2=>⟨h.pur (p1.trans h2),(h.pur (p1.trans h2)).each _ _ _ hp hxx⟩
 have IX:=fun w=>index_any key w (by omega)
 rw [hix] at IX
 simp only [ix] at IX
 have q1:=eqkey_no hne
 unfold lenKey at q1 hne
 have hmI:(x.items.length:Int)≤m:=by omega
 have hm0:(0:Int)≤m:=by omega
 have wr:IntKind.i64.wrap ((m:Int) + 1)=m + 1:=IntWalk.i64_in _ (by omega)
 have hres:s.d.resize i x (m + 1)=(0,s.d.turn i (x.resize (m + 1)) (s.d.left - ((m:Int) + 1 - x.items.length))):=by unfold Hd.resize;rw [if_neg (by omega)];rfl
 have RS:=fun w3 (hp3:Pur w w3)=>resize_any s i x p.o (m + 1) w3 (h.pur hp3) hx hat (by omega) hok
 rw [hres] at RS
 rw [show (((m + 1:Nat)):Int)=(m:Int) + 1 from rfl] at RS
 obtain ⟨a,c,hiv⟩:=row_shape hob.items
 have hxl:(x.resize (m + 1)).items.length=m + 1:=by unfold Ob.resize;rw [if_neg (by omega)];simp;omega
 have hxk:(x.resize (m + 1)).kind=2:=hk
 have hmL:(m:Int) < (m + 1:Nat):=by omega
 have NX:∀ w3 w4,Pur (w.alloc (.cells #[.int .i64 k,.float .f64 n,.string ⟨t.toArray⟩,.int .i64 r] 25)) w3→Left w3 s w4 (s.d.turn i (x.resize (m + 1)) (s.d.left - ((m:Int) + 1 - x.items.length)))→∃ g cap,∃ s' p',p'.o=p.o∧HpAt w4 s'∧Step w s w4 s'∧(∀ j,s'.at j=s.at j)∧s'.d=s.d.turn i (x.resize (m + 1)) (s.d.left - ((m:Int) + 1 - x.items.length))∧s'.ps[i.toNat]?=some p'∧s'.xs[i.toNat]?=some (x.resize (m + 1))∧p'.iv=.slice (some ⟨g,0,none⟩) (m + 1) cap∧w4.heap[w.heap.size]?=some (.cells #[.int .i64 k,.float .f64 n,.string ⟨t.toArray⟩,.int .i64 r] 25 (0,0)):=fun w3 w4 h3 hL=>by
   obtain ⟨s',l1,l2,l3,l4⟩:=hL
   obtain ⟨p',hp',hxx',hat',hob'⟩:=l1.pl (i:=i) (x:=x.resize (m + 1)) (by rw [l3];exact obj_turn hx)
   obtain ⟨g,cap,hiv'⟩:=row_some hob'.items (by rw [hxl];omega)
   rw [hxl] at hiv'
   refine ⟨g,cap,s',p',?_,l1,(Step.pur (p1.trans h3)).trans l2,l4,l3,hp',hxx',hiv',?_⟩
   · have:=l4 i
     rw [hat',hat] at this
     simpa using this
   · have hv:=V2 _ h3
     exact (l2.chg.block _ (bk_lt hv) (fun hm=>by have:=h.lt _ hm;omega)).trans hv
 have HV':=hvw
 simp only [Va.v,Va.cells] at *
 clear h hp hxx hat hr hok hvw hob hres hlt hx
 go_enter Tryz.func50,Tryz.ntmps50
 go_wp2_with fail
 go_wp2_with fail
 refine (AT).mono ?_
 rintro e w2 ⟨rfl,rfl⟩
 go_wp2_with fail
 go_wp2_with fail
 refine (RT).mono ?_
 rintro e w2 ⟨rfl,h2⟩
 have ob:=(O2 _ h2).2.own
 rw [hk] at ob
 have q0:=bk_cell ob 0 _ rfl
 clear AT RT ob
 go_wp2_with fail
 refine (IX _).mono ?_
 rintro e w3 ⟨rfl,h3⟩
 have h23:=h2.trans h3
 have B:=(O2 _ h23).2.own
 rw [hk] at B
 have q0:=bk_cell B 0 _ rfl
 have q7:=bk_cell B 7 (.slice a x.items.length c) (by rw [← hiv];rfl)
 have RS':=RS _ (p1.trans h23)
 clear IX V2 B O2 RS hiv
 go_wp2_with fail
 refine RS'.mono ?_
 rintro e w4 ⟨rfl,hL⟩
 obtain ⟨g,cap,s',p',ho',h4,k4,a4,d4,hp',hxx',hiv,Zv⟩:=NX _ _ h23 hL
 have B:=(h4.each _ _ _ hp' hxx').own
 rw [ho',hxk] at B
 have Z7:∀ y:PW w4,y.to.cell? ⟨p.o,7,none⟩=some (.slice (some ⟨g,0,none⟩) (m + 1) cap):=fun y=>bk_cell (bk_pur B y.pur) 7 _ (by rw [← hiv];rfl)
 have Z0:∀ y:PW w4,y.to.cell? ⟨w.heap.size,0,none⟩=some (.int .i64 k):=fun y=>bk_cell (bk_pur Zv y.pur) 0 _ rfl
 have Z1:∀ y:PW w4,y.to.cell? ⟨w.heap.size,1,none⟩=some (.float .f64 n):=fun y=>bk_cell (bk_pur Zv y.pur) 1 _ rfl
 have Z2:∀ y:PW w4,y.to.cell? ⟨w.heap.size,2,none⟩=some (.string ⟨t.toArray⟩):=fun y=>bk_cell (bk_pur Zv y.pur) 2 _ rfl
 have Z3:∀ y:PW w4,y.to.cell? ⟨w.heap.size,3,none⟩=some (.int .i64 r):=fun y=>bk_cell (bk_pur Zv y.pur) 3 _ rfl
 have ST:∀ w5,Pur w4 w5→_:=fun w5 h5=>item_store (m:=m) (g:=g) (cap:=cap) (h4.pur h5) hp' hxx' (by rw [hxl];exact hiv) (by rw [hxl];omega) ⟨k,n,t,r⟩
 have hfin:∀ w5,Pur w4 w5→HpAt (put4 w5 g m ⟨k,n,t,r⟩) (s'.turn i.toNat p' ((x.resize (m + 1)).item m ⟨k,n,t,r⟩))→Step w5 s' (put4 w5 g m ⟨k,n,t,r⟩) (s'.turn i.toNat p' ((x.resize (m + 1)).item m ⟨k,n,t,r⟩))→Left w s (put4 w5 g m ⟨k,n,t,r⟩) (s.d.turn i ((x.resize (m + 1)).item m ⟨k,n,t,r⟩) (s.d.left - ((m:Int) + 1 - x.items.length))):=fun w5 h5 a b=>by
   refine Left.then h4 k4 a4 ⟨_,a,(Step.pur h5).trans b,?_,fun j=>turn_at s' i.toNat p' p' _ hp' rfl j⟩
   have e1:(s'.turn i.toNat p' ((x.resize (m + 1)).item m ⟨k,n,t,r⟩)).d=s'.d.turn i ((x.resize (m + 1)).item m ⟨k,n,t,r⟩) s'.d.left:=rfl
   rw [e1,d4,turn_turn]
   rfl
 clear NX hL RS' B h4 k4 a4 d4 hp' hxx' hxk hxl q0 q7
 go_wp2_with fail
 refine wp_region_pur_tail 7 (by kernel_rfl) (by kernel_rfl) ?_
 simp only [List.take_succ_cons,List.take_zero,List.drop_succ_cons,List.drop_zero]
 repeat (go_big_quiet_step (fail))
 refine wpQuiet_nil ?_
 intro w5 h5
 obtain ⟨⟨f0,u0,c0⟩,⟨f1,u1,c1⟩,⟨f2,u2,c2⟩,⟨f3,u3,c3⟩,HP,HS⟩:=ST _ h5
 have HF:=hfin _ h5 HP HS
 unfold put4 at HF
 simp only at HF f0 f1 f2 f3 c0 c1 c2 c3
 clear Z7 Z0 Z1 Z2 Z3 Zv ST HP HS hfin
 go_wp2
 go_ret
 exact ⟨rfl,HF⟩
theorem turned_chg {w w':World} {b:Nat} (h:w.mapTurned w' b):Chg [b] w w':=Chg.grownS (r:=some b) h.grown
theorem put_prop_full (s:Hs) (i:Int) (x:Ob) (key:List UInt8) (v:Va) (w:World) (h:HpAt w s) {G:Nat} (hok:s.d.Ok G) (hx:s.d.obj i=some x) (hvw:v.wf) (hr:v.right s.d.xs.length=true) (hkl:key.length≤1000000) (hkn:¬ (x.kind=2∧key=lenKey)) (hki:(if x.kind=2 then index key else none)=none) (hbo:(x.props key).isSome=false) (hlt:s.d.left < 1) :
   Calls Tryz.prog 50 #[.pointer (some ⟨s.h,0,none⟩),.int .i64 i,.string ⟨key.toArray⟩,v.v] w fun e w'=>e=.returned (.int .i64 112)∧Left w s w' s.d:=by
 obtain ⟨k,n,t,r⟩:=v
 have p1:Pur w (w.alloc (.cells #[.int .i64 k,.float .f64 n,.string ⟨t.toArray⟩,.int .i64 r] 25)):=(Pur.refl w).alloc _
 obtain ⟨p,hp,hxx,hat,hob⟩:=h.pl hx
 have AT:=at_any s i _ (h.pur p1)
 rw [hat] at AT
 have RT:=right_any s ⟨k,n,t,r⟩ _ (h.pur p1) hvw.1 hvw.2
 rw [show s.ps.length=s.d.xs.length from h.len.symm,hr] at RT
 have V2:∀ w2,Pur (w.alloc (.cells #[.int .i64 k,.float .f64 n,.string ⟨t.toArray⟩,.int .i64 r] 25)) w2→w2.heap[w.heap.size]?=some (.cells #[.int .i64 k,.float .f64 n,.string ⟨t.toArray⟩,.int .i64 r] 25 (0,0)):=fun w2 h2=>bk_pur (bk_new _ _) h2
 have O2:∀ w2,Pur (w.alloc (.cells #[.int .i64 k,.float .f64 n,.string ⟨t.toArray⟩,.int .i64 r] 25)) w2→HpAt w2 s∧ObIn w2 p x:=fun w2 h2=>⟨h.pur (p1.trans h2),(h.pur (p1.trans h2)).each _ _ _ hp hxx⟩
 have IX:=fun w=>index_any key w (by omega)
 have hkey:=key_lit (k:=key) (by unfold maxLen;omega)
 have hz:=RV_v Va.zero
 obtain ⟨y,hy⟩:∃ y,(x.props key).getD Va.zero=y:=⟨_,rfl⟩
 have M2:∀ w2,Pur (w.alloc (.cells #[.int .i64 k,.float .f64 n,.string ⟨t.toArray⟩,.int .i64 r] 25)) w2→∃ D,w2.ownsMap Tryz.prog 9 RV p.m x.keys.length D∧Hid (∀ k,Maps.has D (.string k)=(x.props k).isSome∧∀ z,D.atKey (.string k) z=((x.props k).map DataW.held).getD z)∧D.atKey (.string key) (.held Va.zero)=.held y∧Maps.has D (.string key)=false:=fun w2 h2=>by
   obtain ⟨D,hD,hf⟩:=(O2 w2 h2).2.props
   refine ⟨D,hD,Lib.hid hf,?_,(hf key).1.trans hbo⟩
   rw [(hf key).2,← hy]
   cases x.props key <;> rfl
 obtain ⟨yk,yn,yt,yr⟩:=y
 have ways:(x.kind=2∧(key == lenKey)=false∧ix (index key)=(0,false))∨(decide (x.kind=2)=false∧ix (index key)=(0,false))∨(decide (x.kind=2)=false∧∃ q:Int,ix (index key)=(q,true)):=by
   by_cases h2:x.kind=2
   · rw [if_pos h2] at hki
     exact .inl ⟨h2,eqkey_no (fun e=>hkn ⟨h2,e⟩),by rw [hki];rfl⟩
   · right
     have hd:decide (x.kind=2)=false:=decide_eq_false h2
     rcases index key with _ | q
     · exact .inl ⟨hd,rfl⟩
     · exact .inr ⟨hd,q,rfl⟩
 have hfin:∀ w',Pur w w'→Left w s w' s.d:=fun w' hpp=>⟨s,h.pur hpp,Step.pur hpp,rfl,fun _=>rfl⟩
 have hltD:s.left < 1:=hlt
 simp only [Va.v,Va.cells] at *
 clear h hx hp hxx hat hr hok hvw hob hbo hy hkn hki hlt
 rcases ways with ⟨hk,q1,hi⟩ | ⟨hk,hi⟩ | ⟨hk,q,hi⟩
 all_goals
   try rw [hi] at IX
   try (simp only [hi] at IX)
   try unfold lenKey at q1
   try have hk':=of_decide_eq_false hk
   go_enter Tryz.func50,Tryz.ntmps50
   go_wp2_with fail
   go_wp2_with fail
   refine (AT).mono ?_
   rintro e w2 ⟨rfl,rfl⟩
   go_wp2_with fail
   go_wp2_with fail
   refine (RT).mono ?_
   rintro e w2 ⟨rfl,h2⟩
   have ob:=(O2 _ h2).2.own
   try rw [hk] at ob
   have q0:=bk_cell ob 0 _ rfl
   clear AT RT ob
   go_wp2_with fail
   refine (IX _).mono ?_
   rintro e w3 ⟨rfl,h3⟩
   have h23:=h2.trans h3
   have B:=(O2 _ h23).2.own
   try rw [hk] at B
   have q0:=bk_cell B 0 _ rfl
   have q6:=bk_cell B 6 _ rfl
   have B4:=bk_alloc B (.cells #[.int .i64 yk,.float .f64 yn,.string ⟨yt.toArray⟩,.int .i64 yr] 25)
   have HB4:=bk_alloc (O2 _ h23).1.own (.cells #[.int .i64 yk,.float .f64 yn,.string ⟨yt.toArray⟩,.int .i64 yr] 25)
   have V4:=bk_alloc (V2 _ h23) (.cells #[.int .i64 yk,.float .f64 yn,.string ⟨yt.toArray⟩,.int .i64 yr] 25)
   obtain ⟨D,hD,hf,f3,f1⟩:=M2 _ h23
   have g1:=bk_cell HB4 1 _ rfl
   clear IX V2 M2 O2 B
   go_wp2_with (at_lookup;refine wpList_lookup_own_ok _ rfl _ _ 65 rfl 9 25 va_law Tryz.underlying65 _ (zero_va _) (.held Va.zero) [] hz p.m _ D rfl hD _ _ rfl hkey ?_)
   intro v ps hv
   try rw [f3] at hv
   obtain rfl:=RV_inv hv
   try rw [f1]
   simp only [Va.v,Va.cells]
   go_wp2
   go_ret
   exact ⟨rfl,hfin _ ((p1.trans h23).alloc _)⟩
theorem put_prop_old (s:Hs) (i:Int) (x:Ob) (key:List UInt8) (v:Va) (w:World) (h:HpAt w s) {G:Nat} (hok:s.d.Ok G) (hx:s.d.obj i=some x) (hvw:v.wf) (hr:v.right s.d.xs.length=true) (hkl:key.length≤1000000) (hkn:¬ (x.kind=2∧key=lenKey)) (hki:(if x.kind=2 then index key else none)=none) (hbo:(x.props key).isSome=true) :
   Calls Tryz.prog 50 #[.pointer (some ⟨s.h,0,none⟩),.int .i64 i,.string ⟨key.toArray⟩,v.v] w fun e w'=>e=.returned (.int .i64 0)∧Left w s w' (s.d.turn i (x.prop key v) s.d.left):=by
 obtain ⟨k,n,t,r⟩:=v
 have p1:Pur w (w.alloc (.cells #[.int .i64 k,.float .f64 n,.string ⟨t.toArray⟩,.int .i64 r] 25)):=(Pur.refl w).alloc _
 obtain ⟨p,hp,hxx,hat,hob⟩:=h.pl hx
 have AT:=at_any s i _ (h.pur p1)
 rw [hat] at AT
 have RT:=right_any s ⟨k,n,t,r⟩ _ (h.pur p1) hvw.1 hvw.2
 rw [show s.ps.length=s.d.xs.length from h.len.symm,hr] at RT
 have V2:∀ w2,Pur (w.alloc (.cells #[.int .i64 k,.float .f64 n,.string ⟨t.toArray⟩,.int .i64 r] 25)) w2→w2.heap[w.heap.size]?=some (.cells #[.int .i64 k,.float .f64 n,.string ⟨t.toArray⟩,.int .i64 r] 25 (0,0)):=fun w2 h2=>bk_pur (bk_new _ _) h2
 have O2:∀ w2,Pur (w.alloc (.cells #[.int .i64 k,.float .f64 n,.string ⟨t.toArray⟩,.int .i64 r] 25)) w2→HpAt w2 s∧ObIn w2 p x:=fun w2 h2=>⟨h.pur (p1.trans h2),(h.pur (p1.trans h2)).each _ _ _ hp hxx⟩
 have IX:=fun w=>index_any key w (by omega)
 have hkey:=key_lit (k:=key) (by unfold maxLen;omega)
 have hz:=RV_v Va.zero
 obtain ⟨y,hy⟩:∃ y,(x.props key).getD Va.zero=y:=⟨_,rfl⟩
 have M2:∀ w2,Pur (w.alloc (.cells #[.int .i64 k,.float .f64 n,.string ⟨t.toArray⟩,.int .i64 r] 25)) w2→∃ D,w2.ownsMap Tryz.prog 9 RV p.m x.keys.length D∧Hid (∀ k,Maps.has D (.string k)=(x.props k).isSome∧∀ z,D.atKey (.string k) z=((x.props k).map DataW.held).getD z)∧D.atKey (.string key) (.held Va.zero)=.held y∧Maps.has D (.string key)=true:=fun w2 h2=>by
   obtain ⟨D,hD,hf⟩:=(O2 w2 h2).2.props
   refine ⟨D,hD,Lib.hid hf,?_,(hf key).1.trans hbo⟩
   rw [(hf key).2,← hy]
   cases x.props key <;> rfl
 obtain ⟨yk,yn,yt,yr⟩:=y
 have ways:(x.kind=2∧(key == lenKey)=false∧ix (index key)=(0,false))∨(decide (x.kind=2)=false∧ix (index key)=(0,false))∨(decide (x.kind=2)=false∧∃ q:Int,ix (index key)=(q,true)):=by
   by_cases h2:x.kind=2
   · rw [if_pos h2] at hki
     exact .inl ⟨h2,eqkey_no (fun e=>hkn ⟨h2,e⟩),by rw [hki];rfl⟩
   · right
     have hd:decide (x.kind=2)=false:=decide_eq_false h2
     rcases index key with _ | q
     · exact .inl ⟨hd,rfl⟩
     · exact .inr ⟨hd,q,rfl⟩
 have hkl2:=(hok.mem (Hd.obj_mem hx).1).1
 have hxp:x.prop key ⟨k,n,t,r⟩={ x with keys:=x.keys,props:=upd x.props key (some ⟨k,n,t,r⟩) }:=by unfold Ob.prop;rw [if_pos hbo]
 rw [hxp]
 have hval:=RV_v ⟨k,n,t,r⟩
 have hfin:∀ w5 w6 D,Pur w w5→w5.ownsMap Tryz.prog 9 RV p.m x.keys.length D→(∀ k,Maps.has D (.string k)=(x.props k).isSome∧∀ z,D.atKey (.string k) z=((x.props k).map DataW.held).getD z)→w6.ownsMap Tryz.prog 9 RV p.m (x.keys.length + 1) (D.put (.string key) (.held ⟨k,n,t,r⟩))→w5.mapTurned w6 p.m→Left w s w6 (s.d.turn i { x with keys:=x.keys,props:=upd x.props key (some ⟨k,n,t,r⟩) } s.d.left):=fun w5 w6 D h5 hD hf h6 ht=>by
   have hh:=h.pur h5
   have hob5:=hh.each _ _ _ hp hxx
   have hc:=turned_chg ht
   have hnd:=pl_nodup h hp
   have hlt5:=hob5.lt
   unfold Pl.blocks at hnd
   simp only [List.nodup_cons,List.mem_cons,List.mem_append,not_or,Option.mem_toList] at hnd
   have:=hh.props hp hxx (w2:=w6) (v':=p.kv) (ks:=x.keys) (f:=upd x.props key (some ⟨k,n,t,r⟩)) (hc.sub (fun b hb=>by simp at hb;simp [hb])) ((hc.block _ (bk_lt hob5.own) (by simpa using hnd.1.1)).trans hob5.own)
     (World.ownsRow_same hob5.keys (fun g hg=>hc.block g (hlt5 g (by simp [Pl.blocks,hg])) (by simp only [List.mem_singleton];exact fun e=>hnd.2.1.1 (e ▸ hg)))) (MapAt.put hD hf h6 (by rw [if_pos hbo])) (fun b hb=>.inl hb)
   exact ⟨_,this.1,(Step.pur h5).trans this.2,rfl,fun j=>turn_at s i.toNat p ⟨p.o,p.m,p.kv,p.iv⟩ _ hp rfl j⟩
 have hnm:x.keys.length < maxLen:=by unfold maxLen;omega
 simp only [Va.v,Va.cells] at *
 clear h hx hp hxx hat hr hok hvw hob hbo hy hkn hki hxp
 rcases ways with ⟨hk,q1,hi⟩ | ⟨hk,hi⟩ | ⟨hk,q,hi⟩
 all_goals
   try rw [hi] at IX
   try (simp only [hi] at IX)
   try unfold lenKey at q1
   try have hk':=of_decide_eq_false hk
   go_enter Tryz.func50,Tryz.ntmps50
   go_wp2_with fail
   go_wp2_with fail
   refine (AT).mono ?_
   rintro e w2 ⟨rfl,rfl⟩
   go_wp2_with fail
   go_wp2_with fail
   refine (RT).mono ?_
   rintro e w2 ⟨rfl,h2⟩
   have ob:=(O2 _ h2).2.own
   try rw [hk] at ob
   have q0:=bk_cell ob 0 _ rfl
   clear AT RT ob
   go_wp2_with fail
   refine (IX _).mono ?_
   rintro e w3 ⟨rfl,h3⟩
   have h23:=h2.trans h3
   have B:=(O2 _ h23).2.own
   try rw [hk] at B
   have q0:=bk_cell B 0 _ rfl
   have q6:=bk_cell B 6 _ rfl
   have B4:=bk_alloc B (.cells #[.int .i64 yk,.float .f64 yn,.string ⟨yt.toArray⟩,.int .i64 yr] 25)
   have HB4:=bk_alloc (O2 _ h23).1.own (.cells #[.int .i64 yk,.float .f64 yn,.string ⟨yt.toArray⟩,.int .i64 yr] 25)
   have V4:=bk_alloc (V2 _ h23) (.cells #[.int .i64 yk,.float .f64 yn,.string ⟨yt.toArray⟩,.int .i64 yr] 25)
   obtain ⟨D,hD,hf,f3,f1⟩:=M2 _ h23
   have hD4:=hD.alloc (.cells #[.int .i64 yk,.float .f64 yn,.string ⟨yt.toArray⟩,.int .i64 yr] 25)
   clear IX V2 M2 O2 B
   go_wp2_with (at_lookup;refine wpList_lookup_own_ok _ rfl _ _ 65 rfl 9 25 va_law Tryz.underlying65 _ (zero_va _) (.held Va.zero) [] hz p.m _ D rfl hD _ _ rfl hkey ?_)
   intro v ps hv
   try rw [f3] at hv
   obtain rfl:=RV_inv hv
   try rw [f1]
   simp only [Va.v,Va.cells]
   have p4:=(p1.trans h23).alloc (.cells #[.int .i64 yk,.float .f64 yn,.string ⟨yt.toArray⟩,.int .i64 yr] 25)
   have Z6:∀ z:PW (w3.alloc (.cells #[.int .i64 yk,.float .f64 yn,.string ⟨yt.toArray⟩,.int .i64 yr] 25)),z.to.cell? ⟨p.o,6,none⟩=some (.map (some p.m)):=fun z=>bk_cell (bk_pur B4 z.pur) 6 _ rfl
   have Z0:∀ z:PW (w3.alloc (.cells #[.int .i64 yk,.float .f64 yn,.string ⟨yt.toArray⟩,.int .i64 yr] 25)),z.to.cell? ⟨w.heap.size,0,none⟩=some (.int .i64 k):=fun z=>bk_cell (bk_pur V4 z.pur) 0 _ rfl
   have Z1:∀ z:PW (w3.alloc (.cells #[.int .i64 yk,.float .f64 yn,.string ⟨yt.toArray⟩,.int .i64 yr] 25)),z.to.cell? ⟨w.heap.size,1,none⟩=some (.float .f64 n):=fun z=>bk_cell (bk_pur V4 z.pur) 1 _ rfl
   have Z2:∀ z:PW (w3.alloc (.cells #[.int .i64 yk,.float .f64 yn,.string ⟨yt.toArray⟩,.int .i64 yr] 25)),z.to.cell? ⟨w.heap.size,2,none⟩=some (.string ⟨t.toArray⟩):=fun z=>bk_cell (bk_pur V4 z.pur) 2 _ rfl
   have Z3:∀ z:PW (w3.alloc (.cells #[.int .i64 yk,.float .f64 yn,.string ⟨yt.toArray⟩,.int .i64 yr] 25)),z.to.cell? ⟨w.heap.size,3,none⟩=some (.int .i64 r):=fun z=>bk_cell (bk_pur V4 z.pur) 3 _ rfl
   clear q0 q6 B4 HB4 V4
   go_wp2_with fail
   refine wp_region_pur_tail 6 (by kernel_rfl) (by kernel_rfl) ?_
   simp only [List.take_succ_cons,List.take_zero,List.drop_succ_cons,List.drop_zero]
   repeat (go_big_quiet_step (fail))
   refine wpQuiet_nil ?_
   intro w5 h5
   have hD5:=World.ownsMap_same hD4 (h5.block _ hD4.lt)
   refine wpList_mapUpdate_in _ rfl _ _ _ 65 rfl 9 25 va_law Tryz.underlying65 RV p.m _ D rfl hD5 hnm _ _ _ rfl rfl hkey _ _ hval ?_
   intro w6 hown6 ht6
   have HF:=hfin w5 w6 D (p4.trans h5) hD5 hf.out hown6 ht6
   clear hfin hD hD4 hD5 hown6 ht6 Z0 Z1 Z2 Z3 Z6 hf
   go_wp2
   go_ret
   exact ⟨rfl,HF⟩
theorem str_info:(Tryz.prog.info? 9).map (fun i=>(i.zero.map (·.cells.size),i.size,i.bytes))=some (some 1,1,16):=by kernel_rfl
theorem prop_added {w4 w5 w7 w8:World} {s:Hs} (h:HpAt w4 s) {i:Nat} {p:Pl} {x:Ob} (hp:s.ps[i]?=some p) (hx:s.xs[i]?=some x) {v5:Value} {O:Obj} {key:List UInt8} {v:Va} {D:DataW Va}
   (hgrow:(w4.alloc O).grownBy w5 p.kv.ownBlock) (hown:w5.ownsRow 0 9 1 v5 (x.keys.length + 1) (keyVs x.keys ++ [.string ⟨key.toArray⟩]))
   (hid:v5.ownBlock=p.kv.ownBlock∨v5.ownBlock=some (w4.alloc O).heap.size) (h7:Pur (w5.setCell ⟨p.o,5,none⟩ v5) w7) (hD:w7.ownsMap Tryz.prog 9 RV p.m x.keys.length D)
   (hf:∀ k,Maps.has D (.string k)=(x.props k).isSome∧∀ z,D.atKey (.string k) z=((x.props k).map DataW.held).getD z)
   (h8:w8.ownsMap Tryz.prog 9 RV p.m (x.keys.length + 1) (D.put (.string key) (.held v))) (ht:w7.mapTurned w8 p.m) (hbo:(x.props key).isSome=false) :
   HpAt w8 (s.turn i ⟨p.o,p.m,v5,p.iv⟩ { x with keys:=x.keys ++ [key],props:=upd x.props key (some v) })∧Step w4 s w8 (s.turn i ⟨p.o,p.m,v5,p.iv⟩ { x with keys:=x.keys ++ [key],props:=upd x.props key (some v) }):=by
 have hob:=h.each i p x hp hx
 have hnd:=pl_nodup h hp
 have hlt:=hob.lt
 have lo:=hlt p.o (by simp [Pl.blocks])
 have lm:=hlt p.m (by simp [Pl.blocks])
 unfold Pl.blocks at hnd
 simp only [List.nodup_cons,List.mem_cons,List.mem_append,not_or,Option.mem_toList] at hnd
 obtain ⟨⟨n1,n2,n3⟩,⟨n4,n5⟩,n6⟩:=hnd
 have hsz:(w4.alloc O).heap.size=w4.heap.size + 1:=by simp
 have hc:=turned_chg ht
 have hg5:∀ g,v5.ownBlock=some g→g≠p.o∧g≠p.m∧(p.kv.ownBlock=some g∨w4.heap.size≤g):=fun g hg=>by
   rcases hid with e | e
   · rw [hg] at e
     exact ⟨fun h=>n2 (by rw [← e,h]),fun h=>n4 (by rw [← e,h]),.inl e.symm⟩
   · rw [hg] at e
     simp only [Option.some.injEq] at e
     exact ⟨by omega,by omega,.inr (by omega)⟩
 have B5:=(hgrow.block _ (bk_lt (bk_alloc hob.own O)) (fun e=>n2 e.symm)).trans (bk_alloc hob.own O)
 have B8:=(hc.block _ (bk_lt (bk_pur (bk_set B5 5 v5) h7)) (by simpa using n1)).trans (bk_pur (bk_set B5 5 v5) h7)
 refine h.props hp hx (w2:=w8) (v':=v5) (ks:=x.keys ++ [key]) (f:=upd x.props key (some v)) ?_ B8 ?_ ?_ (fun b hb=>(hg5 b hb).2.2)
 · refine (Chg.purS ((Pur.refl w4).alloc O) _).trans (((Chg.grownS hgrow).sub fun b hb=>?_).trans (((Chg.set w5 ⟨p.o,5,none⟩ v5).sub fun b hb=>?_).trans ((Chg.purS h7 _).trans (hc.sub fun b hb=>?_))))
   · exact List.mem_cons_of_mem _ (List.mem_cons_of_mem _ hb)
   · simp at hb;simp [hb]
   · simp at hb;simp [hb]
 · have hl:(x.keys ++ [key]).length=x.keys.length + 1:=by simp
   have hk:keyVs (x.keys ++ [key])=keyVs x.keys ++ [.string ⟨key.toArray⟩]:=by simp [keyVs]
   rw [hl,hk]
   refine World.ownsRow_same hown fun g hg=>?_
   have hlg:=(hown.lt g hg).2
   have e1:(w5.setCell ⟨p.o,5,none⟩ v5).heap[g]?=w5.heap[g]?:=RowKit.Below.heap_setCell _ _ _ _ (hg5 g hg).1
   have hlg':g < (w5.setCell ⟨p.o,5,none⟩ v5).heap.size:=by simpa [World.setCell] using hlg
   exact (hc.block g (Nat.lt_of_lt_of_le hlg' h7.size) (by simpa using (hg5 g hg).2.1)).trans ((h7.block g hlg').trans e1)
 · have hl:(x.keys ++ [key]).length=x.keys.length + 1:=by simp
   rw [hl]
   exact MapAt.put hD hf h8 (by rw [hbo];simp)
theorem put_prop_new (s:Hs) (i:Int) (x:Ob) (key:List UInt8) (v:Va) (w:World) (h:HpAt w s) {G:Nat} (hok:s.d.Ok G) (hx:s.d.obj i=some x) (hvw:v.wf) (hr:v.right s.d.xs.length=true) (hkl:key.length≤1000000) (hkn:¬ (x.kind=2∧key=lenKey)) (hki:(if x.kind=2 then index key else none)=none) (hbo:(x.props key).isSome=false) (hlt:¬ s.d.left < 1) :
   Calls Tryz.prog 50 #[.pointer (some ⟨s.h,0,none⟩),.int .i64 i,.string ⟨key.toArray⟩,v.v] w fun e w'=>e=.returned (.int .i64 0)∧Left w s w' (s.d.turn i (x.prop key v) (s.d.left - 1)):=by
 obtain ⟨k,n,t,r⟩:=v
 have p1:Pur w (w.alloc (.cells #[.int .i64 k,.float .f64 n,.string ⟨t.toArray⟩,.int .i64 r] 25)):=(Pur.refl w).alloc _
 obtain ⟨p,hp,hxx,hat,hob⟩:=h.pl hx
 have AT:=at_any s i _ (h.pur p1)
 rw [hat] at AT
 have RT:=right_any s ⟨k,n,t,r⟩ _ (h.pur p1) hvw.1 hvw.2
 rw [show s.ps.length=s.d.xs.length from h.len.symm,hr] at RT
 have V2:∀ w2,Pur (w.alloc (.cells #[.int .i64 k,.float .f64 n,.string ⟨t.toArray⟩,.int .i64 r] 25)) w2→w2.heap[w.heap.size]?=some (.cells #[.int .i64 k,.float .f64 n,.string ⟨t.toArray⟩,.int .i64 r] 25 (0,0)):=fun w2 h2=>bk_pur (bk_new _ _) h2
 have O2:∀ w2,Pur (w.alloc (.cells #[.int .i64 k,.float .f64 n,.string ⟨t.toArray⟩,.int .i64 r] 25)) w2→HpAt w2 s∧ObIn w2 p x:=fun w2 h2=>⟨h.pur (p1.trans h2),(h.pur (p1.trans h2)).each _ _ _ hp hxx⟩
 have IX:=fun w=>index_any key w (by omega)
 have hkey:=key_lit (k:=key) (by unfold maxLen;omega)
 have hz:=RV_v Va.zero
 obtain ⟨y,hy⟩:∃ y,(x.props key).getD Va.zero=y:=⟨_,rfl⟩
 have M2:∀ w2,Pur (w.alloc (.cells #[.int .i64 k,.float .f64 n,.string ⟨t.toArray⟩,.int .i64 r] 25)) w2→∃ D,w2.ownsMap Tryz.prog 9 RV p.m x.keys.length D∧Hid (∀ k,Maps.has D (.string k)=(x.props k).isSome∧∀ z,D.atKey (.string k) z=((x.props k).map DataW.held).getD z)∧D.atKey (.string key) (.held Va.zero)=.held y∧Maps.has D (.string key)=false:=fun w2 h2=>by
   obtain ⟨D,hD,hf⟩:=(O2 w2 h2).2.props
   refine ⟨D,hD,Lib.hid hf,?_,(hf key).1.trans hbo⟩
   rw [(hf key).2,← hy]
   cases x.props key <;> rfl
 obtain ⟨yk,yn,yt,yr⟩:=y
 have ways:(x.kind=2∧(key == lenKey)=false∧ix (index key)=(0,false))∨(decide (x.kind=2)=false∧ix (index key)=(0,false))∨(decide (x.kind=2)=false∧∃ q:Int,ix (index key)=(q,true)):=by
   by_cases h2:x.kind=2
   · rw [if_pos h2] at hki
     exact .inl ⟨h2,eqkey_no (fun e=>hkn ⟨h2,e⟩),by rw [hki];rfl⟩
   · right
     have hd:decide (x.kind=2)=false:=decide_eq_false h2
     rcases index key with _ | q
     · exact .inl ⟨hd,rfl⟩
     · exact .inr ⟨hd,q,rfl⟩
 have hkl2:=(hok.mem (Hd.obj_mem hx).1).1
 have hb:=hok.bounds
 have hltI:¬ s.left < 1:=hlt
 simp only [Hs.d] at hb
 have hltD:decide (s.left < 1)=false:=decide_eq_false hltI
 have wr:IntKind.i64.wrap (s.left - 1)=s.left - 1:=IntWalk.i64_in _ (by omega)
 obtain ⟨i0,hi0,hzz⟩:=Option.map_eq_some_iff.1 str_info
 simp only [Prod.mk.injEq] at hzz
 obtain ⟨hz0,hz1,hz2⟩:=hzz
 obtain ⟨z0,hz0,hzs⟩:=Option.map_eq_some_iff.1 hz0
 have hxp:x.prop key ⟨k,n,t,r⟩={ x with keys:=x.keys ++ [key],props:=upd x.props key (some ⟨k,n,t,r⟩) }:=by unfold Ob.prop;rw [hbo];rfl
 rw [hxp]
 have hval:=RV_v ⟨k,n,t,r⟩
 have hnd:=pl_nodup h hp
 have hhd:=pl_head h hp
 have hlt0:=hob.lt
 have hsl:=bk_lt h.own
 unfold Pl.blocks at hnd hhd hlt0
 simp only [List.nodup_cons,List.mem_cons,List.mem_append,not_or,Option.mem_toList] at hnd hhd
 have L4:∀ w3,Pur w w3→HpAt (w3.setCell ⟨s.h,1,none⟩ (.int .i64 (s.left - 1))) (s.less (s.left - 1))∧Step w s (w3.setCell ⟨s.h,1,none⟩ (.int .i64 (s.left - 1))) (s.less (s.left - 1)):=fun w3 h3 =>
   ⟨((h.pur h3).less _).1,(Step.pur h3).trans ((h.pur h3).less _).2⟩
 have hpl:(s.less (s.left - 1)).ps[i.toNat]?=some p:=hp
 have hxl:(s.less (s.left - 1)).xs[i.toNat]?=some x:=hxx
 have E4:∀ w4,HpAt w4 (s.less (s.left - 1))→ObIn w4 p x:=fun w4 h4=>h4.each _ _ _ hpl hxl
 have hfin:∀ (w4 w5 w7 w8:World) (v5:Value) (O:Obj) (D:DataW Va),HpAt w4 (s.less (s.left - 1))→Step w s w4 (s.less (s.left - 1))→(w4.alloc O).grownBy w5 p.kv.ownBlock→w5.ownsRow 0 9 1 v5 (x.keys.length + 1) (keyVs x.keys ++ [.string ⟨key.toArray⟩])→(v5.ownBlock=p.kv.ownBlock∨v5.ownBlock=some (w4.alloc O).heap.size)→Pur (w5.setCell ⟨p.o,5,none⟩ v5) w7→w7.ownsMap Tryz.prog 9 RV p.m x.keys.length D→Hid (∀ k,Maps.has D (.string k)=(x.props k).isSome∧∀ z,D.atKey (.string k) z=((x.props k).map DataW.held).getD z)→w8.ownsMap Tryz.prog 9 RV p.m (x.keys.length + 1) (D.put (.string key) (.held ⟨k,n,t,r⟩))→w7.mapTurned w8 p.m→Left w s w8 (s.d.turn i { x with keys:=x.keys ++ [key],props:=upd x.props key (some ⟨k,n,t,r⟩) } (s.d.left - 1)):=fun w4 w5 w7 w8 v5 O D h4 k4 hg hv hid h7 hD hf h8 ht=>by
   have:=prop_added h4 hpl hxl hg hv hid h7 hD hf.out h8 ht hbo
   exact ⟨_,this.1,k4.trans this.2,rfl,fun j=>(turn_at (s.less (s.left - 1)) i.toNat p ⟨p.o,p.m,v5,p.iv⟩ _ hpl rfl j).trans (less_at s _ j)⟩
 have K6:∀ (w3 w5:World) (v5:Value) (O:Obj) (b:Nat),b < w3.heap.size→b≠s.h→b≠p.o→p.kv.ownBlock≠some b→((w3.setCell ⟨s.h,1,none⟩ (.int .i64 (s.left - 1))).alloc O).grownBy w5 p.kv.ownBlock→(w5.setCell ⟨p.o,5,none⟩ v5).heap[b]?=w3.heap[b]?:=fun w3 w5 v5 O b h1 h2 h3 h4 hg=>by
   have hx3:w3.heap[b]?=some w3.heap[b]:=Array.getElem?_eq_getElem h1
   have e1:=bk_alloc (bk_other hx3 (a:=⟨s.h,1,none⟩) h2 (.int .i64 (s.left - 1))) O
   have e2:=(hg.block b (bk_lt e1) (fun e=>h4 e.symm)).trans e1
   rw [hx3]
   exact bk_other e2 (a:=⟨p.o,5,none⟩) h3 v5
 have hnm:x.keys.length < maxLen:=by unfold maxLen;omega
 have mh:p.m≠s.h:=fun e=>hhd.2.1 e.symm
 have mo:p.m≠p.o:=fun e=>hnd.1.1 e.symm
 have mk:p.kv.ownBlock≠some p.m:=hnd.2.1.1
 have ok':some p.o≠p.kv.ownBlock:=fun e=>hnd.1.2.1 e.symm
 have vh:w.heap.size≠s.h:=by omega
 have vo:w.heap.size≠p.o:=fun e=>by have:=hlt0 p.o (by simp);omega
 have vk:p.kv.ownBlock≠some w.heap.size:=fun e=>by have:=hlt0 w.heap.size (by simp [e]);omega
 have honeK:∀ u∈[Value.string ⟨key.toArray⟩],u.oneCell'=true:=by intro u hu;obtain rfl:=List.mem_singleton.1 hu;rfl
 have hc3:x.keys.length + 1≤maxLen:=by unfold maxLen;omega
 have hc4:(x.keys.length + 1) * 16≤140737488355328:=by omega
 simp only [Va.v,Va.cells] at *
 clear h hx hp hxx hat hr hok hvw hob hbo hy hkn hki hlt hxp hnd hhd hlt0 hpl hxl hsl
 rcases ways with ⟨hk,q1,hi⟩ | ⟨hk,hi⟩ | ⟨hk,q,hi⟩
 all_goals
   try rw [hi] at IX
   try (simp only [hi] at IX)
   try unfold lenKey at q1
   try have hk':=of_decide_eq_false hk
   go_enter Tryz.func50,Tryz.ntmps50
   go_wp2_with fail
   go_wp2_with fail
   refine (AT).mono ?_
   rintro e w2 ⟨rfl,rfl⟩
   go_wp2_with fail
   go_wp2_with fail
   refine (RT).mono ?_
   rintro e w2 ⟨rfl,h2⟩
   have ob:=(O2 _ h2).2.own
   try rw [hk] at ob
   have q0:=bk_cell ob 0 _ rfl
   clear AT RT ob
   go_wp2_with fail
   refine (IX _).mono ?_
   rintro e w3 ⟨rfl,h3⟩
   have h23:=h2.trans h3
   have B:=(O2 _ h23).2.own
   try rw [hk] at B
   have q0:=bk_cell B 0 _ rfl
   have q6:=bk_cell B 6 _ rfl
   have B4:=bk_alloc B (.cells #[.int .i64 yk,.float .f64 yn,.string ⟨yt.toArray⟩,.int .i64 yr] 25)
   have HB4:=bk_alloc (O2 _ h23).1.own (.cells #[.int .i64 yk,.float .f64 yn,.string ⟨yt.toArray⟩,.int .i64 yr] 25)
   have V4:=bk_alloc (V2 _ h23) (.cells #[.int .i64 yk,.float .f64 yn,.string ⟨yt.toArray⟩,.int .i64 yr] 25)
   obtain ⟨D,hD,hf,f3,f1⟩:=M2 _ h23
   have hD4:=hD.alloc (.cells #[.int .i64 yk,.float .f64 yn,.string ⟨yt.toArray⟩,.int .i64 yr] 25)
   clear IX V2 M2 O2 B
   go_wp2_with (at_lookup;refine wpList_lookup_own_ok _ rfl _ _ 65 rfl 9 25 va_law Tryz.underlying65 _ (zero_va _) (.held Va.zero) [] hz p.m _ D rfl hD _ _ rfl hkey ?_)
   intro v ps hv
   try rw [f3] at hv
   obtain rfl:=RV_inv hv
   try rw [f1]
   simp only [Va.v,Va.cells]
   have p4:=(p1.trans h23).alloc (.cells #[.int .i64 yk,.float .f64 yn,.string ⟨yt.toArray⟩,.int .i64 yr] 25)
   have g1:=bk_cell HB4 1 _ rfl
   have f1':=bk_free HB4 1
   obtain ⟨H4,K4⟩:=L4 _ p4
   have ob4:=E4 _ H4
   have q5:=bk_cell ob4.own 5 _ rfl
   have R4:=ob4.keys.alloc (.cells #[.string ⟨key.toArray⟩] 9)
   have hid3:=Lib.hid (And.intro hkl2 (And.intro vh vo))
   clear L4 E4 B4 HB4 q6
   go_wp2_with (at_builtin;refine wpList_append_own_at _ rfl _ _ 64 rfl 0 9 i0 z0 1 16 Tryz.underlying64 hi0 hz0 hz1 hz2 hzs (by decide) _ _ _ rfl R4 ⟨_,0,none⟩ 1 1 [.string ⟨key.toArray⟩] rfl rfl ?c1 ?c2 ?c3 ?c4 ?c5 ?_)
   case c1 =>
     intro j u hj
     have e:=cell_one_new ((w3.alloc (.cells #[.int .i64 yk,.float .f64 yn,.string ⟨yt.toArray⟩,.int .i64 yr] 25)).setCell ⟨s.h,1,none⟩ (.int .i64 (s.left - 1))) (.string ⟨key.toArray⟩) 9 j u hj
     simpa using e
   case c5=>exact Nat.zero_le _
   case c2=>exact honeK
   case c3=>exact hc3
   case c4=>exact hc4
   intro v5 w5 hown5 hgrow _ hid
   have B5:=(hgrow.block _ (bk_lt (bk_alloc ob4.own _)) ok').trans (bk_alloc ob4.own _)
   have f5:=bk_free B5 5
   have k5:=bk_cell B5 5 _ rfl
   have B6:=bk_set B5 5 v5
   have V6:=(K6 _ w5 v5 _ w.heap.size (bk_lt V4) vh vo vk hgrow).trans V4
   have D6:=World.ownsMap_same hD4 (K6 _ w5 v5 _ p.m hD4.lt mh mo mk hgrow)
   have HF:=fun w7 w8 D=>hfin _ w5 w7 w8 v5 _ D H4 K4 hgrow hown5 (by simpa using hid)
   obtain ⟨a5,c5,rfl⟩:=row_shape hown5
   have Z6:∀ z:PW (w5.setCell ⟨p.o,5,none⟩ (.slice a5 (x.keys.length + 1) c5)),z.to.cell? ⟨p.o,6,none⟩=some (.map (some p.m)):=fun z=>bk_cell (bk_pur B6 z.pur) 6 _ rfl
   have Z0:∀ z:PW (w5.setCell ⟨p.o,5,none⟩ (.slice a5 (x.keys.length + 1) c5)),z.to.cell? ⟨w.heap.size,0,none⟩=some (.int .i64 k):=fun z=>bk_cell (bk_pur V6 z.pur) 0 _ rfl
   have Z1:∀ z:PW (w5.setCell ⟨p.o,5,none⟩ (.slice a5 (x.keys.length + 1) c5)),z.to.cell? ⟨w.heap.size,1,none⟩=some (.float .f64 n):=fun z=>bk_cell (bk_pur V6 z.pur) 1 _ rfl
   have Z2:∀ z:PW (w5.setCell ⟨p.o,5,none⟩ (.slice a5 (x.keys.length + 1) c5)),z.to.cell? ⟨w.heap.size,2,none⟩=some (.string ⟨t.toArray⟩):=fun z=>bk_cell (bk_pur V6 z.pur) 2 _ rfl
   have Z3:∀ z:PW (w5.setCell ⟨p.o,5,none⟩ (.slice a5 (x.keys.length + 1) c5)),z.to.cell? ⟨w.heap.size,3,none⟩=some (.int .i64 r):=fun z=>bk_cell (bk_pur V6 z.pur) 3 _ rfl
   clear hown5 hgrow hid hfin K6 H4 K4 R4 B5 B6 V6 ob4 V4 hD hD4 hz0 hz1 hz2 hzs hi0 p4 q5 g1 f1'
   go_wp2_with fail
   refine wp_region_pur_tail 6 (by kernel_rfl) (by kernel_rfl) ?_
   simp only [List.take_succ_cons,List.take_zero,List.drop_succ_cons,List.drop_zero]
   repeat (go_big_quiet_step (fail))
   refine wpQuiet_nil ?_
   intro w7 h7
   have hD7:=World.ownsMap_same D6 (h7.block _ D6.lt)
   refine wpList_mapUpdate_in _ rfl _ _ _ 65 rfl 9 25 va_law Tryz.underlying65 RV p.m _ D rfl hD7 hnm _ _ _ rfl rfl hkey _ _ hval ?_
   intro w8 hown8 ht8
   have HG:=HF w7 w8 D h7 hD7 hf hown8 ht8
   clear HF hD7 hown8 ht8 Z0 Z1 Z2 Z3 Z6 hf D6
   go_wp2
   go_ret
   exact ⟨rfl,HG⟩
theorem index_most {l:List UInt8} {n:Nat} (h:index l=some n):n≤2147483647:=by
 unfold index at h
 split at h
 · cases h
 · unfold most31 at h
   rcases hx:idxL (unitsOf l) 0 false with _ | k
   · rw [hx] at h;cases h
   · rw [hx] at h
     simp only [Option.bind_some] at h
     split at h
     · cases h
     · cases h;omega
theorem put_any (s:Hs) (i:Int) (key:List UInt8) (v:Va) (w:World) (h:HpAt w s) {G:Nat} (hok:s.d.Ok G) (hvw:v.wf) (hkl:key.length≤1000000) :
   Calls Tryz.prog 50 #[.pointer (some ⟨s.h,0,none⟩),.int .i64 i,.string ⟨key.toArray⟩,v.v] w fun e w'=>e=.returned (.int .i64 (s.d.put i key v).1)∧Left w s w' (s.d.put i key v).2:=by
 unfold Hd.put
 rcases hx:s.d.obj i with _ | x
 · exact put_none s i key v w h hx
 · simp only
   rcases hr:v.right s.d.xs.length with _ | _
   · rw [if_pos rfl]
     exact put_wrong s i x key v w h hx hvw hr
   · rw [if_neg (by simp)]
     by_cases hl:x.kind=2∧key=lenKey
     · rw [if_pos hl]
       rcases hn:lenOf v with _ | m
       · exact put_len_bad s i x key v w h hok hx hvw hr hl.1 hl.2 hn
       · exact put_len s i x key v w h hok hx hvw hr hl.1 hl.2 m hn
     · rw [if_neg hl]
       rcases hi:(if x.kind=2 then index key else none) with _ | m
       · simp only
         rcases hb:(x.props key).isSome with _ | _
         · rw [if_neg (by simp)]
           by_cases hlt:s.d.left < 1
           · rw [if_pos hlt]
             exact put_prop_full s i x key v w h hok hx hvw hr hkl hl hi hb hlt
           · rw [if_neg hlt]
             exact put_prop_new s i x key v w h hok hx hvw hr hkl hl hi hb hlt
         · rw [if_pos rfl]
           exact put_prop_old s i x key v w h hok hx hvw hr hkl hl hi hb
       · have hk:x.kind=2:=Classical.byContradiction fun hk=>by rw [if_neg hk] at hi;cases hi
         rw [if_pos hk] at hi
         have hne:¬ key=lenKey:=fun e=>hl ⟨hk,e⟩
         have hm2:=index_most hi
         simp only
         by_cases hm:x.items.length≤m
         · rw [if_pos hm]
           by_cases hlt:s.d.left < (m:Int) + 1 - x.items.length
           · rw [if_pos hlt]
             exact put_full s i x key v w h hok hx hvw hr hk hkl hne m hi hm hm2 hlt
           · rw [if_neg hlt]
             exact put_grow s i x key v w h hok hx hvw hr hk hkl hne m hi hm hm2 hlt
         · rw [if_neg hm]
           exact put_item s i x key v w h hok hx hvw hr hk hkl hne m hi (by omega)
end Go.Proofs.YtgdolcoiihagfaaGreatDoor
