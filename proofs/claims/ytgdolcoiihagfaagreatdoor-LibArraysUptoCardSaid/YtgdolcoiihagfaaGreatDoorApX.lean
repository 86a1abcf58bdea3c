/- append(s, make([]T, m)...) onto a slice of one's own. append onto a row of the call's own, the source a slice that reads: nil, empty or not. -/
import Derived.Test.YtgdolcoiihagfaaGreatDoorTbE
import Derived.Lib.AppendZerosOnto
import Derived.Maps.AppendAt
import Derived.Test.YtgdolcoiihagfaaGreatDoorBase
import Derived.Laws.AppendOwnNone
namespace Go.Proofs.YtgdolcoiihagfaaGreatDoor
open Go Go.RowKit
set_option linter.all false
set_option maxRecDepth 100000
theorem run_append_own_zeros {P:Program} (w:World) (base:Nat) (t tn ty e:TypeId) (kq kn:IntKind) (i:TypeInfo) (z:Value) (size bytes:Nat) (ht:P.underlying t=some (.slice e)) (htn:P.underlying tn=some (.int kn)) (hi:P.info? e=some i) (hz:i.zero=some z)
   (hsize:i.size=size) (hby:i.bytes=bytes) (hzs:z.cells.size=size) (hsz:0 < size) (h1:∀ u∈z.cells.toList,u.oneCell'=true)
   (v:Value) (n:Nat) (xs:List Value) (hown:w.ownsRow base e size v n xs) (m:Nat)
   (h63:n + m≤maxLen) (hbytes:(n + m) * bytes≤140737488355328) (hbase:base≤w.heap.size) :
   ∃ v' w',(Builtin.append_ #[t,tn] ty #[v,.int kq m]).run P w=.ok v' w'∧w'.ownsRow base e size v' (n + m) (xs ++ (Builtin.zeroCells z.cells m).toList)∧w.grownBy w' v.ownBlock∧(v'.ownBlock=v.ownBlock∨v'.ownBlock=some w.heap.size):=by
 subst hsize
 subst hby
 have hsmall:n + m≤9223372036854775807:=by simp only [maxLen] at h63;omega
 have hlz:(Builtin.zeroCells z.cells m).toList.length=m * i.size:=by rw [Array.length_toList,size_zeroCells,hzs]
 have h1z:∀ u∈(Builtin.zeroCells z.cells m).toList,u.oneCell'=true:=by
   intro u hu
   simp [Builtin.zeroCells] at hu
   obtain ⟨j,hj,rfl⟩:=hu
   have hlt:j % z.cells.size < z.cells.size:=Nat.mod_lt _ (by omega)
   rw [getElem!_pos z.cells _ hlt]
   exact h1 _ (by simp)
 have hlen:(xs ++ (Builtin.zeroCells z.cells m).toList).length=(n + m) * i.size:=by rw [List.length_append,hown.1,hlz,Nat.add_mul]
 have grown:∀ (old:Nat),old < n + m→∀ (row:Option Nat),
     (w.drew.alloc (.cells (xs.toArray ++ Builtin.zeroCells z.cells m ++ Builtin.zeroCells z.cells (grownCap w (n + m) old e - (n + m))) e)).ownsRow base e i.size
       (.slice (some ⟨w.heap.size,0,none⟩) (n + m) (grownCap w (n + m) old e)) (n + m) (xs ++ (Builtin.zeroCells z.cells m).toList) ∧
     w.grownBy (w.drew.alloc (.cells (xs.toArray ++ Builtin.zeroCells z.cells m ++ Builtin.zeroCells z.cells (grownCap w (n + m) old e - (n + m))) e)) row:=by
   intro old ho row
   have hge:=grownCap_ge w (n + m) old e
   have hcm:grownCap w (n + m) old e≤maxLen:=grownCap_le_maxLen w (n + m) old e h63
   refine ⟨⟨hlen,.inr ⟨w.heap.size,_,_,rfl,hbase,Go.heap_alloc_new w.drew _,hge,hcm,?_,?_⟩⟩,⟨rfl,rfl,rfl,by simp,fun k hk _=>Go.heap_alloc_old w.drew _ hk⟩⟩
   · simp only [Array.size_append,List.size_toArray,size_zeroCells,hzs,hown.1,← Nat.add_mul]
     congr 1
     omega
   · simp only [Array.toList_append,List.append_assoc]
     rw [← List.append_assoc,← hlen]
     exact List.take_left
 have hm63:(m:Int)≤9223372036854775807:=by omega
 have hmw:IntKind.i64.wrap (m:Int)=m:=IntWalk.i64_in _ (by omega)
 have hmul:m * i.bytes≤(n + m) * i.bytes:=Nat.mul_le_mul_right _ (Nat.le_add_left m n)
 have h0w:IntKind.i64.wrap 0=0:=by decide
 by_cases hm:m=0
 · subst hm
   refine ⟨v,w,?_,?_,⟨rfl,rfl,rfl,Nat.le_refl _,fun _ _ _=>rfl⟩,Or.inl rfl⟩
   · rcases hown.2 with ⟨rfl,rfl⟩ | ⟨g,cap,cur,rfl,hbg,hg,hnc,hcm,hcs,htake⟩
     · simp [Builtin.append_,run_underlying ht,run_underlying htn,sizeOf,typeInfo,hi,asInt,asIntOf,h0w]
     · have hst:=run_storeCells_at P g (n * i.size) e [] 0 cur w hg (by simp only [List.length_nil,Nat.add_zero];rw [hcs];exact Nat.mul_le_mul_right _ hnc) (by simp)
       simp [Builtin.append_,run_underlying ht,run_underlying htn,sizeOf,typeInfo,hi,asInt,asIntOf,hnc,storeCells,h0w]
   · have e0:(Builtin.zeroCells z.cells 0).toList=[]:=List.eq_nil_of_length_eq_zero (by rw [hlz,Nat.zero_mul])
     rw [e0,List.append_nil]
     exact hown
 rcases hown.2 with ⟨rfl,rfl⟩ | ⟨g,cap,cur,rfl,hbg,hg,hnc,hcm,hcs,htake⟩
 · have hx:xs=[]:=List.eq_nil_of_length_eq_zero (by simpa using hown.1)
   subst hx
   have hr:=Lib.run_append_nil_zeros (P:=P) w t tn ty e i z kq kn ht htn hi hz m (by omega) hsz hm63 (by omega)
   have hgr:=grown 0 (by omega) (Value.ownBlock (.slice none 0 0))
   simp only [Nat.zero_add,List.nil_append,Array.empty_append] at hgr ⊢
   exact ⟨_,_,hr,hgr.1,hgr.2,Or.inr rfl⟩
 · by_cases hroom:n + m≤cap
   · have hfit:n * i.size + (Builtin.zeroCells z.cells m).toList.length≤cur.size:=by rw [hlz,hcs,← Nat.add_mul];exact Nat.mul_le_mul_right _ hroom
     have hst:=run_storeCells_at P g (n * i.size) e (Builtin.zeroCells z.cells m).toList 0 cur w hg (by simpa using hfit) h1z
     simp only [Nat.add_zero] at hst
     refine ⟨.slice (some ⟨g,0,none⟩) (n + m) cap,w.setRow g (cur.toList.take (n * i.size) ++ (Builtin.zeroCells z.cells m).toList ++ cur.toList.drop (n * i.size + (Builtin.zeroCells z.cells m).toList.length)).toArray,?_,⟨hlen,.inr ⟨g,cap,_,rfl,hbg,setRow_heap w g cur _ e _ hg,hroom,hcm,?_,?_⟩⟩,⟨rfl,rfl,rfl,by simp,fun k _ hk=>setRow_other w g k _ (fun e=>hk (by simp [Value.ownBlock,e]))⟩,Or.inl rfl⟩
     · have hneg:¬ ((m:Int) < 0):=by omega
       have hns:¬ (m * i.size=0):=Nat.mul_ne_zero hm (by omega)
       have h48i:¬ (281474976710656 < (m:Int) * (i.bytes:Int)):=by
         rw [← Int.natCast_mul]
         omega
       simp [Builtin.append_,run_underlying ht,run_underlying htn,sizeOf,typeInfo,zeroValue,hi,hz,asInt,asIntOf,hmw,hm,hneg,hns,h48i,hroom,Addr.add_lit]
       simp at hst
       rw [hst]
       rfl
     · simp only [List.size_toArray,List.length_append,List.length_take,List.length_drop,Array.length_toList] at hfit ⊢
       omega
     · rw [htake,← hlen]
       exact List.take_left
   · have holds:∀ j u,xs[j]?=some u→w.cell? ((⟨g,0,none⟩:Addr).add j)=some u:=hown.cells (g:=g) rfl
     have hold:=run_firstCells_some (P:=P) w.drew i.size n ⟨g,0,none⟩ n cap xs hown.1 (by simpa using holds)
     have hr:=Lib.run_append_grow_zeros (P:=P) w t tn ty e i z kq kn ht htn hi hz (some ⟨g,0,none⟩) n cap xs hold m (by omega) hsz (by omega) (by omega) (by omega) (growslice_fits (by omega) hbytes)
     have hgr:=grown cap (by omega) (Value.ownBlock (.slice (some ⟨g,0,none⟩) n cap))
     exact ⟨_,_,hr,hgr.1,hgr.2,Or.inr rfl⟩
theorem wpList_append_own_zeros {P:Program} (w:World) {ops:Array Oper} {rest:List Oper} {o:Oper} {a:Act} {Q:Exit→Act→World→Prop} (hgd:o.guard=none) (s x:Operand) (t tn:TypeId)
   (ho:o.op=.call { callee:=.builtin .append,args:=#[s,x],argTypes:=#[t,tn] })
   (base:Nat) (e:TypeId) (kq kn:IntKind) (i:TypeInfo) (z:Value) (size bytes:Nat) (ht:P.underlying t=some (.slice e)) (htn:P.underlying tn=some (.int kn)) (hi:P.info? e=some i) (hz:i.zero=some z)
   (hsize:i.size=size) (hby:i.bytes=bytes) (hzs:z.cells.size=size) (hsz:0 < size) (h1:∀ u∈z.cells.toList,u.oneCell'=true)
   (v:Value) (n:Nat) (xs:List Value) (hs:a.eval s=v) (hown:w.ownsRow base e size v n xs) (m:Nat) (hx:a.eval x=.int kq m)
   (h63:n + m≤maxLen) (hbytes:(n + m) * bytes≤140737488355328) (hbase:base≤w.heap.size)
   (h:∀ v' w',w'.ownsRow base e size v' (n + m) (xs ++ (Builtin.zeroCells z.cells m).toList)→w.grownBy w' v.ownBlock→(v'.ownBlock=v.ownBlock∨v'.ownBlock=some w.heap.size)→wpList P ops Q rest (a.put o.dst v') w') :
   wpList P ops Q (o :: rest) a w:=by
 obtain ⟨v',w',hr,h2,h3,h5⟩:=run_append_own_zeros (P:=P) w base t tn o.type e kq kn i z size bytes ht htn hi hz hsize hby hzs hsz h1 v n xs hown m h63 hbytes hbase
 exact Lib.wpList_append_run w hgd s x t tn ho v (.int kq m) hs hx v' w' hr (h v' w' h2 h3 h5)
section
variable {P:Program} {w:World}
theorem run_append_nil (base:Nat) (t ty e:TypeId) (i:TypeInfo) (size:Nat) (ht:P.underlying t=some (.slice e)) (hi:P.info? e=some i) (v:Value) (n:Nat) (xs:List Value) (hown:w.ownsRow base e size v n xs) (c:Nat) :
   (Builtin.append_ #[t,t] ty #[v,.slice none 0 c]).run P w=.ok v w:=by
 have h:=run_append_owned_none (P:=P) (w:=w) base t ty e i size ht hi v n xs hown
 exact h
/-- what a slice value gives to an append: m elements of 'size' cells -/
def Feeds (w:World) (size:Nat) (a:Option Addr) (m:Nat) (news:List Value):Prop :=
 news.length=m * size∧(0 < m→∃ ad,a=some ad∧∀ (j:Nat) u,news[j]?=some u→w.cell? (ad.add j)=some u)
theorem wp_append_feeds {o:Oper} {a:Act} {K:Act→World→Prop} {Q:Exit→Act→World→Prop} (s x:Operand) (t:TypeId)
   (ho:o.op=.call { callee:=.builtin .append,args:=#[s,x],argTypes:=#[t,t] })
   (base:Nat) (e:TypeId) (i:TypeInfo) (z:Value) (size bytes:Nat) (ht:P.underlying t=some (.slice e)) (hi:P.info? e=some i) (hz:i.zero=some z)
   (hsize:i.size=size) (hby:i.bytes=bytes) (hzs:z.cells.size=size) (hsz:0 < size)
   (v:Value) (n:Nat) (xs:List Value) (hs:a.eval s=v) (hown:w.ownsRow base e size v n xs)
   (A:Option Addr) (m c:Nat) (news:List Value) (hx:a.eval x=.slice A m c) (hf:Feeds w size A m news) (h1:∀ u∈news,u.oneCell'=true)
   (h63:n + m≤maxLen) (hbytes:(n + m) * bytes≤140737488355328) (hbase:base≤w.heap.size)
   (h:∀ v' w',w'.ownsRow base e size v' (n + m) (xs ++ news)→w.grownBy w' v.ownBlock→K (a.put o.dst v') w'):o.wp P a w K Q:=by
 cases A with
 | some ad =>
   refine wp_append_own w s x t ho base e i z size bytes ht hi hz hsize hby hzs hsz v n xs hs hown ad m c news hx hf.1 (fun j u hj=>?_) h1 h63 hbytes hbase fun v' w' g1 g2 _=>h v' w' g1 g2
   by_cases hm:0 < m
   · obtain ⟨ad',e1,e2⟩:=hf.2 hm
     cases e1
     exact e2 j u hj
   · have:news=[]:=List.length_eq_zero_iff.1 (by rw [hf.1,show m=0 by omega,Nat.zero_mul])
     rw [this] at hj
     simp at hj
 | none =>
   have hm:m=0:=by
     rcases Nat.eq_zero_or_pos m with h0 | h0
     · exact h0
     · obtain ⟨_,e1,_⟩:=hf.2 h0
       cases e1
   subst hm
   obtain rfl:news=[]:=List.length_eq_zero_iff.1 (by rw [hf.1,Nat.zero_mul])
   have hrun:=run_append_nil (P:=P) (w:=w) base t o.type e i size ht hi v n xs hown c
   unfold Oper.wp
   simp [execOp,ho,resolve,invoke,builtin,hs,hx,hrun,Result.andThen]
   exact h v w (by simpa using hown) (World.grownBy.refl w _)
/-- in a list, the operation guarded or not -/
theorem wpList_append_feeds {ops:Array Oper} {rest:List Oper} {o:Oper} {a:Act} {Q:Exit→Act→World→Prop} (hgd:Region.wanted o (yielded ops a.tmps)=true) (s x:Operand) (t:TypeId)
   (ho:o.op=.call { callee:=.builtin .append,args:=#[s,x],argTypes:=#[t,t] })
   (base:Nat) (e:TypeId) (i:TypeInfo) (z:Value) (size bytes:Nat) (ht:P.underlying t=some (.slice e)) (hi:P.info? e=some i) (hz:i.zero=some z)
   (hsize:i.size=size) (hby:i.bytes=bytes) (hzs:z.cells.size=size) (hsz:0 < size)
   (v:Value) (n:Nat) (xs:List Value) (hs:a.eval s=v) (hown:w.ownsRow base e size v n xs)
   (A:Option Addr) (m c:Nat) (news:List Value) (hx:a.eval x=.slice A m c) (hf:Feeds w size A m news) (h1:∀ u∈news,u.oneCell'=true)
   (h63:n + m≤maxLen) (hbytes:(n + m) * bytes≤140737488355328) (hbase:base≤w.heap.size)
   (h:∀ v' w',w'.ownsRow base e size v' (n + m) (xs ++ news)→w.grownBy w' v.ownBlock→wpList P ops Q rest (a.put o.dst v') w'):wpList P ops Q (o :: rest) a w :=
 wpList_step fun K hK=>by
   rw [if_pos hgd]
   exact wp_append_feeds s x t ho base e i z size bytes ht hi hz hsize hby hzs hsz v n xs hs hown A m c news hx hf h1 h63 hbytes hbase fun v' w' g1 g2=>hK _ _ (h v' w' g1 g2)
end
end Go.Proofs.YtgdolcoiihagfaaGreatDoor
