/- Layer 8: a heap of a law's own, and what its calls leave. Layer 8: (*Heap).Items. Layer 8: (*Heap).Keys. Layer 8: Function, Kind. Layer 8: Function, Kind of a heap of a law's own. Layer 8: an array of an empty slice that is not nil. -/
import Derived.Test.YtgdolcoiihagfaaGreatDoorHaC
import Derived.Test.YtgdolcoiihagfaaGreatDoorHaA
import Derived.Test.YtgdolcoiihagfaaGreatDoorApX
namespace Go.Proofs.YtgdolcoiihagfaaGreatDoor
open Go Go.RowKit
set_option linter.all false
set_option maxRecDepth 100000
set_option maxHeartbeats 100000000
structure At (w0:World) (hh G:Nat) (K:Nat→Prop) (w:World) (d:Hd):Prop where
 ex:∃ s,HpAt w s∧s.h=hh∧s.d=d∧(∀ b∈s.blocks,w0.heap.size≤b)∧∀ b,K b→b < w.heap.size∧b ∉ s.blocks
 ok:d.Ok G
 pur:Pur w0 w
def Kept (K:Nat→Prop) (w w':World):Prop:=∀ b,K b→w'.heap[b]?=w.heap[b]?
theorem Kept.trans {K:Nat→Prop} {w w1 w2:World} (h:Kept K w w1) (k:Kept K w1 w2):Kept K w w2:=fun b hb=>(k b hb).trans (h b hb)
theorem At.pure {w0 w w':World} {hh G:Nat} {K:Nat→Prop} {d:Hd} (h:At w0 hh G K w d) (hp:Pur w w'):At w0 hh G K w' d∧Kept K w w':=by
 obtain ⟨s,h1,h2,h3,h4,h5⟩:=h.ex
 exact ⟨⟨⟨s,h1.pur hp,h2,h3,h4,fun b hb=>⟨Nat.lt_of_lt_of_le (h5 b hb).1 hp.size,(h5 b hb).2⟩⟩,h.ok,h.pur.trans hp⟩,fun b hb=>hp.block b (h5 b hb).1⟩
theorem At.next {w0 w w':World} {hh G:Nat} {K:Nat→Prop} {d d':Hd} (h:At w0 hh G K w d) (hok:d'.Ok G) {s s':Hs} (h1:HpAt w s) (h2:s.h=hh) (h4:∀ b∈s.blocks,w0.heap.size≤b) (h5:∀ b,K b→b < w.heap.size∧b ∉ s.blocks)
   (k1:HpAt w' s') (k2:Step w s w' s') (k3:s'.d=d'):At w0 hh G K w' d'∧Kept K w w':=by
 refine ⟨⟨⟨s',k1,k2.h.trans h2,k3,fun b hb=>?_,fun b hb=>⟨Nat.lt_of_lt_of_le (h5 b hb).1 k2.chg.size,fun hm=>?_⟩⟩,hok,?_⟩,fun b hb=>k2.chg.block b (h5 b hb).1 (h5 b hb).2⟩
 · rcases k2.new b hb with hb | hb
   · exact h4 b hb
   · exact Nat.le_trans h.pur.size hb
 · rcases k2.new b hm with hm | hm
   · exact (h5 b hb).2 hm
   · have:=(h5 b hb).1;omega
 · have hc:=k2.chg
   exact ⟨hc.os.trans h.pur.os,hc.tape.trans h.pur.tape,hc.output.trans h.pur.output,Nat.le_trans h.pur.size hc.size,fun k hk=>(hc.block k (Nat.lt_of_lt_of_le hk h.pur.size) (fun hm=>by have:=h4 k hm;omega)).trans (h.pur.block k hk)⟩
theorem At.keep {w0 w w':World} {hh G:Nat} {K:Nat→Prop} {d:Hd} (h:At w0 hh G K w d) (hp:Pur w w') (b:Nat) (hb:w.heap.size≤b) (hb':b < w'.heap.size):At w0 hh G (fun k=>K k∨k=b) w' d:=by
 obtain ⟨s,h1,h2,h3,h4,h5⟩:=h.ex
 refine ⟨⟨s,h1.pur hp,h2,h3,h4,fun k hk=>?_⟩,h.ok,h.pur.trans hp⟩
 rcases hk with hk | rfl
 · exact ⟨Nat.lt_of_lt_of_le (h5 k hk).1 hp.size,(h5 k hk).2⟩
 · exact ⟨hb',fun hm=>by have:=h1.lt _ hm;omega⟩
theorem At.sub {w0 w:World} {hh G:Nat} {K K':Nat→Prop} {d:Hd} (h:At w0 hh G K w d) (hk:∀ b,K' b→K b):At w0 hh G K' w d:=by
 obtain ⟨s,h1,h2,h3,h4,h5⟩:=h.ex
 exact ⟨⟨s,h1,h2,h3,h4,fun b hb=>h5 b (hk b hb)⟩,h.ok,h.pur⟩
theorem plain_st {w0 w:World} {hh G:Nat} {K:Nat→Prop} {d:Hd} (h:At w0 hh G K w d) (p:Int) :
   Calls Tryz.prog 9 #[.pointer (some ⟨hh,0,none⟩),.int .i64 p] w fun e w'=>e=.returned (.tuple #[.int .i64 (d.plain p).1.1,.int .i64 (d.plain p).1.2])∧At w0 hh G K w' (d.plain p).2∧Kept K w w':=by
 obtain ⟨s,h1,h2,h3,h4,h5⟩:=h.ex
 subst h2 h3
 refine (plain_any s p w h1 h.ok).mono ?_
 rintro e w' ⟨rfl,s',k1,k2,k3⟩
 exact ⟨rfl,h.next (h.ok.plain p) h1 rfl h4 h5 k1 k2 k3⟩
theorem array_st {w0 w:World} {hh G:Nat} {K:Nat→Prop} {d:Hd} (h:At w0 hh G K w d) (v:Value) (vs:List Va) (hv:VRead w v vs) (hwf:∀ x∈vs,x.wf) (hn:vs.length≤1000000) :
   Calls Tryz.prog 11 #[.pointer (some ⟨hh,0,none⟩),v] w fun e w'=>e=.returned (.tuple #[.int .i64 (d.array vs).1.1,.int .i64 (d.array vs).1.2])∧At w0 hh G K w' (d.array vs).2∧Kept K w w':=by
 obtain ⟨s,h1,h2,h3,h4,h5⟩:=h.ex
 subst h2 h3
 refine (array_any s v vs w h1 hv hwf hn h.ok).mono ?_
 rintro e w' ⟨rfl,s',k1,k2,k3⟩
 exact ⟨rfl,h.next (h.ok.array vs) h1 rfl h4 h5 k1 k2 k3⟩
theorem put_st {w0 w:World} {hh G:Nat} {K:Nat→Prop} {d:Hd} (h:At w0 hh G K w d) (i:Int) (key:List UInt8) (v:Va) (hvw:v.wf) (hkl:key.length≤1000000) :
   Calls Tryz.prog 50 #[.pointer (some ⟨hh,0,none⟩),.int .i64 i,.string ⟨key.toArray⟩,v.v] w fun e w'=>e=.returned (.int .i64 (d.put i key v).1)∧At w0 hh G K w' (d.put i key v).2∧Kept K w w':=by
 obtain ⟨s,h1,h2,h3,h4,h5⟩:=h.ex
 subst h2 h3
 refine (put_any s i key v w h1 h.ok hvw hkl).mono ?_
 rintro e w' ⟨rfl,s',k1,k2,k3,-⟩
 exact ⟨rfl,h.next (h.ok.put i key v) h1 rfl h4 h5 k1 k2 k3⟩
theorem own_st {w0 w:World} {hh G:Nat} {K:Nat→Prop} {d:Hd} (h:At w0 hh G K w d) (i:Int) (key:List UInt8) (hkl:key.length≤1000000) :
   Calls Tryz.prog 136 #[.pointer (some ⟨hh,0,none⟩),.int .i64 i,.string ⟨key.toArray⟩] w fun e w'=>e=.returned (.tuple #[(d.own i key).1.v,.bool (d.own i key).2])∧Pur w w':=by
 obtain ⟨s,h1,h2,h3,h4,h5⟩:=h.ex
 subst h2 h3
 exact own_any s i key w h1 h.ok hkl
def cellsOf (c:Int):Nat:=(min (max c 0) 10000).toNat
def Hd.new (c:Int):Hd:=⟨cellsOf c,[]⟩
theorem new_st (c:Int) (w:World):Calls Tryz.prog 8 #[.int .i64 c] w fun e w'=>∃ hh,e=.returned (.pointer (some ⟨hh,0,none⟩))∧At w hh (cellsOf c) (fun _=>False) w' (Hd.new c):=by
 have hfin:At w w.heap.size (cellsOf c) (fun _=>False) (w.alloc (.cells #[.slice none 0 0,.int .i64 (min (max c 0) 10000)] 60)) (Hd.new c):=by
   have e:((cellsOf c:Nat):Int)=min (max c 0) 10000:=by unfold cellsOf;omega
   refine ⟨⟨⟨w.heap.size,.slice none 0 0,[],min (max c 0) 10000,[]⟩,⟨bk_new _ _,World.ownsRow_nil _ _ _ _,rfl,fun i p x hp=>by simp at hp,by simp [Hs.blocks,Value.ownBlock]⟩,rfl,?_,?_,fun b hb=>hb.elim⟩,?_,(Pur.refl w).alloc _⟩
   · simp [Hs.d,Hd.new,e]
   · intro b hb
     simp [Hs.blocks,Value.ownBlock] at hb
     omega
   · refine ⟨by simp [Hd.new],by simp [Hd.new,Hd.taken],by unfold cellsOf;omega,fun i x hx=>by simp [Hd.new] at hx⟩
 go_enter Tryz.func8,Tryz.ntmps8
 go_wp2
 go_ret
 exact ⟨_,rfl,hfin⟩
def Va.num' (x:Nat):Va:=⟨3,x,[],0⟩
def Hd.items (d:Hd) (i:Int):Option (List Va):=(d.obj i).bind fun x=>if x.kind=2 then some x.items else none
theorem items_any (s:Hs) (i:Int) (w:World) (h:HpAt w s) {G:Nat} (hok:s.d.Ok G) :
   Calls Tryz.prog 16 #[.pointer (some ⟨s.h,0,none⟩),.int .i64 i] w fun e w'=>∃ v,e=.returned (.tuple #[v,.bool (s.d.items i).isSome])∧Pur w w'∧w'.ownsRow w.heap.size 25 4 v ((s.d.items i).getD []).length (((s.d.items i).getD []).flatMap Va.cells):=by
 unfold Hd.items
 have AT:=at_any s i w h
 rcases hx:s.d.obj i with _ | x
 · rw [(at_none h i).2 hx] at AT
   have hfin:=World.ownsRow_nil w w.heap.size 25 4
   clear h hx hok
   go_enter Tryz.func16,Tryz.ntmps16
   go_wp2_with fail
   go_wp2_with fail
   refine (AT).mono ?_
   rintro e w1 ⟨rfl,rfl⟩
   go_wp2
   go_ret2
   exact ⟨_,rfl,Pur.refl _,hfin⟩
 · obtain ⟨p,hp,hxx,hat,hob⟩:=h.pl hx
   rw [hat] at AT
   have hb:=hok.mem (Hd.obj_mem hx).1
   obtain ⟨a,c,hiv⟩:=row_shape hob.items
   by_cases hk:x.kind=2
   · have ob:=hob.own
     rw [hk] at ob
     have q0:=bk_cell ob 0 _ rfl
     have q7:=bk_cell ob 7 (.slice a x.items.length c) (by rw [← hiv];rfl)
     have CL:=clone_any (.slice a x.items.length c) x.items w (by rw [← hiv];exact VRead.of_own hob.items) (by omega)
     simp only [Option.bind_some,if_pos hk,Option.isSome_some,Option.getD_some]
     clear h hx hp hxx hat hob hiv hk ob hok
     go_enter Tryz.func16,Tryz.ntmps16
     go_wp2_with fail
     go_wp2_with fail
     refine (AT).mono ?_
     rintro e w1 ⟨rfl,rfl⟩
     go_wp2_with fail
     refine CL.mono ?_
     rintro e w2 ⟨v,rfl,h2,hrow⟩
     clear CL AT
     go_wp2
     go_ret2
     exact ⟨_,rfl,h2,hrow⟩
   · have q0:=bk_cell hob.own 0 _ rfl
     have hd:=decide_eq_false hk
     simp only [Option.bind_some,if_neg hk,Option.isSome_none,Option.getD_none]
     have hfin:=World.ownsRow_nil w w.heap.size 25 4
     clear h hx hp hxx hat hob hiv hok
     go_enter Tryz.func16,Tryz.ntmps16
     go_wp2_with fail
     go_wp2_with fail
     refine (AT).mono ?_
     rintro e w1 ⟨rfl,rfl⟩
     go_wp2
     go_ret2
     exact ⟨_,rfl,Pur.refl _,hfin⟩
theorem items_st {w0 w:World} {hh G:Nat} {K:Nat→Prop} {d:Hd} (h:At w0 hh G K w d) (i:Int) :
   Calls Tryz.prog 16 #[.pointer (some ⟨hh,0,none⟩),.int .i64 i] w fun e w'=>∃ v,e=.returned (.tuple #[v,.bool (d.items i).isSome])∧Pur w w'∧w'.ownsRow w.heap.size 25 4 v ((d.items i).getD []).length (((d.items i).getD []).flatMap Va.cells):=by
 obtain ⟨s,h1,h2,h3,h4,h5⟩:=h.ex
 subst h2 h3
 exact items_any s i w h1 h.ok
def Ob.all (x:Ob):List (List UInt8):=((List.range x.items.length).map fun n:Nat=>keyOf (n:Int)) ++ x.keys
def Hd.keys (d:Hd) (i:Int):List (List UInt8):=((d.obj i).map Ob.all).getD []
theorem keys_take (m n:Nat):keyVs ((List.range (n + 1)).map fun n:Nat=>keyOf (n:Int))=keyVs ((List.range n).map fun n:Nat=>keyOf (n:Int)) ++ [.string ⟨(keyOf (n:Int)).toArray⟩]:=by
 simp [keyVs,List.range_succ]
theorem keyVs_one (ks:List (List UInt8)):∀ u∈keyVs ks,u.oneCell'=true:=by
 intro u hu
 obtain ⟨k,-,rfl⟩:=List.mem_map.1 hu
 rfl
theorem feeds_own {w w':World} {B:Nat} {e:TypeId} {v:Value} {n:Nat} {xs:List Value} {a:Option Addr} {m c:Nat} (h:w.ownsRow B e 1 v n xs) (hv:v=.slice a m c) (hp:Pur w w'):m=n∧Feeds w' 1 a n xs:=by
 rcases h.2 with ⟨rfl,h0⟩ | ⟨g,cap,cur,rfl,hb,hg,_⟩
 · simp only [Value.slice.injEq] at hv
   refine ⟨by omega,h.1,fun hpos=>by omega⟩
 · simp only [Value.slice.injEq] at hv
   obtain ⟨rfl,rfl,rfl⟩:=hv
   refine ⟨rfl,h.1,fun hpos=>⟨_,rfl,fun j u hu=>?_⟩⟩
   have hlt:=(Array.getElem?_eq_some_iff.1 hg).1
   have:=h.cells (g:=g) rfl j u hu
   rw [← this]
   exact hp.cell (p:=(⟨g,0,none⟩:Addr).add j) (by unfold Addr.add;split <;> simp_all)
theorem keys_any (s:Hs) (i:Int) (w:World) (h:HpAt w s) (hW:HpW w) {G:Nat} (hok:s.d.Ok G) :
   Calls Tryz.prog 123 #[.pointer (some ⟨s.h,0,none⟩),.int .i64 i] w fun e w'=>∃ v,e=.returned v∧Pur w w'∧w'.ownsRow w.heap.size 9 1 v (s.d.keys i).length (keyVs (s.d.keys i)):=by
 unfold Hd.keys
 have AT:=at_any s i w h
 rcases hx:s.d.obj i with _ | x
 · rw [(at_none h i).2 hx] at AT
   have hfin:=World.ownsRow_nil w w.heap.size 9 1
   clear h hx hok
   go_enter Tryz.func123,Tryz.ntmps123
   go_wp2_with fail
   go_wp2_with fail
   refine (AT).mono ?_
   rintro e w1 ⟨rfl,rfl⟩
   go_wp2
   go_ret
   exact ⟨_,rfl,Pur.refl _,hfin⟩
 · obtain ⟨p,hp,hxx,hat,hob⟩:=h.pl hx
   rw [hat] at AT
   obtain ⟨hb1,hb2⟩:=hok.mem (Hd.obj_mem hx).1
   obtain ⟨a,c,hiv⟩:=row_shape hob.items
   obtain ⟨a5,c5,hkv⟩:=row_shape hob.keys
   have Q7:=bk_cell hob.own 7 (.slice a x.items.length c) (by rw [← hiv];rfl)
   have Q5:∀ w',Pur w w'→w'.cell? ⟨p.o,5,none⟩=some (.slice a5 x.keys.length c5):=fun w' hp'=>bk_cell (bk_pur hob.own hp') 5 _ (by rw [← hkv];rfl)
   have FE:∀ w',Pur w w'→Feeds w' 1 a5 x.keys.length (keyVs x.keys):=fun w' hp'=>(feeds_own hob.keys hkv hp').2
   obtain ⟨i0,hi0,hzz⟩:=Option.map_eq_some_iff.1 str_info
   simp only [Prod.mk.injEq] at hzz
   obtain ⟨hz0,hz1,hz2⟩:=hzz
   obtain ⟨z0,hz0,hzs⟩:=Option.map_eq_some_iff.1 hz0
   have hall:(((some x).map Ob.all).getD []).length=x.items.length + x.keys.length∧keyVs (((some x).map Ob.all).getD [])=keyVs ((List.range x.items.length).map fun n:Nat=>keyOf (n:Int)) ++ keyVs x.keys:=by
     simp [Ob.all,keyVs]
   rw [hall.1,hall.2]
   clear hall
   have hkv1:=keyVs_one x.keys
   generalize keyVs x.keys=kx at *
   generalize x.items.length=m at *
   generalize x.keys.length=mk at *
   clear h hx hp hxx hat hob hiv hkv hok
   go_enter Tryz.func123,Tryz.ntmps123
   go_wp2_with fail
   go_wp2_with fail
   refine (AT).mono ?_
   rintro e w1 ⟨rfl,rfl⟩
   clear AT
   go_wp2
   go_loopw [6,18] (fun l k wr=>∃ n:Nat,n≤m∧k=.int .i64 n∧Pur w wr∧wr.ownsRow w.heap.size 9 1 l n (keyVs ((List.range n).map fun n:Nat=>keyOf (n:Int)))) (fun _ k _=>m + 1 - (intOf k).toNat)
   case atStart=>exact ⟨0,by omega,rfl,Pur.refl w,World.ownsRow_nil _ _ _ _⟩
   case round =>
     obtain ⟨n,hn,rfl,hpr,hrow⟩:=hrel
     by_cases hlt:n < m
     · have hltI:(n:Int) < m:=by omega
       have KE:=key_any (n:Int) wr (hW.pur hpr) (by omega) (by omega)
       have KT:=Lib.hid (keys_take m n)
       have hc3:n + 1≤maxLen:=by unfold maxLen;omega
       have hc4:(n + 1) * 16≤140737488355328:=by omega
       have hwn:IntKind.i64.wrap ((n:Int) + 1)=n + 1:=IntWalk.i64_in _ (by omega)
       generalize keyOf (n:Int)=kn at *
       have honeK:∀ u∈[Value.string ⟨kn.toArray⟩],u.oneCell'=true:=by intro u hu;obtain rfl:=List.mem_singleton.1 hu;rfl
       clear Q5 FE Q7
       go_wp2_with fail
       refine KE.mono ?_
       rintro e w2 ⟨rfl,h2⟩
       have hp2:=hpr.trans h2
       have R2:=(World.ownsRow_same hrow (fun g hg=>h2.block g (hrow.lt g hg).2)).alloc (.cells #[.string ⟨kn.toArray⟩] 9)
       have hbs:=((hp2.alloc (.cells #[.string ⟨kn.toArray⟩] 9))).size
       clear KE hrow
       go_wp2_with (at_builtin;refine wpList_append_own_at _ rfl _ _ 64 rfl w.heap.size 9 i0 z0 1 16 Tryz.underlying64 hi0 hz0 hz1 hz2 hzs (by decide) _ _ _ rfl R2 ⟨_,0,none⟩ 1 1 [.string ⟨kn.toArray⟩] rfl rfl ?c1 ?c2 ?c3 ?c4 ?c5 ?_)
       case c1 =>
         intro j u hj
         have e:=cell_one_new w2 (.string ⟨kn.toArray⟩) 9 j u hj
         simpa using e
       case c2=>exact honeK
       case c3=>exact hc3
       case c4=>exact hc4
       case c5=>exact hbs
       intro v5 w5 hown5 hgrow _ _
       have hp5:Pur w w5:=Below.grown (hp2.alloc (.cells #[.string ⟨kn.toArray⟩] 9)) hgrow hbs (fun k hk=>(R2.lt k hk).1)
       have hown6:w5.ownsRow w.heap.size 9 1 v5 (n + 1) (keyVs ((List.range (n + 1)).map fun n:Nat=>keyOf (n:Int))):=by rw [KT.out];exact hown5
       clear hown5 hgrow R2 KT hp2 h2 hpr
       go_wp2
       go_roundw
       case rel=>exact ⟨n + 1,by omega,by go_num,hp5,hown6⟩
       case measure=>simp [intOf];omega
     · obtain rfl:n=m:=by omega
       have q5:=Q5 _ hpr
       have hfe:=Lib.hid (FE _ hpr)
       have hc3:n + mk≤maxLen:=by unfold maxLen;omega
       have hc4:(n + mk) * 16≤140737488355328:=by omega
       have hbs:=hpr.size
       clear Q5 FE Q7
       go_wp2_with (at_builtin;refine wpList_append_feeds rfl _ _ 64 rfl w.heap.size 9 i0 z0 1 16 Tryz.underlying64 hi0 hz0 hz1 hz2 hzs (by decide) _ _ _ rfl hrow _ _ _ kx rfl hfe.out hkv1 hc3 hc4 hbs ?_)
       intro v5 w5 hown5 hgrow
       have hp5:Pur w w5:=Below.grown hpr hgrow hbs (fun k hk=>(hrow.lt k hk).1)
       clear hgrow hrow
       go_wp2
       go_ret
       exact ⟨_,rfl,hp5,hown5⟩
theorem keys_st {w0 w:World} {hh G:Nat} {K:Nat→Prop} {d:Hd} (h:At w0 hh G K w d) (hW:HpW w) (i:Int) :
   Calls Tryz.prog 123 #[.pointer (some ⟨hh,0,none⟩),.int .i64 i] w fun e w'=>∃ v,e=.returned v∧Pur w w'∧w'.ownsRow w.heap.size 9 1 v (d.keys i).length (keyVs (d.keys i)):=by
 obtain ⟨s,h1,h2,h3,h4,h5⟩:=h.ex
 subst h2 h3
 exact keys_any s i w h1 hW h.ok
def Hd.func (d:Hd) (a b p:Int):(Int × Int) × Hd:=if p≠-1∧d.obj p=none then ((0,3),d) else d.add (Ob.fresh 3 (-1) a b p []) 1
theorem Hd.Ok.func {G:Nat} {d:Hd} (h:d.Ok G) (a b p:Int):(d.func a b p).2.Ok G:=by
 unfold Hd.func
 split
 · exact h
 · exact h.add _ _ rfl (Ob.fresh_ok _ _ _ _ _ _ _ (by omega))
def Hd.kind (d:Hd) (i:Int):Int:=((d.obj i).map Ob.kind).getD 0
theorem kind_any (s:Hs) (i:Int) (w:World) (h:HpAt w s):Calls Tryz.prog 72 #[.pointer (some ⟨s.h,0,none⟩),.int .i64 i] w fun e w'=>e=.returned (.int .i64 (s.d.kind i))∧w=w':=by
 have AT:=at_any s i w h
 unfold Hd.kind
 rcases hx:s.d.obj i with _ | x
 · rw [(at_none h i).2 hx] at AT
   clear h hx
   go_enter Tryz.func72,Tryz.ntmps72
   go_wp2_with fail
   go_wp2_with fail
   refine (AT).mono ?_
   rintro e w1 ⟨rfl,rfl⟩
   go_wp2
   go_ret
   exact ⟨rfl,rfl⟩
 · obtain ⟨p,hp,hxx,hat,hob⟩:=h.pl hx
   rw [hat] at AT
   have q0:=bk_cell hob.own 0 _ rfl
   clear h hx hp hxx hat hob
   go_enter Tryz.func72,Tryz.ntmps72
   go_wp2_with fail
   go_wp2_with fail
   refine (AT).mono ?_
   rintro e w1 ⟨rfl,rfl⟩
   go_wp2
   go_ret
   exact ⟨rfl,rfl⟩
theorem kind_st {w0 w:World} {hh G:Nat} {K:Nat→Prop} {d:Hd} (h:At w0 hh G K w d) (i:Int):Calls Tryz.prog 72 #[.pointer (some ⟨hh,0,none⟩),.int .i64 i] w fun e w'=>e=.returned (.int .i64 (d.kind i))∧w=w':=by
 obtain ⟨s,h1,h2,h3,h4,h5⟩:=h.ex
 subst h2 h3
 exact kind_any s i w h1
def VRead2 (w:World) (v:Value) (vs:List Va):Prop:=VRead w v vs∨∃ a c,v=.slice (some a) 0 c∧vs=[]
theorem VRead2.pur {w w':World} {v:Value} {vs:List Va} (h:VRead2 w v vs) (hp:Pur w w'):VRead2 w' v vs:=h.imp (fun h=>h.pur hp) id
theorem clone_none (a:Addr) (c:Nat) (w:World):Calls Tryz.prog 31 #[.slice (some a) 0 c] w fun e w'=>∃ v',e=.returned v'∧Pur w w'∧w'.ownsRow w.heap.size 25 4 v' 0 []:=by
 obtain ⟨i0,hi,hz⟩:=Option.map_eq_some_iff.1 va_info
 simp only [Prod.mk.injEq] at hz
 obtain ⟨hz0,hz1,hz2⟩:=hz
 obtain ⟨z0,hz0,hzs⟩:=Option.map_eq_some_iff.1 hz0
 have hm:=World.ownsRow_made (base:=w.heap.size) (e:=25) (size:=4) w #[] 0 (Nat.le_refl _) (by decide) rfl
 have hsz:=((Pur.refl w).alloc (.cells #[] 25)).size
 have hn1:0 + 0≤maxLen:=by unfold maxLen;omega
 have he:∀ w:World,(binOp .eql 22 (.slice (some a) 0 c) (.slice none 0 0)).run Tryz.prog w=.ok (.bool false) w:=fun _=>rfl
 go_enter Tryz.func31,Tryz.ntmps31
 go_wp2_with (at_builtin;refine wpList_append_own_at _ rfl _ _ 22 rfl w.heap.size 25 i0 z0 4 40 Tryz.underlying22 hi hz0 hz1 hz2 hzs (by decide) _ _ _ rfl hm a 0 c [] rfl rfl (fun j u hu=>by simp at hu) (fun u hu=>by cases hu) hn1 (by decide) hsz ?_)
 intro v5 w5 hown5 hgrow _ hid
 have hp:Pur w w5:=((Pur.refl w).alloc (.cells #[] 25)).grown hgrow hsz (fun k hk=>(hm.lt k hk).1)
 clear hm hgrow hid
 go_wp2
 go_ret
 exact ⟨_,rfl,hp,hown5⟩
theorem array_none (s:Hs) (a:Addr) (c:Nat) (w:World) (h:HpAt w s) {G:Nat} (hok:s.d.Ok G) :
   Calls Tryz.prog 11 #[.pointer (some ⟨s.h,0,none⟩),.slice (some a) 0 c] w fun e w' =>
     e=.returned (.tuple #[.int .i64 (s.d.array []).1.1,.int .i64 (s.d.array []).1.2])∧∃ s',HpAt w' s'∧Step w s w' s'∧s'.d=(s.d.array []).2:=by
 have he:s.d.array []=s.d.add (Ob.fresh 2 (-1) 0 0 0 []) 1:=rfl
 rw [he]
 have CL:=fun w=>clone_none a c w
 have AD:=fun (v':Value) (w3:World) (hp:Pur w w3) (hrow:w3.ownsRow w.heap.size 25 4 v' 0 []) =>
   add_new s (Ob.fresh 2 (-1) 0 0 0 []) (.slice none 0 0) v' (.map none) 1 w (w3.alloc (.cells #[.int .i64 2,.int .i64 (-1),.int .i64 0,.int .i64 0,.int .i64 0,.slice none 0 0,.map none,v'] 67)) w3.heap.size (hp.alloc _) hp.size h (bk_new _ _) rfl rfl rfl
     (hrow.alloc _) (fun e=>by have:=(hrow.lt _ e).2;omega) (by omega) hok
 generalize s.d.add (Ob.fresh 2 (-1) 0 0 0 []) 1=R at *
 clear h hok he
 go_enter Tryz.func11,Tryz.ntmps11
 go_wp2
 go_loopw [10] (fun i wr=>i=.int .i64 0∧wr=w) (fun i _=>1 - (intOf i).toNat)
 case atStart=>exact ⟨rfl,rfl⟩
 case round =>
   obtain ⟨rfl,rfl⟩:=hrel
   go_wp2_with fail
   refine (CL _).mono ?_
   rintro e w3 ⟨v',rfl,h3,hrow⟩
   have AD':=AD v' w3 h3 hrow
   obtain ⟨a3,c3,rfl⟩:=row_shape hrow
   clear AD CL hrow
   go_wp2_with fail
   refine AD'.mono ?_
   rintro e w' ⟨rfl,hw⟩
   go_wp2
   go_ret2
   exact ⟨rfl,hw⟩
theorem array2_st {w0 w:World} {hh G:Nat} {K:Nat→Prop} {d:Hd} (h:At w0 hh G K w d) (v:Value) (vs:List Va) (hv:VRead2 w v vs) (hwf:∀ x∈vs,x.wf) (hn:vs.length≤1000000) :
   Calls Tryz.prog 11 #[.pointer (some ⟨hh,0,none⟩),v] w fun e w'=>e=.returned (.tuple #[.int .i64 (d.array vs).1.1,.int .i64 (d.array vs).1.2])∧At w0 hh G K w' (d.array vs).2∧Kept K w w':=by
 rcases hv with hv | ⟨a,c,rfl,rfl⟩
 · exact array_st h v vs hv hwf hn
 · obtain ⟨s,h1,h2,h3,h4,h5⟩:=h.ex
   subst h2 h3
   refine (array_none s a c w h1 h.ok).mono ?_
   rintro e w' ⟨rfl,s',k1,k2,k3⟩
   exact ⟨rfl,h.next (h.ok.array []) h1 rfl h4 h5 k1 k2 k3⟩
end Go.Proofs.YtgdolcoiihagfaaGreatDoor
