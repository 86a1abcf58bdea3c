/- Layer 10: the writer's Builder, at place 1 of the writer's block. Layer 10: the writer of JSON texts, where all goes well: say, quote, silent, plain values. Layer 10: the writer: silent, plain values. Layer 10: the writer: an array, an object of one key. Layer 10: the writer: an object of one key. Layer 10: Stringify of awake's value. Layer 10: the global object: put, and what is put (plain words). Layer 10: eslib's variables, as they are laid. -/
import Derived.Test.YtgdolcoiihagfaaGreatDoorLiC
namespace Go.Proofs.YtgdolcoiihagfaaGreatDoor
open Go Go.RowKit
set_option linter.all false
set_option maxRecDepth 100000
set_option maxHeartbeats 100000000
namespace Li
/-- a writer of JSON texts: what it has written, and what it is in -/
def WBu (u:Value) (B p hh:Nat) (acc:List UInt8) (ab:List Value) (w:World):Prop:=B≤p∧∃ bv av,w.heap[p]?=some (.cells #[.pointer (some ⟨hh,0,none⟩),u,bv,av] 93 (0,0)) ∧
 w.ownsRow B 5 1 bv acc.length (Lib.byteCells acc)∧w.ownsRow B 3 1 av ab.length ab
def WB (B p hh:Nat) (acc:List UInt8) (ab:List Value) (w:World):Prop:=WBu (.pointer none) B p hh acc ab w∨WBu (.pointer (some ⟨p,1,none⟩)) B p hh acc ab w
theorem WB.ex {B p hh:Nat} {acc:List UInt8} {ab:List Value} {w:World} (h:WB B p hh acc ab w):∃ u,WBu u B p hh acc ab w:=by
 rcases h with h | h
 · exact ⟨_,h⟩
 · exact ⟨_,h⟩
theorem row_ne {w:World} {B p:Nat} {e T:TypeId} {k n:Nat} {v:Value} {xs:List Value} {cs:Array Value} {fr:Nat × Nat} (h:w.ownsRow B e k v n xs) (hb:w.heap[p]?=some (.cells cs T fr)) (hT:T≠e):v.ownBlock≠some p:=by
 rcases h.2 with ⟨rfl,_⟩ | ⟨g,cap,cur,rfl,_,hg,_⟩
 · simp [Value.ownBlock]
 · intro h
   simp only [Value.ownBlock,Option.some.injEq] at h
   subst h
   rw [hg] at hb
   simp only [Option.some.injEq,Obj.cells.injEq] at hb
   exact hT hb.2.1.symm
theorem row_ne2 {w:World} {B B':Nat} {e e':TypeId} {k k' n n':Nat} {v v':Value} {xs xs':List Value} (h:w.ownsRow B e k v n xs) (h':w.ownsRow B' e' k' v' n' xs') (hT:e'≠e) (g:Nat) (hg:v'.ownBlock=some g):v.ownBlock≠some g:=by
 rcases h'.2 with ⟨rfl,_⟩ | ⟨g',cap,cur,rfl,_,hg',_⟩
 · simp [Value.ownBlock] at hg
 · simp only [Value.ownBlock,Option.some.injEq] at hg
   subst hg
   exact row_ne h hg' hT
/-- what changes outside the writer's blocks is nothing to it -/
theorem WBu.same {u:Value} {B p hh:Nat} {acc:List UInt8} {ab:List Value} {w w':World} (h:WBu u B p hh acc ab w) (hs:∀ b,b < w.heap.size→w'.heap[b]?=w.heap[b]?):WBu u B p hh acc ab w':=by
 obtain ⟨hB,bv,av,h1,h2,h3⟩:=h
 refine ⟨hB,bv,av,(hs p (bk_lt h1)).trans h1,row_same h2 fun g hg=>hs g (h2.lt g hg).2,row_same h3 fun g hg=>hs g (h3.lt g hg).2⟩
theorem WB.pur {B p hh:Nat} {acc:List UInt8} {ab:List Value} {w w':World} (h:WB B p hh acc ab w) (hp:Pur w w'):WB B p hh acc ab w':=by
 rcases h with h | h
 · exact .inl (h.same fun b hb=>hp.block b hb)
 · exact .inr (h.same fun b hb=>hp.block b hb)
/-- rows of other types than the writer's stay -/
def Old (w w':World):Prop:=∀ (b:Nat) (cs:Array Value) (T:TypeId) (fr:Nat × Nat),w.heap[b]?=some (.cells cs T fr)→T≠5→T≠3→T≠93→w'.heap[b]?=w.heap[b]?
theorem Old.refl (w:World):Old w w:=fun _ _ _ _ _ _ _ _=>rfl
theorem Old.trans {a b c:World} (h:Old a b) (k:Old b c):Old a c:=fun x cs T fr h1 h2 h3 h4=>by
 have e:=h x cs T fr h1 h2 h3 h4
 exact (k x cs T fr (e.trans h1) h2 h3 h4).trans e
theorem Old.pur {w w':World} (hp:Pur w w'):Old w w':=fun b cs T fr h1 _ _ _=>hp.block b (bk_lt h1)
theorem Old.row {w w':World} {B:Nat} {e:TypeId} {k n:Nat} {v:Value} {xs:List Value} (h:w.ownsRow B e k v n xs) (ho:Old w w') (h2:e≠5) (h3:e≠3) (h4:e≠93):w'.ownsRow B e k v n xs:=by
 rcases h.2 with hn | ⟨g,cap,cur,e',h5,h6,h7⟩
 · exact ⟨h.1,.inl hn⟩
 · exact ⟨h.1,.inr ⟨g,cap,cur,e',h5,(ho g cur e (0,0) h6 h2 h3 h4).trans h6,h7⟩⟩
theorem old_of {w w':World} (h:∀ (b:Nat) (cs:Array Value) (T:TypeId) (fr:Nat × Nat),w.heap[b]?=some (.cells cs T fr)→T≠5→T≠3→T≠93→w'.heap[b]?=w.heap[b]?):Old w w':=h
theorem Old.set {w:World} {a:Addr} {cs:Array Value} {fr:Nat × Nat} (h:w.heap[a.block]?=some (.cells cs 93 fr)) (v:Value):Old w (w.setCell a v):=fun b cs' T fr' h1 _ _ h4=>Below.heap_setCell _ _ _ _ (fun e=>by
 subst e
 rw [h] at h1
 simp only [Option.some.injEq,Obj.cells.injEq] at h1
 exact h4 h1.2.1.symm)
theorem jw_lies:liesAt Tryz.prog Tryz.prog.depth 93 (4 / Tryz.prog.cellsOf 93) 1 90 1=true:=by kernel_rfl
theorem int_ne:(3:TypeId)≠5:=by decide
theorem jw_ne5:(93:TypeId)≠5:=by decide
theorem jw_neI:(93:TypeId)≠3:=by decide
theorem cc_used (p:Nat) (w:World) (h0:w.cell? ⟨p,1,none⟩=some (.pointer (some ⟨p,1,none⟩))) :
   Calls Tryz.prog 150 #[.pointer (some ⟨p,1,none⟩)] w fun e w'=>e=.returned (.tuple #[])∧w'=w:=by
 obtain ⟨j,hj,_⟩:=bld_size
 go_enter Tryz.func150,Tryz.ntmps150
 go_wp2
 rw [Lib.run_neq_ptr_same w _ Tryz.underlying88 hj]
 go_wp2
 go_end0
 exact ⟨rfl,rfl⟩
theorem cc_fresh (p:Nat) (w:World) (h0:w.cell? ⟨p,1,none⟩=some (.pointer none)) (hsh:w.shape? p=some (93,4)) (hfz:w.frozen? ⟨p,1,none⟩=false) :
   Calls Tryz.prog 150 #[.pointer (some ⟨p,1,none⟩)] w fun e w'=>e=.returned (.tuple #[])∧w'=w.setCell ⟨p,1,none⟩ (.pointer (some ⟨p,1,none⟩)):=by
 obtain ⟨j,hj,hjs⟩:=bld_size
 go_enter Tryz.func150,Tryz.ntmps150
 go_wp2
 rw [Lib.run_to_unsafe w ⟨p,1,none⟩ Tryz.underlying88 Tryz.underlying190 hj (by rw [hjs];decide) hsh (show 1 < 4 by decide)]
 simp only [Result.andThen]
 rw [Oper.upon_value]
 go_wp2
 rw [run_callFunc_extern Tryz.func176 (by kernel_rfl) (by kernel_rfl) (by kernel_rfl) (e:=Extern.AbiNoEscape.same) (by kernel_rfl)]
 rw [Lib.run_noEscape]
 simp only [Result.andThen]
 rw [Oper.upon_value]
 go_wp2
 rw [Lib.run_from_unsafe w ⟨p,1,none⟩ Tryz.underlying190 Tryz.underlying88 hj hsh jw_lies]
 simp only [Result.andThen]
 rw [Oper.upon_value]
 go_wp2
 go_end0
 exact ⟨rfl,rfl⟩
theorem cc_any {B p hh:Nat} {acc:List UInt8} {ab:List Value} {w:World} (h:WB B p hh acc ab w) :
   Calls Tryz.prog 150 #[.pointer (some ⟨p,1,none⟩)] w fun e w'=>e=.returned (.tuple #[])∧WBu (.pointer (some ⟨p,1,none⟩)) B p hh acc ab w'∧Below B w w'∧Old w w':=by
 rcases h with ⟨hB,bv,av,h1,h2,h3⟩ | h
 · refine (cc_fresh p w (bk_cell h1 1 _ rfl) (by simp [World.shape?,h1]) (bk_free h1 1)).mono ?_
   rintro e w' ⟨rfl,rfl⟩
   have C:Chg [p] w (w.setCell ⟨p,1,none⟩ (.pointer (some ⟨p,1,none⟩))):=(Chg.refl [p] w).setCell (.inl (by simp)) _
   exact ⟨rfl,⟨hB,bv,av,bk_set h1 1 _,row_chg h2 C (fun g hg hm=>by simp at hm;subst hm;exact row_ne h2 h1 jw_ne5 hg),row_chg h3 C (fun g hg hm=>by simp at hm;subst hm;exact row_ne h3 h1 jw_neI hg)⟩,(Below.refl B w).setCell (p:=⟨p,1,none⟩) hB _,Old.set (a:=⟨p,1,none⟩) h1 _⟩
 · obtain ⟨hB,bv,av,h1,h2,h3⟩:=id h
   refine (cc_used p w (bk_cell h1 1 _ rfl)).mono ?_
   rintro e w' ⟨rfl,rfl⟩
   exact ⟨rfl,h,Below.refl B _,Old.refl _⟩
theorem ws_any {B p hh:Nat} {acc s:List UInt8} {ab:List Value} {w:World} (h:WB B p hh acc ab w) (hlen:acc.length + s.length≤100000000) (hBw:B≤w.heap.size) :
   Calls Tryz.prog 129 #[.pointer (some ⟨p,1,none⟩),.string ⟨s.toArray⟩] w fun e w'=>e=.returned (.tuple #[.int .i64 s.length,.nilIface])∧WB B p hh (acc ++ s) ab w'∧Below B w w'∧Old w w':=by
 obtain ⟨i0,hi,hz0,hz1,hz2⟩:=info_parts byte_info
 have hss:(⟨s.toArray⟩:ByteArray).size=s.length:=rfl
 have CC:=cc_any h
 go_enter Tryz.func129,Tryz.ntmps129
 go_wp2_with fail
 refine CC.mono ?_
 rintro e w1 ⟨rfl,h1,hb1,ho1⟩
 obtain ⟨hB,bv,av,hbk,hown,hab⟩:=h1
 have c2:w1.cell? ⟨p,2,none⟩=some bv:=bk_cell hbk 2 _ rfl
 clear CC
 go_wp2_with (at_builtin;refine Lib.wpList_append_own_string _ rfl _ _ 75 9 rfl B 5 i0 Tryz.underlying75 Tryz.underlying9 hi hz0 hz1 hz2 _ _ _ rfl hown ⟨s.toArray⟩ rfl ?c3 ?c4 ?c5 ?_)
 case c3=>unfold maxLen;omega
 case c4=>omega
 case c5=>have:=hb1.size;omega
 intro v' w2 hown' hgrow _
 rw [Lib.strCells_eq,← Lib.byteCells_append] at hown'
 have hab2:=row_same hab (w':=w2) (fun g hg=>hgrow.block g (hab.lt g hg).2 (row_ne2 hown hab int_ne g hg ∘ Eq.symm))
 have hb2:w2.heap[p]?=some (.cells #[.pointer (some ⟨hh,0,none⟩),.pointer (some ⟨p,1,none⟩),bv,av] 93 (0,0)):=(hgrow.block p (bk_lt hbk) (row_ne hown hbk jw_ne5 ∘ Eq.symm)).trans hbk
 have hfr:=bk_free hb2 2
 have C:Chg [p] w2 (w2.setCell ⟨p,2,none⟩ v'):=(Chg.refl [p] w2).setCell (.inl (by simp)) _
 have HF:WB B p hh (acc ++ s) ab (w2.setCell ⟨p,2,none⟩ v'):=.inr ⟨hB,v',av,bk_set hb2 2 _,row_chg (by rw [List.length_append];exact hown') C (fun g hg hm=>by simp at hm;subst hm;exact row_ne hown' hb2 jw_ne5 hg),row_chg hab2 C (fun g hg hm=>by simp at hm;subst hm;exact row_ne hab2 hb2 jw_neI hg)⟩
 have HG:Below B w (w2.setCell ⟨p,2,none⟩ v'):=(hb1.grown hgrow (by have:=hb1.size;omega) (fun k hk=>(hown.lt k hk).1)).setCell (p:=⟨p,2,none⟩) hB _
 have HO:Old w (w2.setCell ⟨p,2,none⟩ v'):=(ho1.trans (old_of fun b cs T fr h1 h2 _ _=>hgrow.block b (bk_lt h1) fun e=>row_ne hown h1 h2 e.symm)).trans (Old.set (a:=⟨p,2,none⟩) hb2 _)
 have c2':w2.cell? ⟨p,2,none⟩=some bv:=bk_cell hb2 2 _ rfl
 obtain ⟨ao,n',cap,rfl⟩:∃ ao n' cap,v'=.slice ao n' cap:=by
   rcases hown'.2 with ⟨hv,_⟩ | ⟨g,cap,cur,hv,_⟩
   · exact ⟨_,_,_,hv⟩
   · exact ⟨_,_,_,hv⟩
 clear hown' hgrow hown hab hab2 C hb1 ho1
 go_wp2
 go_ret2
 exact ⟨rfl,HF,HG,HO⟩
theorem len_any {B p hh:Nat} {acc:List UInt8} {ab:List Value} {w:World} (h:WB B p hh acc ab w) :
   Calls Tryz.prog 130 #[.pointer (some ⟨p,1,none⟩)] w fun e w'=>e=.returned (.int .i64 acc.length)∧w'=w:=by
 obtain ⟨u,hB,bv,av,hbk,hown,hab⟩:=h.ex
 obtain ⟨ao,cap,rfl⟩:∃ ao cap,bv=.slice ao acc.length cap:=by
   rcases hown.2 with ⟨hv,h0⟩ | ⟨g,cap,cur,hv,_⟩
   · exact ⟨none,0,by rw [hv,h0]⟩
   · exact ⟨_,_,hv⟩
 have c2:w.cell? ⟨p,2,none⟩=some (.slice ao acc.length cap):=bk_cell hbk 2 _ rfl
 clear hown hab h hbk
 go_enter Tryz.func130,Tryz.ntmps130
 go_wp2
 go_ret
 exact ⟨rfl,rfl⟩
theorem old_freeze {w:World} {g n:Nat} {cur:Array Value} {fr:Nat × Nat} (hg:w.heap[g]?=some (.cells cur 5 fr)):Old w (w.freeze ⟨g,0,none⟩ n):=fun b cs T fr' h1 h2 _ _=>by
 unfold World.freeze
 split
 · rfl
 · simp only [Array.getElem?_modify]
   rw [if_neg (fun e=>?_)]
   have e:g=b:=e
   subst e
   rw [hg] at h1
   simp only [Option.some.injEq,Obj.cells.injEq] at h1
   exact h2 h1.2.1.symm
theorem cells5:Tryz.prog.cellsOf 5=1:=by kernel_rfl
theorem str_any {B p hh:Nat} {l:List UInt8} {ab:List Value} {w:World} (h:WB B p hh l ab w) (h0:l≠[]) :
   Calls Tryz.prog 48 #[.pointer (some ⟨p,1,none⟩)] w fun e w'=>e=.returned (.string ⟨l.toArray⟩)∧Below B w w'∧Old w w':=by
 obtain ⟨u,hB,bv,av,hbk,hown,hab⟩:=h.ex
 have hl0:l.length≠0:=by simpa using h0
 obtain ⟨g,cap,cur,rfl,hbg,hg,hnc,hcm,hcs,htake⟩:∃ g cap cur,bv=.slice (some ⟨g,0,none⟩) l.length cap∧B≤g∧w.heap[g]?=some (.cells cur 5 (0,0))∧l.length≤cap∧cap≤maxLen∧cur.size=cap * 1∧cur.toList.take (l.length * 1)=Lib.byteCells l:=by
   rcases hown.2 with ⟨_,hz⟩ | ⟨g,cap,cur,hv,r⟩
   · exact absurd hz hl0
   · exact ⟨g,cap,cur,hv,r⟩
 have c1:w.drew.cell? ⟨p,2,none⟩=some (.slice (some ⟨g,0,none⟩) l.length cap):=by
   have:w.drew.heap[p]?=some (.cells #[.pointer (some ⟨hh,0,none⟩),u,.slice (some ⟨g,0,none⟩) l.length cap,av] 93 (0,0)):=hbk
   rw [Lib.cell_of_heap this];rfl
 have hSD:(Builtin.unsafeSliceData_ #[75] 135 #[.slice (some ⟨g,0,none⟩) l.length cap]).run Tryz.prog w.drew=.ok (.pointer (some ⟨g,0,none⟩)) w.drew :=
   Lib.run_unsafeSliceData_row _ _ _ _ _ _ (by omega)
 have hUS:(Builtin.unsafeString_ #[135,3] 9 #[.pointer (some ⟨g,0,none⟩),.int .i64 l.length]).run Tryz.prog w.drew=.ok (.string ⟨l.toArray⟩) (w.drew.freeze ⟨g,0,none⟩ l.length):=by
   refine Lib.run_unsafeString_row w.drew 135 3 9 5 Tryz.underlying135 cells5 g cur.size (by have hg':w.drew.heap[g]?=some (.cells cur 5 (0,0)):=hg;simp [World.shape?,hg']) l h0 (by omega) (by unfold maxLen at hcm;omega) ?_
   intro j x hx
   have:=hown.cells (g:=g) rfl j (.int .u8 x.toNat) (by simp [Lib.byteCells,hx])
   exact this
 have HO:Old w (w.drew.freeze ⟨g,0,none⟩ l.length):=old_freeze (w:=w.drew) hg
 go_enter Tryz.func48,Tryz.ntmps48
 go_wp2
 go_region
 all_goals (go_wp2;go_ret;exact ⟨rfl,Lib.below_freeze (Below.drew (Below.refl B w)) (p:=⟨g,0,none⟩) hbg _,HO⟩)
end Li
namespace Li
structure JW (w0 wK:World) (p hh:Nat) (acc:List UInt8) (ab:List Value) (w:World):Prop where
 wb:WB w0.heap.size p hh acc ab w
 pur:Pur w0 w
 old:Old wK w
theorem JW.next {w0 wK:World} {p hh:Nat} {acc:List UInt8} {ab:List Value} {w w':World} (h:JW w0 wK p hh acc ab w) (hp:Pur w w'):JW w0 wK p hh acc ab w':=⟨h.wb.pur hp,h.pur.trans hp,h.old.trans (Old.pur hp)⟩
theorem JW.here {w0 wK:World} {p hh:Nat} {acc:List UInt8} {ab:List Value} {w:World} (h:JW w0 wK p hh acc ab w):JW w0 w p hh acc ab w:=⟨h.wb,h.pur,Old.refl w⟩
theorem JW.back {w0 wK w:World} {p hh:Nat} {acc:List UInt8} {ab:List Value} {w':World} (h:JW w0 w p hh acc ab w') (ho:Old wK w):JW w0 wK p hh acc ab w':=⟨h.wb,h.pur,ho.trans h.old⟩
theorem JW.size {w0 wK:World} {p hh:Nat} {acc:List UInt8} {ab:List Value} {w:World} (h:JW w0 wK p hh acc ab w):w0.heap.size≤w.heap.size:=h.pur.size
theorem say_ok {w0 wK w:World} {p hh:Nat} {acc s:List UInt8} {ab:List Value} (h:JW w0 wK p hh acc ab w) (hT:UT w0) (hs:ascB s=true) (hl:(acc ++ wide8 s).length≤16384) (hsl:s.length≤10000) :
   Calls Tryz.prog 96 #[.pointer (some ⟨p,0,none⟩),.string ⟨s.toArray⟩] w fun e w'=>e=.returned (.tuple #[])∧JW w0 wK p hh (acc ++ wide8 s) ab w':=by
 have WD:∀ z:PW w,Calls Tryz.prog 51 #[.string ⟨s.toArray⟩] z.to fun e w'=>e=.returned (.string ⟨(wide8 s).toArray⟩)∧Pur z.to w':=fun z=>ewide_b s hs (by omega) (hT.pur (h.pur.trans z.pur))
 have HN:=fun w' (hp:Pur w w')=>h.next hp
 have d1:decide ((16384:Int) < (acc.length:Int) + ((wide8 s).length:Int))=false:=decide_eq_false (by rw [List.length_append] at hl;omega)
 clear hs hsl h
 generalize wide8 s=S at *
 go_enter Tryz.func96,Tryz.ntmps96
 go_wp2_with fail
 refine wp_region_pur_tail 5 (by kernel_rfl) (by kernel_rfl) ?_
 simp only [List.take_succ_cons,List.take_zero,List.drop_succ_cons,List.drop_zero]
 repeat (go_big_quiet_step (((go_at_call 51;with_reducible exact quiet_pur (WD _)))))
 refine wpQuiet_nil ?_
 intro w1 h1
 have H1:=HN _ h1
 have WS:=ws_any (s:=S) H1.wb (by rw [← List.length_append];omega) H1.size
 clear WD HN
 go_wp2_with fail
 refine WS.mono ?_
 rintro e w2 ⟨rfl,h2,b2,o2⟩
 have H2:JW w0 wK p hh (acc ++ S) ab w2:=⟨h2,Below.trans H1.pur b2,H1.old.trans o2⟩
 have LN:=len_any h2
 clear WS h2 b2 H1
 go_wp2_with fail
 refine LN.mono ?_
 rintro e w3 ⟨rfl,rfl⟩
 clear LN
 go_wp2
 go_end0
 exact ⟨rfl,H2⟩
def esc7:List UInt8:=[34,92,8,12,10,13,9]
theorem esc7_no (u:Nat) (h:u < 128) (h1:32≤u) (h2:u≠34) (h3:u≠92):Lib.indexByte esc7 (((u:Int) % 256).toNat.toUInt8)=-1:=by
 have H:∀ u:Fin 128,32≤u.val→u.val≠34→u.val≠92→Lib.indexByte esc7 (((u.val:Int) % 256).toNat.toUInt8)=-1:=by decide +kernel
 exact H ⟨u,h⟩ h1 h2 h3
theorem esc7_ix (u:Nat) (h:u < 128) (h1:32≤u) (h2:u≠34) (h3:u≠92) (w:World):Calls Tryz.prog 113 #[.string ⟨esc7.toArray⟩,.int .u8 ((u:Int) % 256)] w fun e w'=>e=.returned (.int .i64 (-1))∧w=w':=by
 refine (Tryz.strings_IndexByte _ _ _).mono ?_
 rintro e w' ⟨rfl,rfl⟩
 exact ⟨by rw [← esc7_no u h h1 h2 h3],rfl⟩
theorem cutU_one (l:List UInt8) (i:Nat) (h:i < l.length / 2):cutU l (i:Int) ((i:Int) + 1)=sub l (2 * i) (2 * (i + 1)):=by
 have:=cutU_in l i (i + 1) (by omega) (by omega)
 rw [← this]
 rfl
/-- units that a JSON text holds as they are -/
def Plain (t:List UInt8):Prop:=t.length % 2=0∧∀ j,j < t.length / 2→at16 t j < 128∧32≤at16 t j∧at16 t j≠34∧at16 t j≠92
theorem quote_ok {w0 wK w:World} {p hh:Nat} {acc t:List UInt8} {ab:List Value} (h:JW w0 wK p hh acc ab w) (hT:UT w0) (ht:Plain t) (hl:acc.length + t.length + 4≤10000) :
   Calls Tryz.prog 99 #[.pointer (some ⟨p,0,none⟩),.string ⟨t.toArray⟩] w fun e w'=>e=.returned (.tuple #[])∧JW w0 wK p hh (acc ++ [0,34] ++ t ++ [0,34]) ab w':=by
 have S1:=say_ok (s:=[34]) h hT (by decide) (by simp [wide8];omega) (by decide)
 have LN:=fun w=>length_any t w (by omega)
 have e34:wide8 [34]=[0,34]:=rfl
 rw [e34] at S1
 have HL:=Lib.hid ht
 have hl2:=ht.1
 clear h ht
 go_enter Tryz.func99,Tryz.ntmps99
 go_wp2_with fail
 refine S1.mono ?_
 rintro e w1 ⟨rfl,H1⟩
 clear S1
 go_wp2_with fail
 refine (LN _).mono ?_
 rintro e w2 ⟨rfl,rfl⟩
 clear LN
 go_wp2
 go_loopw [12] (fun v wr=>∃ n:Nat,n≤t.length / 2∧v=.int .i64 (n:Int)∧JW w0 wK p hh (acc ++ [0,34] ++ sub t 0 (2 * n)) ab wr) (fun v _=>t.length / 2 - (intOf v).toNat)
 case atStart=>exact ⟨0,by omega,rfl,by rw [sub_nil t (by omega),List.append_nil];exact H1⟩
 case round =>
   obtain ⟨n,hn,rfl,H⟩:=hrel
   by_cases hnk:n < t.length / 2
   · obtain ⟨u1,u2,u3,u4⟩:=HL.out.2 n hnk
     have AT:=fun w=>at_in t n w (by omega) hnk
     have CU:∀ w,Calls Tryz.prog 63 #[.string ⟨t.toArray⟩,.int .i64 (n:Int),.int .i64 ((n:Int) + 1)] w fun e w'=>e=.returned (.string ⟨(sub t (2 * n) (2 * (n + 1))).toArray⟩)∧Pur w w':=fun w=>by
       rw [← cutU_one t n hnk];exact cut_any t (n:Int) ((n:Int) + 1) w (by omega)
     have IB:=esc7_ix (at16 t n) u1 u2 u3 u4
     generalize at16 t n=u at *
     have d0:decide ((n:Int) < (t.length:Int) / 2)=true:=decide_eq_true (by omega)
     have d1:decide ((u:Int) < 128)=true:=decide_eq_true (by omega)
     have d2:decide ((u:Int) < 32)=false:=decide_eq_false (by omega)
     have wr1:IntKind.i64.wrap ((n:Int) + 1)=n + 1:=IntWalk.i64_in _ (by omega)
     have esub:sub t 0 (2 * n) ++ sub t (2 * n) (2 * (n + 1))=sub t 0 (2 * (n + 1)):=sub_append t (by omega) (by omega)
     have hls:(sub t 0 (2 * (n + 1))).length≤t.length:=by unfold sub;simp;omega
     clear u1 u2 u3 u4
     go_wp2_with fail
     refine (AT _).mono ?_
     rintro e w3 ⟨rfl,p3⟩
     clear AT
     unfold esc7 at IB
     go_wp2_with fail
     refine (IB _).mono ?_
     rintro e w4 ⟨rfl,rfl⟩
     clear IB
     have H3:=H.next p3
     clear H
     go_wp2_with fail
     refine wp_region_pur_tail 8 (by kernel_rfl) (by kernel_rfl) ?_
     simp only [List.take_succ_cons,List.take_zero,List.drop_succ_cons,List.drop_zero]
     repeat (go_big_quiet_step (((go_at_call 63;with_reducible exact quiet_pur (CU _)))))
     refine wpQuiet_nil ?_
     intro w5 h5
     have H5:=H3.next h5
     have WS:=ws_any (s:=sub t (2 * n) (2 * (n + 1))) H5.wb (by rw [List.length_append,List.length_append];have:(sub t 0 (2 * n)).length≤t.length:=(by unfold sub;simp;omega);have:(sub t (2 * n) (2 * (n + 1))).length≤t.length:=(by unfold sub;simp;omega);simp;omega) H5.size
     rw [List.append_assoc,esub] at WS
     clear CU H3
     go_wp2_with fail
     refine WS.mono ?_
     rintro e w6 ⟨rfl,h6,b6,o6⟩
     have H6:JW w0 wK p hh (acc ++ [0,34] ++ sub t 0 (2 * (n + 1))) ab w6:=⟨h6,Below.trans H5.pur b6,H5.old.trans o6⟩
     have S2:=say_ok (s:=[]) H6 hT (by decide) (by simp [wide8];omega) (by decide)
     rw [show wide8 []=[] from rfl,List.append_nil] at S2
     clear WS h6 b6 H5 H6
     go_wp2_with fail
     refine S2.mono ?_
     rintro e w7 ⟨rfl,H7⟩
     clear S2
     have HF:=Lib.hid H7
     clear H7
     go_wp2
     go_roundw
     case rel=>exact ⟨n + 1,by omega,by simp,HF.out⟩
     case measure=>simp [intOf];omega
   · obtain rfl:n=t.length / 2:=by omega
     rw [sub_all t (by omega)] at H
     have S2:=say_ok (s:=[34]) H hT (by decide) (by simp [wide8];omega) (by decide)
     rw [e34] at S2
     have d0:decide (((t.length / 2:Nat):Int) < (t.length:Int) / 2)=false:=decide_eq_false (by omega)
     clear H
     go_wp2_with fail
     refine S2.mono ?_
     rintro e w7 ⟨rfl,H7⟩
     clear S2
     go_wp2
     go_end0
     exact ⟨rfl,H7⟩
end Li
namespace Li
theorem JW.cell {w0 wK:World} {p hh:Nat} {acc:List UInt8} {ab:List Value} {w:World} (h:JW w0 wK p hh acc ab w):∀ w',Pur w w'→w'.cell? ⟨p,0,none⟩=some (.pointer (some ⟨hh,0,none⟩)):=fun w' hp=>by
 obtain ⟨u,hB,bv,av,hbk,-⟩:=(h.wb.pur hp).ex
 exact bk_cell hbk 0 _ rfl
theorem silent_leaf {w0 wK w:World} {p hh:Nat} {acc:List UInt8} {ab:List Value} (h:JW w0 wK p hh acc ab w) (v:Va) (hk:v.kind=1∨v.kind=3∨v.kind=4) :
   Calls Tryz.prog 45 #[.pointer (some ⟨p,0,none⟩),v.v] w fun e w'=>e=.returned (.bool false)∧JW w0 wK p hh acc ab w':=by
 obtain ⟨k,n,t,r⟩:=v
 have HN:=fun w' (hp:Pur w w')=>h.next hp
 simp only [Va.v,Va.cells] at hk ⊢
 have NB:=bk_new w (.cells #[.int .i64 k,.float .f64 n,.string ⟨t.toArray⟩,.int .i64 r] 25)
 have PA:Pur w (w.alloc (.cells #[.int .i64 k,.float .f64 n,.string ⟨t.toArray⟩,.int .i64 r] 25)):=(Pur.refl w).alloc _
 have q0:∀ z:PW (w.alloc (.cells #[.int .i64 k,.float .f64 n,.string ⟨t.toArray⟩,.int .i64 r] 25)),z.to.cell? ⟨w.heap.size,0,none⟩=some (.int .i64 k):=fun z=>bk_cell (bk_pur NB z.pur) 0 _ rfl
 clear h NB
 rcases hk with rfl | rfl | rfl
 all_goals
   go_enter Tryz.func45,Tryz.ntmps45
   go_wp2_with fail
   refine wp_region_pur (by kernel_rfl) (by kernel_rfl) ?_
   repeat (go_big_quiet_step (fail))
   refine wpQuiet_nil ?_
   intro w1 h1
   have H1:=HN _ (PA.trans h1)
   clear HN q0 PA
   go_wp2
   go_ret
   exact ⟨rfl,H1⟩
theorem silent_obj {w0 wK w wA:World} {p hh G:Nat} {K:Nat→Prop} {d:Hd} {acc:List UInt8} {ab:List Value} (h:JW w0 wK p hh acc ab w) (hA:At wA hh G K w0 d) (o:Int) (hk:d.kind o≠3) :
   Calls Tryz.prog 45 #[.pointer (some ⟨p,0,none⟩),(⟨5,0,[],o⟩:Va).v] w fun e w'=>e=.returned (.bool false)∧JW w0 wK p hh acc ab w':=by
 have HN:=fun w' (hp:Pur w w')=>h.next hp
 have KD:=fun w' (hp:Pur w w')=>kind_st (hA.pure (h.pur.trans hp)).1 o
 simp only [Va.v,Va.cells] at ⊢
 have d3:(d.kind o == 3)=false:=beq_eq_false_iff_ne.2 hk
 generalize d.kind o=kd at *
 have NB:=bk_new w (.cells #[.int .i64 5,.float .f64 0,.string ⟨#[]⟩,.int .i64 o] 25)
 have PA:Pur w (w.alloc (.cells #[.int .i64 5,.float .f64 0,.string ⟨#[]⟩,.int .i64 o] 25)):=(Pur.refl w).alloc _
 have q0:∀ z:PW (w.alloc (.cells #[.int .i64 5,.float .f64 0,.string ⟨#[]⟩,.int .i64 o] 25)),z.to.cell? ⟨w.heap.size,0,none⟩=some (.int .i64 5):=fun z=>bk_cell (bk_pur NB z.pur) 0 _ rfl
 have q3:∀ z:PW (w.alloc (.cells #[.int .i64 5,.float .f64 0,.string ⟨#[]⟩,.int .i64 o] 25)),z.to.cell? ⟨w.heap.size,3,none⟩=some (.int .i64 o):=fun z=>bk_cell (bk_pur NB z.pur) 3 _ rfl
 have qp:∀ z:PW (w.alloc (.cells #[.int .i64 5,.float .f64 0,.string ⟨#[]⟩,.int .i64 o] 25)),z.to.cell? ⟨p,0,none⟩=some (.pointer (some ⟨hh,0,none⟩)):=fun z=>h.cell _ (PA.trans z.pur)
 have KZ:∀ z:PW (w.alloc (.cells #[.int .i64 5,.float .f64 0,.string ⟨#[]⟩,.int .i64 o] 25)),Calls Tryz.prog 72 #[.pointer (some ⟨hh,0,none⟩),.int .i64 o] z.to fun e w'=>e=.returned (.int .i64 kd)∧z.to=w':=fun z=>KD _ (PA.trans z.pur)
 clear h NB hk hA KD
 go_enter Tryz.func45,Tryz.ntmps45
 go_wp2_with fail
 refine wp_region_pur (by kernel_rfl) (by kernel_rfl) ?_
 repeat (go_big_quiet_step (((go_at_call 72;with_reducible exact quiet_eq (KZ _)))))
 refine wpQuiet_nil ?_
 intro w1 h1
 have H1:=HN _ (PA.trans h1)
 clear HN q0 q3 qp KZ PA
 go_wp2
 go_ret
 exact ⟨rfl,H1⟩
theorem wv_null {w0 wK w:World} {p hh:Nat} {acc:List UInt8} {ab:List Value} (h:JW w0 wK p hh acc ab w) (hT:UT w0) (hl:acc.length≤10000) :
   Calls Tryz.prog 46 #[.pointer (some ⟨p,0,none⟩),(⟨1,0,[],0⟩:Va).v] w fun e w'=>e=.returned (.tuple #[])∧JW w0 wK p hh (acc ++ [0,110,0,117,0,108,0,108]) ab w':=by
 simp only [Va.v,Va.cells]
 have PA:Pur w (w.alloc (.cells #[.int .i64 1,.float .f64 0,.string ⟨#[]⟩,.int .i64 0] 25)):=(Pur.refl w).alloc _
 have SY:=say_ok (s:=[110,117,108,108]) (h.next PA) hT (by decide) (by simp [wide8];omega) (by decide)
 rw [show wide8 [110,117,108,108]=[0,110,0,117,0,108,0,108] from rfl] at SY
 clear h PA
 go_enter Tryz.func46,Tryz.ntmps46
 go_wp2_with fail
 refine SY.mono ?_
 rintro e w1 ⟨rfl,H1⟩
 clear SY
 go_wp2
 go_end0
 exact ⟨rfl,H1⟩
theorem wv_text {w0 wK w:World} {p hh:Nat} {acc t:List UInt8} {ab:List Value} (h:JW w0 wK p hh acc ab w) (hT:UT w0) (ht:Plain t) (hl:acc.length + t.length + 4≤10000) :
   Calls Tryz.prog 46 #[.pointer (some ⟨p,0,none⟩),(⟨4,0,t,0⟩:Va).v] w fun e w'=>e=.returned (.tuple #[])∧JW w0 wK p hh (acc ++ [0,34] ++ t ++ [0,34]) ab w':=by
 simp only [Va.v,Va.cells]
 have PA:Pur w (w.alloc (.cells #[.int .i64 4,.float .f64 0,.string ⟨t.toArray⟩,.int .i64 0] 25)):=(Pur.refl w).alloc _
 have QU:=quote_ok (h.next PA) hT ht hl
 clear h PA ht
 go_enter Tryz.func46,Tryz.ntmps46
 go_wp2_with fail
 refine QU.mono ?_
 rintro e w1 ⟨rfl,H1⟩
 clear QU
 go_wp2
 go_end0
 exact ⟨rfl,H1⟩
theorem isinf_1 (w:World):Calls Tryz.prog 97 #[.float .f64 4607182418800017408,.int .i64 0] w fun e w'=>e=.returned (.bool false)∧w=w':=by
 have h6:=@run_callFunc_extern Tryz.prog 38 _ Go.Extern.MathFloatBits.float64bits Tryz.func38 (by kernel_rfl) (by kernel_rfl) (by kernel_rfl) (by kernel_rfl)
 have fb:∀ (w:World),(Go.Extern.MathFloatBits.float64bits #[.float .f64 4607182418800017408]).run Tryz.prog w=.ok (.int .u64 4607182418800017408) w:=fun w=>rfl
 have h7:=@run_callFunc_extern Tryz.prog 105 _ Go.Extern.MathFloatBits.float64frombits Tryz.func105 (by kernel_rfl) (by kernel_rfl) (by kernel_rfl) (by kernel_rfl)
 have ff:∀ (n:Int) (w:World),(Go.Extern.MathFloatBits.float64frombits #[.int .u64 n]).run Tryz.prog w=.ok (.float .f64 n.toNat) w:=fun n w=>rfl
 have a1:bits .andNot .u64 4607182418800017408 9223372036854775808=4607182418800017408:=by decide +kernel
 have AB:∀ w,Calls Tryz.prog 84 #[.float .f64 4607182418800017408] w fun e w'=>e=.returned (.float .f64 4607182418800017408)∧w=w':=fun w=>by
   go_enter Tryz.func84,Tryz.ntmps84
   go_wp2
   go_ret
   exact ⟨rfl,rfl⟩
 have ho:FloatKind.f64.format.order 4607182418800017408 9218868437227405311=some .lt:=by decide +kernel
 clear h6 fb h7 ff a1
 go_enter Tryz.func97,Tryz.ntmps97
 go_wp2_with fail
 refine (AB _).mono ?_
 rintro e w1 ⟨rfl,rfl⟩
 go_wp2
 go_ret
 exact ⟨rfl,rfl⟩
theorem wv_one {w0 wK w:World} {p hh:Nat} {acc:List UInt8} {ab:List Value} (h:JW w0 wK p hh acc ab w) (hT:UT w0) (hl:acc.length≤10000)
   (TX:∀ w',Pur w0 w'→Calls Tryz.prog 98 #[.float .f64 4607182418800017408] w' fun e w''=>e=.returned (.string ⟨#[49]⟩)∧Pur w' w'') :
   Calls Tryz.prog 46 #[.pointer (some ⟨p,0,none⟩),(⟨3,4607182418800017408,[],0⟩:Va).v] w fun e w'=>e=.returned (.tuple #[])∧JW w0 wK p hh (acc ++ [0,49]) ab w':=by
 simp only [Va.v,Va.cells]
 have NB:=bk_new w (.cells #[.int .i64 3,.float .f64 4607182418800017408,.string ⟨#[]⟩,.int .i64 0] 25)
 have PA:Pur w (w.alloc (.cells #[.int .i64 3,.float .f64 4607182418800017408,.string ⟨#[]⟩,.int .i64 0] 25)):=(Pur.refl w).alloc _
 have HN:=fun w' (hp:Pur w w')=>h.next hp
 have TX2:=fun w' (hp:Pur w w')=>TX w' (h.pur.trans hp)
 have SY:=fun w' (hp:Pur w w')=>say_ok (s:=[49]) (h.next hp) hT (by decide) (by simp [wide8];omega) (by decide)
 rw [show wide8 [49]=[0,49] from rfl] at SY
 have II:=isinf_1
 have ho:FloatKind.f64.format.order 4607182418800017408 4607182418800017408=some .eq:=by decide +kernel
 have q1:∀ z:PW (w.alloc (.cells #[.int .i64 3,.float .f64 4607182418800017408,.string ⟨#[]⟩,.int .i64 0] 25)),z.to.cell? ⟨w.heap.size,1,none⟩=some (.float .f64 4607182418800017408):=fun z=>bk_cell (bk_pur NB z.pur) 1 _ rfl
 clear h TX
 go_enter Tryz.func46,Tryz.ntmps46
 go_wp2_with fail
 refine (II _).mono ?_
 rintro e w1 ⟨rfl,rfl⟩
 go_wp2_with fail
 refine (TX2 _ PA).mono ?_
 rintro e w2 ⟨rfl,p2⟩
 go_wp2_with fail
 refine (SY _ (PA.trans p2)).mono ?_
 rintro e w3 ⟨rfl,H3⟩
 clear SY TX2 HN II q1
 go_wp2
 go_end0
 exact ⟨rfl,H3⟩
end Li
namespace Li
theorem wb_above {u bv av av':Value} {B p hh n:Nat} {acc:List UInt8} {ab0 ab':List Value} {w w2:World} (hu:u=.pointer none∨u=.pointer (some ⟨p,1,none⟩)) (hB:B≤p) (hBw:B≤w.heap.size)
   (hbk:w.heap[p]?=some (.cells #[.pointer (some ⟨hh,0,none⟩),u,bv,av] 93 (0,0))) (hown:w.ownsRow B 5 1 bv acc.length (Lib.byteCells acc)) (hab:w.ownsRow B 3 1 av n ab0) (hgrow:w.grownBy w2 av.ownBlock)
   (hown':w2.ownsRow B 3 1 av' ab'.length ab'):WB B p hh acc ab' (w2.setCell ⟨p,3,none⟩ av')∧Old w (w2.setCell ⟨p,3,none⟩ av')∧Below B w (w2.setCell ⟨p,3,none⟩ av'):=by
 have hb2:w2.heap[p]?=some (.cells #[.pointer (some ⟨hh,0,none⟩),u,bv,av] 93 (0,0)):=(hgrow.block p (bk_lt hbk) (row_ne hab hbk jw_neI ∘ Eq.symm)).trans hbk
 have hown2:=row_same hown (w':=w2) (fun g hg=>hgrow.block g (hown.lt g hg).2 (row_ne2 hab hown (Ne.symm int_ne) g hg ∘ Eq.symm))
 have C:Chg [p] w2 (w2.setCell ⟨p,3,none⟩ av'):=(Chg.refl [p] w2).setCell (.inl (by simp)) _
 have h1:WBu u B p hh acc ab' (w2.setCell ⟨p,3,none⟩ av'):=⟨hB,bv,av',bk_set hb2 3 _,row_chg hown2 C (fun g hg hm=>by simp at hm;subst hm;exact row_ne hown2 hb2 jw_ne5 hg),row_chg hown' C (fun g hg hm=>by simp at hm;subst hm;exact row_ne hown' hb2 jw_neI hg)⟩
 refine ⟨?_,(old_of fun b cs T fr h1 _ h3 _=>hgrow.block b (bk_lt h1) fun e=>row_ne hab h1 h3 e.symm).trans (Old.set (a:=⟨p,3,none⟩) hb2 _),((Below.refl B w).grown hgrow hBw (fun k hk=>(hab.lt k hk).1)).setCell (p:=⟨p,3,none⟩) hB _⟩
 rcases hu with rfl | rfl
 · exact .inl h1
 · exact .inr h1
theorem WB.ex2 {B p hh:Nat} {acc:List UInt8} {ab:List Value} {w:World} (h:WB B p hh acc ab w):∃ u bv av,(u=.pointer none∨u=.pointer (some ⟨p,1,none⟩))∧B≤p∧w.heap[p]?=some (.cells #[.pointer (some ⟨hh,0,none⟩),u,bv,av] 93 (0,0)) ∧
   w.ownsRow B 5 1 bv acc.length (Lib.byteCells acc)∧w.ownsRow B 3 1 av ab.length ab:=by
 rcases h with ⟨h0,bv,av,h1,h2,h3⟩ | ⟨h0,bv,av,h1,h2,h3⟩
 · exact ⟨_,bv,av,.inl rfl,h0,h1,h2,h3⟩
 · exact ⟨_,bv,av,.inr rfl,h0,h1,h2,h3⟩
theorem int_i:∃ i0,Tryz.prog.info? 3=some i0∧i0.zero=some (.int .i64 0)∧i0.size=1∧i0.bytes=8:=info_parts (by kernel_rfl)
/-- the first of a row -/
theorem row_init {w:World} {B g n cap:Nat} {e:TypeId} {xs:List Value} {x:Value} (h:w.ownsRow B e 1 (.slice (some ⟨g,0,none⟩) (n + 1) cap) (n + 1) (xs ++ [x])):w.ownsRow B e 1 (.slice (some ⟨g,0,none⟩) n cap) n xs:=by
 have hl:=h.1
 simp only [List.length_append,List.length_cons,List.length_nil,Nat.mul_one] at hl
 rcases h.2 with ⟨hv,h0⟩ | ⟨g',cap',cur,hv,h1,h2,h3,h4,h5,h6⟩
 · cases hv
 · cases hv
   refine ⟨by omega,.inr ⟨g,cap,cur,rfl,h1,h2,by omega,h4,h5,?_⟩⟩
   have e:xs=(xs ++ [x]).take n:=by rw [List.take_append_of_le_length (by omega),List.take_of_length_le (by omega)]
   rw [e,← h6,Nat.mul_one,Nat.mul_one,List.take_take,Nat.min_eq_left (by omega)]
theorem grown_refl (w:World) (row:Option Nat):w.grownBy w row:=⟨rfl,rfl,rfl,Nat.le_refl _,fun _ _ _=>rfl⟩
/-- texts with commas between -/
def jn (tx:Nat→List UInt8):Nat→List UInt8
 | 0=>[]
 | k + 1=>jn tx k ++ (if k=0 then [] else [0,44]) ++ tx k
theorem jn_len {tx:Nat→List UInt8} (h:∀ j,(tx j).length≤100):∀ k,(jn tx k).length≤102 * k
 | 0=>by simp [jn]
 | k + 1=>by
   have:=jn_len h k
   have:=h k
   simp only [jn,List.length_append]
   split <;> simp <;> omega
theorem cell_idx (vs:List Va) (k:Nat) (v:Va) (h:vs[k]?=some v) (c:Nat) (u:Value) (hc:v.cells[c]?=some u):(vs.flatMap Va.cells)[k * 4 + c]?=some u:=va_at vs k v h c u hc
theorem obj_arr {w0 wK w wA:World} {p hh G:Nat} {K:Nat→Prop} {d:Hd} {acc:List UInt8} {o i:Int} (h:JW w0 wK p hh acc [.int .i64 o] w) (hA:At wA hh G K w0 d) (hT:UT w0) (hne:o≠i) (vs:List Va) (tx:Nat→List UInt8) (hit:d.items i=some vs) (hn:vs.length≤10) (htx:∀ j,(tx j).length≤100) (hl:acc.length≤2000)
   (SI:∀ (j:Nat) (v:Va) (acc':List UInt8) (wK' w':World),vs[j]?=some v→JW w0 wK' p hh acc' [.int .i64 o,.int .i64 i] w'→Calls Tryz.prog 45 #[.pointer (some ⟨p,0,none⟩),v.v] w' fun e w''=>e=.returned (.bool false)∧JW w0 wK' p hh acc' [.int .i64 o,.int .i64 i] w'')
   (VA:∀ (j:Nat) (v:Va) (acc':List UInt8) (wK' w':World),vs[j]?=some v→acc'.length≤5000→JW w0 wK' p hh acc' [.int .i64 o,.int .i64 i] w'→Calls Tryz.prog 46 #[.pointer (some ⟨p,0,none⟩),v.v] w' fun e w''=>e=.returned (.tuple #[])∧JW w0 wK' p hh (acc' ++ tx j) [.int .i64 o,.int .i64 i] w'') :
   Calls Tryz.prog 100 #[.pointer (some ⟨p,0,none⟩),.int .i64 i] w fun e w'=>e=.returned (.tuple #[])∧JW w0 wK p hh (acc ++ [0,91] ++ jn tx vs.length ++ [0,93]) [.int .i64 o] w':=by
 have IT:=fun w' (hp:Pur w0 w')=>items_st (hA.pure hp).1 i
 rw [hit] at IT
 simp only [Option.isSome_some,Option.getD_some] at IT
 have hlj:=jn_len htx
 clear hit hA htx
 obtain ⟨u,bv,av,hu,hB,hbk,hown,hab⟩:=h.wb.ex2
 obtain ⟨i0,hi,hz0,hz1,hz2⟩:=int_i
 obtain ⟨ga,ca,rfl,hga,hga2⟩:=hab.form (show 0 < 1 by decide)
 have ka:w.cell? ⟨ga,0,none⟩=some (.int .i64 o):=hab.cells (g:=ga) rfl 0 _ rfl
 have d0:(o == i)=false:=beq_eq_false_iff_ne.2 hne
 have c0:=bk_cell hbk 0 _ rfl
 have c3:w.cell? ⟨p,3,none⟩=some (.slice (some ⟨ga,0,none⟩) 1 ca):=bk_cell hbk 3 _ rfl
 have PA:Pur w (w.alloc (.cells #[.int .i64 i] 3)):=(Pur.refl w).alloc _
 have NX:=bk_new w (.cells #[.int .i64 i] 3)
 have hba:=bk_pur hbk PA
 have howna:=row_pur hown PA
 have haba:=row_pur hab PA
 have ha3:(w.alloc (.cells #[.int .i64 i] 3)).cell? ⟨p,3,none⟩=some (.slice (some ⟨ga,0,none⟩) 1 ca):=bk_cell hba 3 _ rfl
 have hsz:=h.size
 have hsa:=PA.size
 have hp0:=h.pur
 have ho0:=h.old
 clear h hbk hown hab
 go_enter Tryz.func100,Tryz.ntmps100
 go_wp2
 go_loopw [20] (fun v wr=>wr=w∧(v=.int .i64 0∨v=.int .i64 1)) (fun v _=>2 - (intOf v).toNat)
 case atStart=>exact ⟨rfl,.inl rfl⟩
 case round =>
   obtain ⟨rfl,hv⟩:=hrel
   rcases hv with rfl | rfl
   · clear ha3 NX PA hba howna haba
     go_wp2
     go_roundw
     case rel=>simp
     case measure=>simp [intOf]
   · go_wp2_with (at_builtin;refine wpList_append_lies _ rfl _ _ 91 rfl w0.heap.size 3 i0 (.int .i64 0) 1 8 Tryz.underlying91 hi hz0 hz1 hz2 rfl (by decide) (.slice (some ⟨ga,0,none⟩) 1 ca) 1 [.int .i64 o] rfl haba ⟨wr.heap.size,0,none⟩ 1 1 [.int .i64 i] rfl rfl (World.news_of_block (cs:=#[.int .i64 i]) (t:=3) (fr:=(0,0)) NX) (by simp [Value.oneCell']) (by decide) (by decide) (by decide) (by omega) (wr.heap.size + 1) (by simp) ?_)
     intro g cap w2 hown2 hgrow hat hlt
     obtain ⟨HW,HO,HB⟩:=wb_above (ab':=[.int .i64 o,.int .i64 i]) hu hB (by omega) hba howna haba hgrow hown2
     have hb2:=(hgrow.block p (bk_lt hba) (row_ne haba hba jw_neI ∘ Eq.symm)).trans hba
     have f3:=bk_free hb2 3
     have q3:=bk_cell hb2 3 _ rfl
     have q0:=bk_cell hb2 0 _ rfl
     have H3:JW w0 wK p hh acc [.int .i64 o,.int .i64 i] (w2.setCell ⟨p,3,none⟩ (.slice (some ⟨g,0,none⟩) 2 cap)):=⟨HW,Below.trans (hp0.trans PA) HB,(ho0.trans (Old.pur PA)).trans HO⟩
     clear HW HO HB hown2 hgrow hat hba howna haba NX ha3 PA ho0 hp0 hb2
     have IT3:=IT _ H3.pur
     clear IT
     go_wp2_with fail
     generalize w2.setCell ⟨p,3,none⟩ (.slice (some ⟨g,0,none⟩) 2 cap)=w3 at *
     refine IT3.mono ?_
     rintro e w4 ⟨v4,rfl,p4,row4⟩
     obtain ⟨gi,ci,rfl⟩:=row_shape row4
     have H4:=(H3.next p4)
     have ho4:=H4.old
     have S1:=say_ok (s:=[91]) H4.here hT (by decide) (by simp [wide8];omega) (by decide)
     rw [show wide8 [91]=[0,91] from rfl] at S1
     clear IT3 H3 p4 f3 q3 q0 H4
     go_wp2_with fail
     refine S1.mono ?_
     rintro e w5 ⟨rfl,H5⟩
     clear S1
     have VT:=Lib.hid (And.intro SI VA)
     clear SI VA
     go_wp2
     go_loopw [60] (fun v wr=>∃ k:Nat,k≤vs.length∧v=.int .i64 (k:Int)∧JW w0 w4 p hh (acc ++ [0,91] ++ jn tx k) [.int .i64 o,.int .i64 i] wr) (fun v _=>vs.length - (intOf v).toNat)
     case atStart=>exact ⟨0,by omega,rfl,by simp only [jn,List.append_nil];exact H5⟩
     case round =>
       obtain ⟨k,hk,rfl,H⟩:=hrel
       have hlk:=hlj k
       by_cases hkn:k < vs.length
       · obtain ⟨v,hv⟩:∃ v,vs[k]?=some v:=⟨_,List.getElem?_eq_getElem hkn⟩
         have row:=Old.row row4 H.old (by decide) (by decide) (by decide)
         obtain ⟨g',c',hg',hgl,hgl2⟩:=row.form (show 0 < vs.length by omega)
         simp only [Value.slice.injEq] at hg'
         obtain ⟨rfl,-,rfl⟩:=hg'
         have cl:∀ (c:Nat) (x:Value),v.cells[c]?=some x→wr.cell? ⟨g',k * 4 + c,none⟩=some x:=fun c x hc=>by
           have:=row.cells (g:=g') rfl (k * 4 + c) x (cell_idx vs k v hv c x hc)
           rw [← this]
           unfold Addr.add
           split <;> simp_all
         have y0:=cl 0 _ rfl
         have y1:=cl 1 _ rfl
         have y2:=cl 2 _ rfl
         have y3:=cl 3 _ rfl
         rw [Nat.add_zero] at y0
         have SI:=fun acc' wK' w'=>VT.out.1 k v acc' wK' w' hv
         have VA:=fun acc' wK' w'=>VT.out.2 k v acc' wK' w' hv
         obtain ⟨vk,vn,vt,vr⟩:=v
         simp only [Va.v,Va.cells] at SI VA
         have PV:Pur wr (wr.alloc (.cells #[.int .i64 vk,.float .f64 vn,.string ⟨vt.toArray⟩,.int .i64 vr] 25)):=(Pur.refl wr).alloc _
         have BV:=bk_new wr (.cells #[.int .i64 vk,.float .f64 vn,.string ⟨vt.toArray⟩,.int .i64 vr] 25)
         have HV:=H.next PV
         have hwr1:IntKind.i64.wrap ((k:Int) + 1)=k + 1:=IntWalk.i64_in _ (by omega)
         have d1:decide ((k:Int) < (vs.length:Int))=true:=decide_eq_true (by omega)
         clear cl row
         rcases Nat.eq_zero_or_pos k with hk0 | hk0
         · subst hk0
           simp only [Nat.zero_mul,Nat.zero_add] at y0 y1 y2 y3
           have d2:decide ((0:Int) < ((0:Nat):Int))=false:=rfl
           have e2:jn tx (0 + 1)=jn tx 0 ++ [] ++ tx 0:=rfl
           rw [List.append_nil] at e2
           have hoq:=HV.old
           have SL:=SI _ _ _ HV.here
           have BVq:=BV
           have hlq:(acc ++ [0,91] ++ jn tx 0).length≤2002 + 1020:=by simp only [List.length_append,List.length_cons,List.length_nil];omega
           clear HV H BV
           go_wp2_with fail
           refine SL.mono ?_
           rintro e w6 ⟨rfl,H6⟩
           have ho6:=H6.old
           have b6:=(ho6 wr.heap.size _ 25 (0,0) BVq (by decide) (by decide) (by decide)).trans BVq
           have z0:=bk_cell b6 0 _ rfl
           have z1:=bk_cell b6 1 _ rfl
           have z2:=bk_cell b6 2 _ rfl
           have z3:=bk_cell b6 3 _ rfl
           have VL:=VA _ _ _ (by simp only [List.length_append,List.length_cons,List.length_nil] at hlq ⊢;omega) (H6.back hoq)
           clear SL H6
           go_wp2_with fail
           refine VL.mono ?_
           rintro e w7 ⟨rfl,H7⟩
           have HF:=Lib.hid H7
           clear VL H7 b6 z0 z1 z2 z3 BVq
           go_wp2
           go_roundw
           case rel=>exact ⟨0 + 1,by omega,by simp,by rw [e2];have:=HF.out;simpa only [List.append_assoc] using this⟩
           case measure=>simp [intOf];omega
         · have d2:decide ((0:Int) < (k:Int))=true:=decide_eq_true (by omega)
           have e2:jn tx (k + 1)=jn tx k ++ [0,44] ++ tx k:=by simp only [jn];rw [if_neg (by omega)]
           have hoA:=HV.old
           have S2:=say_ok (s:=[44]) HV.here hT (by decide) (by simp [wide8];omega) (by decide)
           rw [show wide8 [44]=[0,44] from rfl] at S2
           go_wp2_with fail
           refine S2.mono ?_
           rintro e wq ⟨rfl,HV2⟩
           have HVo:=HV2.old
           clear S2 HV
           have hoq:=hoA.trans HVo
           have SL:=SI _ _ _ HV2.here
           have BVq:=(HVo wr.heap.size _ 25 (0,0) BV (by decide) (by decide) (by decide)).trans BV
           have hlq:(acc ++ [0,91] ++ jn tx k ++ [0,44]).length≤2004 + 1020:=by simp only [List.length_append,List.length_cons,List.length_nil];omega
           have x0:=bk_cell BVq 0 _ rfl
           have x1:=bk_cell BVq 1 _ rfl
           have x2:=bk_cell BVq 2 _ rfl
           have x3:=bk_cell BVq 3 _ rfl
           clear HV2 H BV
           go_wp2_with fail
           refine SL.mono ?_
           rintro e w6 ⟨rfl,H6⟩
           have ho6:=H6.old
           have b6:=(ho6 wr.heap.size _ 25 (0,0) BVq (by decide) (by decide) (by decide)).trans BVq
           have z0:=bk_cell b6 0 _ rfl
           have z1:=bk_cell b6 1 _ rfl
           have z2:=bk_cell b6 2 _ rfl
           have z3:=bk_cell b6 3 _ rfl
           have VL:=VA _ _ _ (by simp only [List.length_append,List.length_cons,List.length_nil] at hlq ⊢;omega) (H6.back hoq)
           clear SL H6
           go_wp2_with fail
           refine VL.mono ?_
           rintro e w7 ⟨rfl,H7⟩
           have HF:=Lib.hid H7
           clear VL H7 b6 z0 z1 z2 z3 BVq
           go_wp2
           go_roundw
           case rel=>exact ⟨k + 1,by omega,by simp,by rw [e2];have:=HF.out;simpa only [List.append_assoc] using this⟩
           case measure=>simp [intOf];omega
       · obtain rfl:k=vs.length:=by omega
         have d1:decide ((vs.length:Int) < (vs.length:Int))=false:=decide_eq_false (by omega)
         have S2:=say_ok (s:=[93]) H hT (by decide) (by simp [wide8];omega) (by decide)
         rw [show wide8 [93]=[0,93] from rfl] at S2
         clear H
         go_wp2_with fail
         refine S2.mono ?_
         rintro e w6 ⟨rfl,H6⟩
         clear S2
         obtain ⟨u,bv,av,hu,hB,hbk,hown,hab⟩:=H6.wb.ex2
         obtain ⟨gz,cz,rfl,hgz,hgz2⟩:=hab.form (show 0 < 2 by decide)
         have q0:w6.drew.cell? ⟨p,3,none⟩=some (.slice (some ⟨gz,0,none⟩) 2 cz):=bk_cell (bk_drew hbk) 3 _ rfl
         have q1:=bk_free (bk_drew hbk) 3
         have q0':w6.cell? ⟨p,3,none⟩=some (.slice (some ⟨gz,0,none⟩) 2 cz):=bk_cell hbk 3 _ rfl
         have q1':=bk_free hbk 3
         have hcz:2≤cz:=by
           rcases hab.2 with ⟨hv,_⟩ | ⟨g',cap',cur,hv,h1,h2,h3,h4⟩
           · cases hv
           · cases hv;exact h3
         obtain ⟨HW,HO,HB⟩:=wb_above (ab':=[.int .i64 o]) hu hB H6.size hbk hown hab (grown_refl w6 _) (row_init (xs:=[.int .i64 o]) hab)
         have H7:JW w0 wK p hh (acc ++ [0,91] ++ jn tx vs.length ++ [0,93]) [.int .i64 o] (w6.setCell ⟨p,3,none⟩ (.slice (some ⟨gz,0,none⟩) 1 cz)):=⟨HW,Below.trans H6.pur HB,(ho4.trans H6.old).trans HO⟩
         have H8:=H7.next (Pur.refl _).drew
         have HF:=Lib.hid H8
         clear HW HO HB hab hown hbk H6 H7 H8
         go_wp2
         go_region
         all_goals
           go_wp2
           go_end0
           exact ⟨rfl,HF.out⟩
end Li
namespace Li
theorem obj_one {w0 wK w wA:World} {p hh G:Nat} {K:Nat→Prop} {d:Hd} {acc tk:List UInt8} {o:Int} (h:JW w0 wK p hh acc [] w) (hA:At wA hh G K w0 d) (hT:UT w0) (hW:HpW w0) (hit:d.items o=none) (hks:d.keys o=[tk]) (hpl:Plain tk) (v:Va) (hov:d.own o tk=(v,true)) (tv:List UInt8) (htv:tv.length≤2000) (htk:tk.length≤100) (hl:acc.length≤1000)
   (SI:∀ (acc':List UInt8) (wK' w':World),JW w0 wK' p hh acc' [.int .i64 o] w'→Calls Tryz.prog 45 #[.pointer (some ⟨p,0,none⟩),v.v] w' fun e w''=>e=.returned (.bool false)∧JW w0 wK' p hh acc' [.int .i64 o] w'')
   (VA:∀ (acc':List UInt8) (wK' w':World),acc'.length≤2000→JW w0 wK' p hh acc' [.int .i64 o] w'→Calls Tryz.prog 46 #[.pointer (some ⟨p,0,none⟩),v.v] w' fun e w''=>e=.returned (.tuple #[])∧JW w0 wK' p hh (acc' ++ tv) [.int .i64 o] w'') :
   Calls Tryz.prog 100 #[.pointer (some ⟨p,0,none⟩),.int .i64 o] w fun e w'=>e=.returned (.tuple #[])∧JW w0 wK p hh (acc ++ [0,123] ++ [0,34] ++ tk ++ [0,34] ++ [0,58] ++ tv ++ [0,125]) [] w':=by
 have IT:=fun w' (hp:Pur w0 w')=>items_st (hA.pure hp).1 o
 rw [hit] at IT
 simp only [Option.isSome_none,Option.getD_none] at IT
 have KY:=fun w' (hp:Pur w0 w')=>keys_st (hA.pure hp).1 (hW.pur hp) o
 rw [hks] at KY
 have OW:=fun w' (hp:Pur w0 w')=>own_st (hA.pure hp).1 o tk (by omega)
 rw [hov] at OW
 clear hit hA hks hov hW
 obtain ⟨u,bv,av,hu,hB,hbk,hown,hab⟩:=h.wb.ex2
 obtain ⟨i0,hi,hz0,hz1,hz2⟩:=int_i
 obtain ⟨aa,ca,rfl⟩:=row_shape hab
 have c0:=bk_cell hbk 0 _ rfl
 have c3:w.cell? ⟨p,3,none⟩=some (.slice aa 0 ca):=bk_cell hbk 3 _ rfl
 have PA:Pur w (w.alloc (.cells #[.int .i64 o] 3)):=(Pur.refl w).alloc _
 have NX:=bk_new w (.cells #[.int .i64 o] 3)
 have hba:=bk_pur hbk PA
 have howna:=row_pur hown PA
 have haba:=row_pur hab PA
 have ha3:(w.alloc (.cells #[.int .i64 o] 3)).cell? ⟨p,3,none⟩=some (.slice aa 0 ca):=bk_cell hba 3 _ rfl
 have hsz:=h.size
 have hsa:=PA.size
 have hp0:=h.pur
 have ho0:=h.old
 clear h hbk hown hab
 go_enter Tryz.func100,Tryz.ntmps100
 go_wp2
 go_loopw [20] (fun v wr=>wr=w∧v=.int .i64 0) (fun _ _=>0)
 case atStart=>exact ⟨rfl,rfl⟩
 case round =>
   obtain ⟨rfl,rfl⟩:=hrel
   go_wp2_with (at_builtin;refine wpList_append_lies _ rfl _ _ 91 rfl w0.heap.size 3 i0 (.int .i64 0) 1 8 Tryz.underlying91 hi hz0 hz1 hz2 rfl (by decide) (.slice aa 0 ca) 0 [] rfl haba ⟨wr.heap.size,0,none⟩ 1 1 [.int .i64 o] rfl rfl (World.news_of_block (cs:=#[.int .i64 o]) (t:=3) (fr:=(0,0)) NX) (by simp [Value.oneCell']) (by decide) (by decide) (by decide) (by omega) (wr.heap.size + 1) (by simp) ?_)
   intro g cap w2 hown2 hgrow hat hlt
   obtain ⟨HW,HO,HB⟩:=wb_above (ab':=[.int .i64 o]) hu hB (by omega) hba howna haba hgrow hown2
   have hb2:=(hgrow.block p (bk_lt hba) (row_ne haba hba jw_neI ∘ Eq.symm)).trans hba
   have f3:=bk_free hb2 3
   have q3:=bk_cell hb2 3 _ rfl
   have q0:=bk_cell hb2 0 _ rfl
   have H3:JW w0 wK p hh acc [.int .i64 o] (w2.setCell ⟨p,3,none⟩ (.slice (some ⟨g,0,none⟩) 1 cap)):=⟨HW,Below.trans (hp0.trans PA) HB,(ho0.trans (Old.pur PA)).trans HO⟩
   clear HW HO HB hown2 hgrow hat hba howna haba NX ha3 PA ho0 hp0 hb2
   have IT3:=IT _ H3.pur
   clear IT
   go_wp2_with fail
   generalize w2.setCell ⟨p,3,none⟩ (.slice (some ⟨g,0,none⟩) 1 cap)=w3 at *
   refine IT3.mono ?_
   rintro e w4 ⟨v4,rfl,p4,row4⟩
   obtain ⟨gi,ci,rfl⟩:=row_shape row4
   have H4:=(H3.next p4)
   have ho4:=H4.old
   have S1:=say_ok (s:=[123]) H4.here hT (by decide) (by simp [wide8];omega) (by decide)
   rw [show wide8 [123]=[0,123] from rfl] at S1
   clear IT3 H3 p4 f3 q3 q0 row4 H4
   go_wp2_with fail
   refine S1.mono ?_
   rintro e w5 ⟨rfl,H5⟩
   have KY5:=KY _ H5.pur
   have c5:=H5.cell _ (Pur.refl _)
   clear S1 KY
   go_wp2_with fail
   refine KY5.mono ?_
   rintro e w6 ⟨v6,rfl,p6,row6⟩
   obtain ⟨gk,ck,rfl,hgk,hgk2⟩:=row6.form (show 0 < 1 by decide)
   have k6:w6.cell? ⟨gk,0,none⟩=some (.string ⟨tk.toArray⟩):=row6.cells (g:=gk) rfl 0 _ rfl
   have H6:=H5.next p6
   clear KY5 H5 row6 p6 c5
   have VT:=Lib.hid (And.intro SI VA)
   clear SI VA
   go_wp2
   go_loopw [10,89] (fun fv kv wr=>(kv=.int .i64 0∧fv=.bool true∧wr=w6)∨(kv=.int .i64 1∧JW w0 w4 p hh (acc ++ [0,123] ++ [0,34] ++ tk ++ [0,34] ++ [0,58] ++ tv) [.int .i64 o] wr)) (fun _ kv _=>2 - (intOf kv).toNat)
   case atStart=>exact .inl ⟨rfl,rfl,rfl⟩
   case round =>
     rcases hrel with ⟨rfl,rfl,rfl⟩ | ⟨rfl,H⟩
     · have c6:=H6.cell _ (Pur.refl _)
       have OW6:=OW _ H6.pur
       obtain ⟨vk,vn,vt,vr⟩:=v
       have SI:=VT.out.1
       have VA:=VT.out.2
       simp only [Va.v,Va.cells] at SI VA OW6
       clear OW
       go_wp2_with fail
       refine OW6.mono ?_
       rintro e w7 ⟨rfl,p7⟩
       have H7:=H6.next p7
       have BV:=bk_new w7 (.cells #[.int .i64 vk,.float .f64 vn,.string ⟨vt.toArray⟩,.int .i64 vr] 25)
       have PV:Pur w7 (w7.alloc (.cells #[.int .i64 vk,.float .f64 vn,.string ⟨vt.toArray⟩,.int .i64 vr] 25)):=(Pur.refl w7).alloc _
       have HV:=H7.next PV
       have hoV:=HV.old
       have SL:=SI _ _ _ HV.here
       clear OW6 H6 c6 k6 H7
       go_wp2_with fail
       refine SL.mono ?_
       rintro e w8 ⟨rfl,H8⟩
       have QU:=quote_ok (t:=tk) H8 hT hpl (by simp only [List.length_append,List.length_cons,List.length_nil];omega)
       clear SL SI
       go_wp2_with fail
       refine QU.mono ?_
       rintro e w9 ⟨rfl,H9⟩
       have S2:=say_ok (s:=[58]) H9 hT (by decide) (by simp [wide8];omega) (by decide)
       rw [show wide8 [58]=[0,58] from rfl] at S2
       clear QU H8
       go_wp2_with fail
       refine S2.mono ?_
       rintro e w10 ⟨rfl,H10⟩
       have ho10:=H10.old
       have b10:=(ho10 w7.heap.size _ 25 (0,0) BV (by decide) (by decide) (by decide)).trans BV
       have z0:=bk_cell b10 0 _ rfl
       have z1:=bk_cell b10 1 _ rfl
       have z2:=bk_cell b10 2 _ rfl
       have z3:=bk_cell b10 3 _ rfl
       have VL:=VA _ _ _ (by simp only [List.length_append,List.length_cons,List.length_nil];omega) (H10.back hoV)
       clear S2 H9 H10 VA
       go_wp2_with fail
       refine VL.mono ?_
       rintro e w11 ⟨rfl,H11⟩
       have HF:=Lib.hid H11
       clear VL H11 b10 z0 z1 z2 z3 BV HV PV
       go_wp2
       go_roundw
       case rel=>exact .inr ⟨rfl,by have:=HF.out;simpa only [List.append_assoc] using this⟩
       case measure=>simp [intOf]
     · have S2:=say_ok (s:=[125]) H hT (by decide) (by simp [wide8];omega) (by decide)
       rw [show wide8 [125]=[0,125] from rfl] at S2
       clear H H6 k6 OW
       go_wp2_with fail
       refine S2.mono ?_
       rintro e w6 ⟨rfl,H6⟩
       clear S2
       obtain ⟨u,bv,av,hu,hB,hbk,hown,hab⟩:=H6.wb.ex2
       obtain ⟨gz,cz,rfl,hgz,hgz2⟩:=hab.form (show 0 < 1 by decide)
       have q0:w6.drew.cell? ⟨p,3,none⟩=some (.slice (some ⟨gz,0,none⟩) 1 cz):=bk_cell (bk_drew hbk) 3 _ rfl
       have q1:=bk_free (bk_drew hbk) 3
       have q0':w6.cell? ⟨p,3,none⟩=some (.slice (some ⟨gz,0,none⟩) 1 cz):=bk_cell hbk 3 _ rfl
       have q1':=bk_free hbk 3
       have hcz:1≤cz:=by
         rcases hab.2 with ⟨hv,_⟩ | ⟨g',cap',cur,hv,h1,h2,h3,h4⟩
         · cases hv
         · cases hv;exact h3
       obtain ⟨HW,HO,HB⟩:=wb_above (ab':=[]) hu hB H6.size hbk hown hab (grown_refl w6 _) (row_init (xs:=[]) hab)
       have H7:JW w0 wK p hh (acc ++ [0,123] ++ [0,34] ++ tk ++ [0,34] ++ [0,58] ++ tv ++ [0,125]) [] (w6.setCell ⟨p,3,none⟩ (.slice (some ⟨gz,0,none⟩) 0 cz)):=⟨HW,Below.trans H6.pur HB,(ho4.trans H6.old).trans HO⟩
       have H8:=H7.next (Pur.refl _).drew
       have HF:=Lib.hid H8
       clear HW HO HB hab hown hbk H6 H7 H8
       go_wp2
       go_region
       all_goals
         go_wp2
         go_end0
         exact ⟨rfl,HF.out⟩
end Li
namespace Li
theorem wv_obj {w0 wK w:World} {p hh:Nat} {acc acc':List UInt8} {ab:List Value} {o:Int} (h:JW w0 wK p hh acc ab w)
   (OB:∀ wK' w',JW w0 wK' p hh acc ab w'→Calls Tryz.prog 100 #[.pointer (some ⟨p,0,none⟩),.int .i64 o] w' fun e w''=>e=.returned (.tuple #[])∧JW w0 wK' p hh acc' ab w'') :
   Calls Tryz.prog 46 #[.pointer (some ⟨p,0,none⟩),(⟨5,0,[],o⟩:Va).v] w fun e w'=>e=.returned (.tuple #[])∧JW w0 wK p hh acc' ab w':=by
 simp only [Va.v,Va.cells]
 have PA:Pur w (w.alloc (.cells #[.int .i64 5,.float .f64 0,.string ⟨#[]⟩,.int .i64 o] 25)):=(Pur.refl w).alloc _
 have QU:=OB _ _ (h.next PA)
 clear h PA OB
 go_enter Tryz.func46,Tryz.ntmps46
 go_wp2_with fail
 refine QU.mono ?_
 rintro e w1 ⟨rfl,H1⟩
 clear QU
 go_wp2
 go_end0
 exact ⟨rfl,H1⟩
theorem strify_idle (p q:Nat) (w:World) :
   CallsD Tryz.prog 44 #[.pointer (some ⟨p,0,none⟩),.pointer (some ⟨q,0,none⟩)] .returning w fun e u' w'=>e=.returned (.tuple #[])∧u'=.returning∧w'=w:=by
 refine callsD_of_wpS Tryz.func44 rfl fun c₀ cs hu=>?_
 apply wpS_seq
 apply wpS_region
 simp [wpOpsS,go_sem,recoverD,hu,Tryz.ntmps44,Exit.thenS]
 apply wpS_seq
 apply wpS_region
 simp [wpOpsS,go_sem,Exit.thenS,Act.eval,Array.replicate]
 refine wpS_cond (t:=false) (by simp [Act.eval,Array.replicate]) ?_
 simp only [Bool.false_eq_true,if_false]
 refine wpS_of_wp (wp_skip ?_)
 cases c₀
 simp_all [bodyPostS,results,Tryz.results44]
def one:Nat:=4607182418800017408
/-- the texts of awake's items -/
def jtx:Nat→List UInt8
 | 0=>[0,49]
 | 1=>[0,110,0,117,0,108,0,108]
 | 2=>[0,34,0,120,0,34]
 | _=>[]
theorem jtx_len:∀ j,(jtx j).length≤100
 | 0=>by decide
 | 1=>by decide
 | 2=>by decide
 | _ + 3=>Nat.zero_le _
theorem jt_all:[] ++ [0,123] ++ [0,34] ++ [0,97] ++ [0,34] ++ [0,58] ++ ([0,91] ++ jn jtx 3 ++ [0,93]) ++ [0,125]=jt:=by decide
theorem Plain_1 (c:UInt8) (h:c.toNat < 128∧32≤c.toNat∧c.toNat≠34∧c.toNat≠92):Plain [0,c]:=by
 refine ⟨by simp,fun j hj=>?_⟩
 have:j=0:=by simp at hj;omega
 subst this
 have e:at16 [0,c] 0=c.toNat:=by simp [at16,by8]
 rw [e]
 exact h
theorem strify_aw {w wA:World} {hh G:Nat} {K:Nat→Prop} {d:Hd} {o i:Int} (hA:At wA hh G K w d) (hT:UT w) (hW:HpW w) (h1:d.items o=none) (h2:d.keys o=[[0,97]]) (h3:d.own o [0,97]=(⟨5,0,[],i⟩,true)) (h4:d.items i=some (jvs one)) (hne:o≠i) (hko:d.kind o≠3) (hki:d.kind i≠3)
   (TX:∀ w',Pur w w'→Calls Tryz.prog 98 #[.float .f64 one] w' fun e w''=>e=.returned (.string ⟨#[49]⟩)∧Pur w' w'') :
   Calls Tryz.prog 24 #[.pointer (some ⟨hh,0,none⟩),.agg #[.int .i64 5,.float .f64 0,.string ⟨#[]⟩,.int .i64 o]] w fun e w'=>e=.returned (.tuple #[.agg #[.int .i64 4,.float .f64 0,.string ⟨jt.toArray⟩,.int .i64 0],.int .i64 0])∧Pur w w':=by
 have hmf:∀ (fn:Fn) (first cap:Array Value) (w:World),(Instr.makeFunc fn first cap).run Tryz.prog w=.ok (.func fn first cap) w:=fun _ _ _ _=>rfl
 -- the array
 have AR:∀ (acc:List UInt8) (wK w':World) (p:Nat),acc.length≤2000→JW w wK p hh acc [.int .i64 o] w'→Calls Tryz.prog 100 #[.pointer (some ⟨p,0,none⟩),.int .i64 i] w' fun e w''=>e=.returned (.tuple #[])∧JW w wK p hh (acc ++ ([0,91] ++ jn jtx 3 ++ [0,93])) [.int .i64 o] w'':=by
   intro acc wK w' p hl H
   have:=obj_arr H hA hT hne (jvs one) jtx h4 (show 3≤10 by decide) jtx_len hl ?_ ?_
   · refine this.mono ?_
     rintro e w'' ⟨rfl,H2⟩
     refine ⟨rfl,?_⟩
     have e:acc ++ [0,91] ++ jn jtx (jvs one).length ++ [0,93]=acc ++ ([0,91] ++ jn jtx 3 ++ [0,93]):=by simp only [List.append_assoc];rfl
     rw [← e]
     exact H2
   · intro j v acc' wK' w2 hv H2
     refine silent_leaf H2 v ?_
     match j,hv with
     | 0,hv=>simp [jvs] at hv;subst hv;exact .inr (.inl rfl)
     | 1,hv=>simp [jvs] at hv;subst hv;exact .inl rfl
     | 2,hv=>simp [jvs] at hv;subst hv;exact .inr (.inr rfl)
     | _ + 3,hv=>simp [jvs] at hv
   · intro j v acc' wK' w2 hv hl2 H2
     match j,hv with
     | 0,hv=>simp [jvs] at hv;subst hv;exact wv_one H2 hT (by omega) TX
     | 1,hv=>simp [jvs] at hv;subst hv;exact wv_null H2 hT (by omega)
     | 2,hv =>
       simp [jvs] at hv;subst hv
       have:=wv_text H2 hT (Plain_1 120 (by decide)) (by simp;omega)
       have e:acc' ++ [0,34] ++ [0,120] ++ [0,34]=acc' ++ jtx 2:=by simp [jtx]
       rw [e] at this
       exact this
     | _ + 3,hv=>simp [jvs] at hv
 have OB:∀ (wK w':World) (p:Nat),JW w wK p hh [] [] w'→Calls Tryz.prog 100 #[.pointer (some ⟨p,0,none⟩),.int .i64 o] w' fun e w''=>e=.returned (.tuple #[])∧JW w wK p hh jt [] w'':=by
   intro wK w' p H
   rw [← jt_all]
   exact obj_one H hA hT hW h1 h2 (Plain_1 97 (by decide)) _ h3 _ (by decide) (by decide) (by decide) (fun acc' wK' w2 H2=>silent_obj H2 hA i hki) (fun acc' wK' w2 hl2 H2=>by
     refine wv_obj H2 fun wK2 w3 H3=>?_
     exact AR acc' wK2 w3 p (by omega) H3)
 obtain ⟨W0,hW0⟩:∃ W0,W0=(((w.alloc (.cells #[.int .i64 5,.float .f64 0,.string ⟨#[]⟩,.int .i64 o] 25)).alloc (.cells #[.int .i64 0,.float .f64 0,.string ⟨#[]⟩,.int .i64 0] 25)).alloc (.cells #[.int .i64 0] 29)).alloc (.cells #[.pointer (some ⟨hh,0,none⟩),.pointer none,.slice none 0 0,.slice none 0 0] 93):=⟨_,rfl⟩
 obtain ⟨Wa,hWa⟩:∃ Wa,Wa=w.alloc (.cells #[.int .i64 5,.float .f64 0,.string ⟨#[]⟩,.int .i64 o] 25):=⟨_,rfl⟩
 obtain ⟨Wb,hWb⟩:∃ Wb,Wb=Wa.alloc (.cells #[.int .i64 0,.float .f64 0,.string ⟨#[]⟩,.int .i64 0] 25):=⟨_,rfl⟩
 obtain ⟨Wc,hWc⟩:∃ Wc,Wc=Wb.alloc (.cells #[.int .i64 0] 29):=⟨_,rfl⟩
 have sa:Wa.heap.size=w.heap.size + 1:=by rw [hWa];exact Array.size_push _
 have sb:Wb.heap.size=w.heap.size + 1 + 1:=by rw [← sa,hWb];exact Array.size_push _
 have sc:Wc.heap.size=w.heap.size + 1 + 1 + 1:=by rw [← sb,hWc];exact Array.size_push _
 have e0:W0=Wc.alloc (.cells #[.pointer (some ⟨hh,0,none⟩),.pointer none,.slice none 0 0,.slice none 0 0] 93):=by rw [hWc,hWb,hWa];exact hW0
 have ba:W0.heap[w.heap.size]?=some (.cells #[.int .i64 5,.float .f64 0,.string ⟨#[]⟩,.int .i64 o] 25 (0,0)):=by rw [hW0];exact bk_alloc (bk_alloc (bk_alloc (bk_new w _) _) _) _
 have bb:W0.heap[w.heap.size + 1]?=some (.cells Va.zero.cells.toArray 25 (0,0)):=by rw [e0,hWc,hWb,← sa];exact bk_alloc (bk_alloc (bk_new Wa _) _) _
 have bc:W0.heap[w.heap.size + 1 + 1]?=some (.cells #[.int .i64 0] 29 (0,0)):=by rw [e0,hWc,← sb];exact bk_alloc (bk_new Wb _) _
 have bd:W0.heap[w.heap.size + 1 + 1 + 1]?=some (.cells #[.pointer (some ⟨hh,0,none⟩),.pointer none,.slice none 0 0,.slice none 0 0] 93 (0,0)):=by rw [e0,← sc];exact bk_new Wc _
 have hP:Pur w W0:=by rw [hW0];exact ((((Pur.refl w).alloc _).alloc _).alloc _).alloc _
 have HJ:JW w W0 (w.heap.size + 1 + 1 + 1) hh [] [] W0:=⟨.inl ⟨by omega,.slice none 0 0,.slice none 0 0,bd,World.ownsRow_nil _ _ _ _,World.ownsRow_nil _ _ _ _⟩,hP,Old.refl _⟩
 have SL:=silent_obj HJ hA o hko
 simp only [Va.v,Va.cells] at SL
 have r0:=bk_cell ba 0 _ rfl
 have r1:=bk_cell ba 1 _ rfl
 have r2:=bk_cell ba 2 _ rfl
 have r3:=bk_cell ba 3 _ rfl
 clear bd HJ e0 sa sb sc hWa hWb hWc hT hW hA TX AR
 go_enter_defers Tryz.func24,Tryz.ntmps24
 go_wp2_with fail
 rw [← hW0]
 refine SL.mono ?_
 rintro e w1 ⟨rfl,H1⟩
 have ho1:=H1.old
 have b1:=(ho1 w.heap.size _ 25 (0,0) ba (by decide) (by decide) (by decide)).trans ba
 have x0:=bk_cell b1 0 _ rfl
 have x1:=bk_cell b1 1 _ rfl
 have x2:=bk_cell b1 2 _ rfl
 have x3:=bk_cell b1 3 _ rfl
 have VL:=wv_obj H1 fun wK' w' H=>OB wK' w' _ H
 simp only [Va.v,Va.cells] at VL
 clear SL H1 OB hW0 r0 r1 r2 r3 b1
 go_wp2_with fail
 refine VL.mono ?_
 rintro e w2 ⟨rfl,H2⟩
 have ST:=str_any H2.wb (by decide)
 clear VL x0 x1 x2 x3
 go_wp2_with fail
 refine ST.mono ?_
 rintro e w3 ⟨rfl,p3,o3⟩
 have HO:=H2.old.trans o3
 have P3:=Below.trans H2.pur p3
 have TE:=fun w=>etext_any jt w
 clear ST H2 p3 o3
 go_wp2_with fail
 refine (TE _).mono ?_
 rintro e w4 ⟨rfl,p4⟩
 have HO:=HO.trans (Old.pur p4)
 have P4:=Below.trans P3 (p4.mono P3.size)
 have c0:=(HO (w.heap.size + 1) _ 25 (0,0) bb (by decide) (by decide) (by decide)).trans bb
 have c1:=(HO (w.heap.size + 1 + 1) _ 29 (0,0) bc (by decide) (by decide) (by decide)).trans bc
 clear TE HO P3 p4 bb bc ba
 obtain ⟨⟨s0,s1⟩,⟨s2,s3⟩,⟨s4,s5⟩,⟨s6,s7⟩⟩:=st4_steps (y:=Va.zero) (x:=⟨4,0,jt,0⟩) c0
 have R8:=st4_at (y:=Va.zero) (x:=⟨4,0,jt,0⟩) c0
 have c1':=st4_other (x:=⟨4,0,jt,0⟩) c1 (show w.heap.size + 1 + 1≠w.heap.size + 1 by omega)
 have e1:=bk_cell c1' 0 _ rfl
 have f1:=bk_free c1' 0
 obtain ⟨W5,hW5⟩:∃ W5,W5=(st4 w4 (w.heap.size + 1) ⟨4,0,jt,0⟩).setCell ⟨w.heap.size + 1 + 1,0,none⟩ (.int .i64 0):=⟨_,rfl⟩
 have PF:Pur w W5:=by
   rw [hW5]
   exact ((((P4.setCell (p:=⟨w.heap.size + 1,0,none⟩) (by simp) _).setCell (p:=⟨w.heap.size + 1,1,none⟩) (by simp) _).setCell (p:=⟨w.heap.size + 1,2,none⟩) (by simp) _).setCell (p:=⟨w.heap.size + 1,3,none⟩) (by simp) _).setCell (p:=⟨w.heap.size + 1 + 1,0,none⟩) (by simp;omega) _
 have z0:W5.heap[w.heap.size + 1]?=some (.cells (⟨4,0,jt,0⟩:Va).cells.toArray 25 (0,0)):=by rw [hW5];exact bk_other R8 (a:=⟨w.heap.size + 1 + 1,0,none⟩) (by simp) _
 have z1:W5.heap[w.heap.size + 1 + 1]?=some (.cells #[.int .i64 0] 29 (0,0)):=by rw [hW5];exact bk_set c1' 0 _
 have HF:=Lib.hid PF
 have HW:=Lib.hid hW5
 clear PF hW5 R8 P4
 simp only [st4,Va.zero] at s0 s1 s2 s3 s4 s5 s6 s7 e1 f1 HW
 go_wp2
 rw [← HW.out]
 have y0:=bk_cell z0 0 _ rfl
 have y1:=bk_cell z0 1 _ rfl
 have y2:=bk_cell z0 2 _ rfl
 have y3:=bk_cell z0 3 _ rfl
 have y4:=bk_cell z1 0 _ rfl
 have hend:=HF.out
 clear HW s0 s1 s2 s3 s4 s5 s6 s7 e1 f1 c0 c1 c1' z0 z1
 refine leaves_cons (f:=44) (args:=#[.pointer (some ⟨w.heap.size + 1,0,none⟩),.pointer (some ⟨w.heap.size + 1 + 1,0,none⟩)]) (by simp) (by simp [go_sem]) ?_
 refine (strify_idle _ _ W5).mono ?_
 rintro e u' w3 ⟨rfl,rfl,rfl⟩
 simp [Leaves,settle,results,Tryz.results24,go_sem,y0,y1,y2,y3,y4,hend]
 exact ⟨rfl,rfl,rfl,rfl⟩
end Li
namespace Li
theorem wide8_length:∀ s:List UInt8,(wide8 s).length=2 * s.length
 | []=>rfl
 | c :: s=>by
   have:=wide8_length s
   unfold wide8 at this ⊢
   rw [List.flatMap_cons,List.length_append,this,List.length_cons]
   simp
   omega
/-- Install's put, where all goes well -/
theorem put_ok {w0 w:World} {hh G hb wb:Nat} {K:Nat→Prop} {d d':Hd} (h:At w0 hh G K w d) (hT:UT w) (g:Int) (s:List UInt8) (v:Va) (hs:ascB s=true) (hl:s.length≤1000) (hv:v.wf) (hd:d.put g (wide8 s) v=(0,d')) (hKh:K hb) (hKw:K wb)
   (hbx:w.heap[hb]?=some (.cells #[.pointer (some ⟨hh,0,none⟩)] 27 (0,0))) (hwb:w.heap[wb]?=some (.cells #[.int .i64 0] 29 (0,0))) (hne:hb≠wb) (hw0:w0.heap.size≤wb) :
   Calls Tryz.prog 49 #[.int .i64 g,.string ⟨s.toArray⟩,v.v,.pointer (some ⟨hb,0,none⟩),.pointer (some ⟨wb,0,none⟩)] w fun e w'=>e=.returned (.tuple #[])∧At w0 hh G K w' d'∧Kept K w w':=by
 obtain ⟨k,n,t,r⟩:=v
 have PA:Pur w (w.alloc (.cells #[.int .i64 k,.float .f64 n,.string ⟨t.toArray⟩,.int .i64 r] 25)):=(Pur.refl w).alloc _
 have NB:=bk_new w (.cells #[.int .i64 k,.float .f64 n,.string ⟨t.toArray⟩,.int .i64 r] 25)
 have hKl:∀ b,K b→b < w.heap.size:=fun b hb=>by obtain ⟨s,-,-,-,-,h5⟩:=h.ex;exact (h5 b hb).1
 have WD:∀ z:PW (w.alloc (.cells #[.int .i64 k,.float .f64 n,.string ⟨t.toArray⟩,.int .i64 r] 25)),Calls Tryz.prog 51 #[.string ⟨s.toArray⟩] z.to fun e w'=>e=.returned (.string ⟨(wide8 s).toArray⟩)∧Pur z.to w':=fun z=>ewide_b s hs (by omega) (hT.pur (PA.trans z.pur))
 have hwl:(wide8 s).length≤1000000:=by rw [wide8_length];omega
 have PU:=fun w' (hp:Pur w w')=>put_st (h.pure hp).1 g (wide8 s) ⟨k,n,t,r⟩ hv hwl
 rw [hd] at PU
 simp only [Va.v,Va.cells] at PU ⊢
 have KP:=fun w' (hp:Pur w w')=>(h.pure hp).2
 have q0:∀ z:PW (w.alloc (.cells #[.int .i64 k,.float .f64 n,.string ⟨t.toArray⟩,.int .i64 r] 25)),z.to.cell? ⟨w.heap.size,0,none⟩=some (.int .i64 k):=fun z=>bk_cell (bk_pur NB z.pur) 0 _ rfl
 have q1:∀ z:PW (w.alloc (.cells #[.int .i64 k,.float .f64 n,.string ⟨t.toArray⟩,.int .i64 r] 25)),z.to.cell? ⟨w.heap.size,1,none⟩=some (.float .f64 n):=fun z=>bk_cell (bk_pur NB z.pur) 1 _ rfl
 have q2:∀ z:PW (w.alloc (.cells #[.int .i64 k,.float .f64 n,.string ⟨t.toArray⟩,.int .i64 r] 25)),z.to.cell? ⟨w.heap.size,2,none⟩=some (.string ⟨t.toArray⟩):=fun z=>bk_cell (bk_pur NB z.pur) 2 _ rfl
 have q3:∀ z:PW (w.alloc (.cells #[.int .i64 k,.float .f64 n,.string ⟨t.toArray⟩,.int .i64 r] 25)),z.to.cell? ⟨w.heap.size,3,none⟩=some (.int .i64 r):=fun z=>bk_cell (bk_pur NB z.pur) 3 _ rfl
 have qh:∀ z:PW (w.alloc (.cells #[.int .i64 k,.float .f64 n,.string ⟨t.toArray⟩,.int .i64 r] 25)),z.to.cell? ⟨hb,0,none⟩=some (.pointer (some ⟨hh,0,none⟩)):=fun z=>bk_cell (bk_pur hbx (PA.trans z.pur)) 0 _ rfl
 clear h NB hd hs hl
 generalize wide8 s=S at *
 go_enter Tryz.func49,Tryz.ntmps49
 go_wp2_with fail
 refine wp_region_pur_tail 5 (by kernel_rfl) (by kernel_rfl) ?_
 simp only [List.take_succ_cons,List.take_zero,List.drop_succ_cons,List.drop_zero]
 repeat (go_big_quiet_step (((go_at_call 51;with_reducible exact quiet_pur (WD _)))))
 refine wpQuiet_nil ?_
 intro w1 h1
 have PU1:=PU _ (PA.trans h1)
 have K1:=KP _ (PA.trans h1)
 clear WD q0 q1 q2 q3 qh PU KP
 go_wp2_with fail
 refine PU1.mono ?_
 rintro e w2 ⟨rfl,A2,K2⟩
 have K12:=K1.trans K2
 have b2:=(K12 _ hKw).trans hwb
 have r0:=bk_cell b2 0 _ rfl
 have f0:=bk_free b2 0
 have b3:=bk_set b2 0 (.int .i64 0)
 have C3:Chg [wb] w2 (w2.setCell ⟨wb,0,none⟩ (.int .i64 0)):=(Chg.refl [wb] w2).setCell (.inl (by simp)) _
 have hKl2:∀ b,K b→b < w2.heap.size:=fun b hb=>by obtain ⟨s,-,-,-,-,h5⟩:=A2.ex;exact (h5 b hb).1
 have A3:=at_other A2 (K':=K) C3 (by intro b hb;simp at hb;subst hb;exact hKw) (by intro b hb;simp at hb;omega) (fun b hb=>⟨.inl hb,Nat.lt_of_lt_of_le (hKl2 b hb) C3.size⟩)
 have K3:Kept K w (w2.setCell ⟨wb,0,none⟩ (.int .i64 0)):=fun b hb=>by
   by_cases e:b=wb
   · subst e;exact b3.trans hwb.symm
   · exact (C3.block b (hKl2 b hb) (by simpa using e)).trans (K12 b hb)
 have HF:=Lib.hid (And.intro A3 K3)
 clear PU1 A2 K1 K2 K12 A3 K3 C3 b3 b2
 go_wp2
 go_end0
 exact ⟨rfl,HF.out⟩
theorem linf_any (w:World):Calls Tryz.prog 54 #[.int .i64 1] w fun e w'=>e=.returned (.float .f64 9218868437227405312)∧w=w':=by
 have h7:=@run_callFunc_extern Tryz.prog 105 _ Go.Extern.MathFloatBits.float64frombits Tryz.func105 (by kernel_rfl) (by kernel_rfl) (by kernel_rfl) (by kernel_rfl)
 have ff:∀ (n:Int) (w:World),(Go.Extern.MathFloatBits.float64frombits #[.int .u64 n]).run Tryz.prog w=.ok (.float .f64 n.toNat) w:=fun n w=>rfl
 go_enter Tryz.func54,Tryz.ntmps54
 go_wp2
 go_ret
 exact ⟨rfl,rfl⟩
theorem lnan_any (w:World):Calls Tryz.prog 53 #[] w fun e w'=>e=.returned (.float .f64 9221120237041090561)∧w=w':=by
 have h7:=@run_callFunc_extern Tryz.prog 105 _ Go.Extern.MathFloatBits.float64frombits Tryz.func105 (by kernel_rfl) (by kernel_rfl) (by kernel_rfl) (by kernel_rfl)
 have ff:∀ (n:Int) (w:World),(Go.Extern.MathFloatBits.float64frombits #[.int .u64 n]).run Tryz.prog w=.ok (.float .f64 n.toNat) w:=fun n w=>rfl
 go_enter Tryz.func53,Tryz.ntmps53
 go_wp2
 go_ret
 exact ⟨rfl,rfl⟩
/-- what the global object gets, in plain words -/
abbrev Nd:=List UInt8 × Int
def gNames:List Nd:=[([78,117,109,98,101,114],1),([83,116,114,105,110,103],2),([66,111,111,108,101,97,110],3),([105,115,78,97,78],4),([112,97,114,115,101,73,110,116],5)]
def gSpaces:List (List UInt8 × List Nd):=[([77,97,116,104],[([97,98,115],10),([102,108,111,111,114],11),([99,101,105,108],12),([109,97,120],13),([109,105,110],14)]),
 ([74,83,79,78],[([112,97,114,115,101],20),([115,116,114,105,110,103,105,102,121],21)]),([79,98,106,101,99,116],[([107,101,121,115],30),([99,114,101,97,116,101],31)]),([65,114,114,97,121],[([105,115,65,114,114,97,121],40)])]
def bi (i:Int):Va:=⟨6,0,[],i⟩
def pt (g:Int) (d:Hd) (s:List UInt8) (v:Va):Hd:=(d.put g (wide8 s) v).2
def pts (g:Int) (d:Hd) (l:List Nd):Hd:=l.foldl (fun d x=>pt g d x.1 (bi x.2)) d
def dI0:Hd:=((Hd.new 100).plain (-1)).2
def dI1:Hd:=pt 0 dI0 [117,110,100,101,102,105,110,101,100] Va.zero
def dI2:Hd:=pt 0 dI1 [78,97,78] ⟨3,9221120237041090561,[],0⟩
def dI3:Hd:=pt 0 dI2 [73,110,102,105,110,105,116,121] ⟨3,9218868437227405312,[],0⟩
def dI4:Hd:=pts 0 dI3 gNames
/-- a space's object made, and put -/
def sp0 (d:Hd) (x:List UInt8 × List Nd):Hd:=pt 0 (d.plain (-1)).2 x.1 ⟨5,0,[],d.xs.length⟩
def sp1 (d:Hd) (x:List UInt8 × List Nd):Hd:=pts d.xs.length (sp0 d x) x.2
def dI5 (k:Nat):Hd:=(gSpaces.take k).foldl sp1 dI4
def dI:Hd:=dI5 4
def okPut (g:Int) (d:Hd) (s:List UInt8) (v:Va):Bool:=(d.put g (wide8 s) v).1 == 0
theorem okPut.eq {g:Int} {d:Hd} {s:List UInt8} {v:Va} (h:okPut g d s v=true):d.put g (wide8 s) v=(0,pt g d s v):=by
 unfold okPut at h
 unfold pt
 have:=eq_of_beq h
 rw [← this]
theorem ok0:(Hd.new 100).plain (-1)=((0,0),dI0):=by
 have:((Hd.new 100).plain (-1)).1=(0,0):=by decide +kernel
 unfold dI0
 rw [← this]
theorem ok1:okPut 0 dI0 [117,110,100,101,102,105,110,101,100] Va.zero=true:=by decide +kernel
theorem ok2:okPut 0 dI1 [78,97,78] ⟨3,9221120237041090561,[],0⟩=true:=by decide +kernel
theorem ok3:okPut 0 dI2 [73,110,102,105,110,105,116,121] ⟨3,9218868437227405312,[],0⟩=true:=by decide +kernel
/-- puts one behind the other all go well -/
def okPts (g:Int) (d:Hd) (l:List Nd):Bool:=(List.range l.length).all fun j=>match l[j]? with
 | some x=>okPut g (pts g d (l.take j)) x.1 (bi x.2)
 | none=>true
theorem okPts.at {g:Int} {d:Hd} {l:List Nd} (h:okPts g d l=true) {j:Nat} {x:Nd} (hx:l[j]?=some x):(pts g d (l.take j)).put g (wide8 x.1) (bi x.2)=(0,pts g d (l.take (j + 1))):=by
 have hj:j < l.length:=(List.getElem?_eq_some_iff.1 hx).1
 have h1:=List.all_eq_true.1 h j (List.mem_range.2 hj)
 rw [hx] at h1
 have h2:=okPut.eq h1
 rw [h2]
 have e:l.take (j + 1)=l.take j ++ [x]:=by rw [List.take_succ,hx];rfl
 rw [e]
 unfold pts
 rw [List.foldl_append]
 rfl
theorem ok4:okPts 0 dI3 gNames=true:=by decide +kernel
def okSp (k:Nat):Bool:=match gSpaces[k]? with
 | some x=>(((dI5 k).plain (-1)).1 == (((dI5 k).xs.length:Int),(0:Int))) && okPut 0 ((dI5 k).plain (-1)).2 x.1 ⟨5,0,[],(dI5 k).xs.length⟩ && okPts (dI5 k).xs.length (sp0 (dI5 k) x) x.2
 | none=>true
theorem okSp_all:∀ k,k < 4→okSp k=true:=by
 have h:((List.range 4).all okSp)=true:=by decide +kernel
 exact fun k hk=>List.all_eq_true.1 h k (List.mem_range.2 hk)
theorem spaces_at {k:Nat} {x:List UInt8 × List Nd} (hx:gSpaces[k]?=some x):(dI5 k).plain (-1)=((((dI5 k).xs.length:Int),0),((dI5 k).plain (-1)).2)∧((dI5 k).plain (-1)).2.put 0 (wide8 x.1) ⟨5,0,[],(dI5 k).xs.length⟩=(0,sp0 (dI5 k) x)∧okPts (dI5 k).xs.length (sp0 (dI5 k) x) x.2=true∧dI5 (k + 1)=pts (dI5 k).xs.length (sp0 (dI5 k) x) x.2:=by
 have hk:k < 4:=(List.getElem?_eq_some_iff.1 hx).1
 have h:=okSp_all k hk
 unfold okSp at h
 rw [hx] at h
 simp only [Bool.and_eq_true] at h
 obtain ⟨⟨h1,h2⟩,h3⟩:=h
 refine ⟨?_,okPut.eq h2,h3,?_⟩
 · have:=eq_of_beq h1
   rw [← this]
 · have e:gSpaces.take (k + 1)=gSpaces.take k ++ [x]:=by rw [List.take_succ,hx];rfl
   unfold dI5
   rw [e,List.foldl_append]
   rfl
end Li
namespace Li
def ndCells (x:Nd):List Value:=[.string ⟨x.1.toArray⟩,.int .i64 x.2]
def aMeths:List Nd:=[([112,117,115,104],50),([112,111,112],51),([115,108,105,99,101],52),([106,111,105,110],53),([105,110,100,101,120,79,102],54),([99,111,110,99,97,116],55),([114,101,118,101,114,115,101],56)]
/-- eslib's variables, as they are laid -/
structure LW (w:World):Prop where
 g:∀ (j:Nat) v,(gNames.flatMap ndCells)[j]?=some v→w.cell? ⟨0,j,none⟩=some v
 s:∀ (k:Nat) x,gSpaces[k]?=some x→∃ R o c,w.cell? ⟨1,2 * k,none⟩=some (.string ⟨x.1.toArray⟩)∧w.cell? ⟨1,2 * k + 1,none⟩=some (.slice (some ⟨R,o,none⟩) x.2.length c) ∧
   ∀ (j:Nat) (y:Nd),x.2[j]?=some y→w.cell? ⟨R,o + j * 2,none⟩=some (.string ⟨y.1.toArray⟩)∧w.cell? ⟨R,o + j * 2 + 1,none⟩=some (.int .i64 y.2)
 a:∀ (j:Nat) v,(aMeths.flatMap ndCells)[j]?=some v→w.cell? ⟨2,j,none⟩=some v
theorem cellp {w w':World} {a:Addr} {v:Value} (h:w.cell? a=some v) (hp:Pur w w'):w'.cell? a=some v :=
 (World.cell?_of_block (w:=w) (hp.block a.block (World.block_lt_of_cell? _ _ h))).trans h
theorem LW.pur {w w':World} (h:LW w) (hp:Pur w w'):LW w':=by
 refine ⟨fun j v hv=>cellp (h.g j v hv) hp,fun k x hx=>?_,fun j v hv=>cellp (h.a j v hv) hp⟩
 obtain ⟨R,o,c,h1,h2,h3⟩:=h.s k x hx
 exact ⟨R,o,c,cellp h1 hp,cellp h2 hp,fun j y hy=>⟨cellp (h3 j y hy).1 hp,cellp (h3 j y hy).2 hp⟩⟩
end Li
end Go.Proofs.YtgdolcoiihagfaaGreatDoor
