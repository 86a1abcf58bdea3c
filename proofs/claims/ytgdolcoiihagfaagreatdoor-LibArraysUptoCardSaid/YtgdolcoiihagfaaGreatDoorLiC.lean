/- Layer 10: nodes built into values: plain ones, arrays of plain ones. Layer 10: an object of one key, whose value is an array of plain ones, built. Layer 10: awake's JSON text read. Layer 10: Parse of awake's JSON text. -/
import Derived.Test.YtgdolcoiihagfaaGreatDoorLiB
import Derived.Test.YtgdolcoiihagfaaGreatDoorHaD
import Derived.Test.YtgdolcoiihagfaaGreatDoorApX
import Derived.Tactics
import Derived.Tactics2
import Derived.Defers
import Derived.Recover
namespace Go.Proofs.YtgdolcoiihagfaaGreatDoor
open Go Go.RowKit
set_option linter.all false
set_option maxRecDepth 100000
set_option maxHeartbeats 100000000
namespace Li
theorem check_ok (w:World):Calls Tryz.prog 71 #[.int .i64 0] w fun e w'=>e=.returned (.tuple #[])∧w=w':=by
 go_enter Tryz.func71,Tryz.ntmps71
 go_wp2
 go_end0
 exact ⟨rfl,rfl⟩
theorem build_leaf (v:Va) (hv:Value) (w:World):Calls Tryz.prog 43 #[.agg (leaf v),hv] w fun e w'=>e=.returned v.v∧Pur w w':=by
 obtain ⟨k,n,t,r⟩:=v
 unfold leaf
 simp only [Va.v,Va.cells]
 have P1:Pur w ((w.alloc (.cells #[.int .i64 k,.float .f64 n,.string ⟨t.toArray⟩,.int .i64 r,.bool false,.slice none 0 0,.slice none 0 0,.bool false] 83)).alloc (.cells #[.int .i64 0,.float .f64 0,.string ⟨#[]⟩,.int .i64 0] 25)):=((Pur.refl w).alloc _).alloc _
 go_enter Tryz.func43,Tryz.ntmps43
 go_wp2_with fail
 refine bodyPost_ret (v:=.agg #[.int .i64 k,.float .f64 n,.string ⟨t.toArray⟩,.int .i64 r]) (by simp [results,Tryz.results43,go_sem]) rfl ⟨rfl,?_⟩
 repeat (first | exact Pur.refl _ | with_reducible refine Pur.setCell ?_ (by omega) _ | with_reducible refine Pur.alloc ?_ _)
theorem cat_len (c:Nat→List Value) (n:Nat) (hc:∀ j,(c j).length=8):(cat c n).length=n * 8:=by
 induction n with
 | zero=>rfl
 | succ n ih=>rw [cat_succ,List.length_append,ih,hc];omega
theorem cat_at (c:Nat→List Value) (hc:∀ j,(c j).length=8):∀ (n j:Nat),j < n→∀ (k:Nat) u,(c j)[k]?=some u→(cat c n)[j * 8 + k]?=some u
 | 0,j,h,k,u,_=>by omega
 | n + 1,j,h,k,u,hu=>by
   have hk:k < 8:=by rw [← hc j];exact (List.getElem?_eq_some_iff.1 hu).1
   rw [cat_succ]
   by_cases hj:j < n
   · rw [List.getElem?_append_left (by rw [cat_len c n hc];omega)]
     exact cat_at c hc n j hj k u hu
   · obtain rfl:j=n:=by omega
     rw [List.getElem?_append_right (by rw [cat_len c j hc];omega),cat_len c j hc,Nat.add_sub_cancel_left]
     exact hu
theorem at_other {w0 w w':World} {hh G:Nat} {K K':Nat→Prop} {d:Hd} {S:List Nat} (h:At w0 hh G K w d) (hc:Chg S w w') (hS:∀ b∈S,K b) (low:∀ b∈S,w0.heap.size≤b)
   (hK:∀ b,K' b→(K b∨w.heap.size≤b)∧b < w'.heap.size):At w0 hh G K' w' d:=by
 obtain ⟨s,h1,h2,h3,h4,h5⟩:=h.ex
 refine ⟨⟨s,h1.kept hc fun b hb hm=>(h5 b (hS b hm)).2 hb,h2,h3,h4,fun b hb=>⟨(hK b hb).2,fun hm=>?_⟩⟩,h.ok,?_⟩
 · rcases (hK b hb).1 with e | e
   · exact (h5 b e).2 hm
   · have:=h1.lt b hm;omega
 · have hp:=h.pur
   exact ⟨hc.os.trans hp.os,hc.tape.trans hp.tape,hc.output.trans hp.output,Nat.le_trans hp.size hc.size,fun i hi=>(hc.block i (Nat.lt_of_lt_of_le hi hp.size) (fun hm=>by have:=low i hm;omega)).trans (hp.block i hi)⟩
def leaves (vs:List Va) (j:Nat):List Value:=(leaf (vs.getD j Va.zero)).toList
theorem leaves_len (vs:List Va) (j:Nat):(leaves vs j).length=8:=rfl
theorem build_arr {w0 w:World} {hh G B:Nat} {K:Nat→Prop} {d d':Hd} {i:Int} {ka:Option Addr} {kn kc:Nat} {pa:Option Addr} {pc:Nat} (h:At w0 hh G K w d) (vs:List Va) (hn:vs.length≤1000) (hwf:∀ x∈vs,x.wf) (hrow:w.ownsRow B 83 8 (.slice pa vs.length pc) vs.length (cat (leaves vs) vs.length)) (hd:d.array vs=((i,0),d')) :
   Calls Tryz.prog 43 #[.agg #[.int .i64 0,.float .f64 0,.string ⟨#[]⟩,.int .i64 0,.bool true,.slice ka kn kc,.slice pa vs.length pc,.bool true],.pointer (some ⟨hh,0,none⟩)] w fun e w'=>e=.returned (.agg #[.int .i64 5,.float .f64 0,.string ⟨#[]⟩,.int .i64 i])∧At w0 hh G K w' d'∧Kept K w w':=by
 obtain ⟨i0,hi,hz⟩:=Option.map_eq_some_iff.1 va_info
 simp only [Prod.mk.injEq] at hz
 obtain ⟨hz0,hz1,hz2⟩:=hz
 obtain ⟨z0,hz0,hzs⟩:=Option.map_eq_some_iff.1 hz0
 have P1:Pur w ((w.alloc (.cells #[.int .i64 0,.float .f64 0,.string ⟨#[]⟩,.int .i64 0,.bool true,.slice ka kn kc,.slice pa vs.length pc,.bool true] 83)).alloc (.cells #[.int .i64 0,.float .f64 0,.string ⟨#[]⟩,.int .i64 0] 25)):=((Pur.refl w).alloc _).alloc _
 have hs1:(w.alloc (.cells #[.int .i64 0,.float .f64 0,.string ⟨#[]⟩,.int .i64 0,.bool true,.slice ka kn kc,.slice pa vs.length pc,.bool true] 83)).heap.size=w.heap.size + 1:=Array.size_push _
 have BX:=bk_alloc (bk_new w (.cells #[.int .i64 0,.float .f64 0,.string ⟨#[]⟩,.int .i64 0,.bool true,.slice ka kn kc,.slice pa vs.length pc,.bool true] 83)) (.cells #[.int .i64 0,.float .f64 0,.string ⟨#[]⟩,.int .i64 0] 25)
 have RX:=bk_new (w.alloc (.cells #[.int .i64 0,.float .f64 0,.string ⟨#[]⟩,.int .i64 0,.bool true,.slice ka kn kc,.slice pa vs.length pc,.bool true] 83)) (.cells #[.int .i64 0,.float .f64 0,.string ⟨#[]⟩,.int .i64 0] 25)
 rw [hs1] at RX
 have hs2:((w.alloc (.cells #[.int .i64 0,.float .f64 0,.string ⟨#[]⟩,.int .i64 0,.bool true,.slice ka kn kc,.slice pa vs.length pc,.bool true] 83)).alloc (.cells #[.int .i64 0,.float .f64 0,.string ⟨#[]⟩,.int .i64 0] 25)).heap.size=w.heap.size + 2:=by rw [show w.heap.size + 2=w.heap.size + 1 + 1 from rfl,← hs1];exact Array.size_push _
 have hK1:=h.keep ((Pur.refl w).alloc (.cells #[.int .i64 0,.float .f64 0,.string ⟨#[]⟩,.int .i64 0,.bool true,.slice ka kn kc,.slice pa vs.length pc,.bool true] 83)) w.heap.size (Nat.le_refl _) (by rw [hs1];omega)
 have hK2:=hK1.keep ((Pur.refl (w.alloc (.cells #[.int .i64 0,.float .f64 0,.string ⟨#[]⟩,.int .i64 0,.bool true,.slice ka kn kc,.slice pa vs.length pc,.bool true] 83))).alloc (.cells #[.int .i64 0,.float .f64 0,.string ⟨#[]⟩,.int .i64 0] 25)) (w.heap.size + 1) (by rw [hs1];exact Nat.le_refl _) (by rw [hs2];omega)
 have hw0:=h.pur.size
 have hKl:∀ b,K b→b < w.heap.size:=fun b hb=>by obtain ⟨s,-,-,-,-,h5⟩:=h.ex;exact (h5 b hb).1
 have hs2H:=Lib.hid hs2
 clear hs2
 go_enter Tryz.func43,Tryz.ntmps43
 go_wp2_with fail
 generalize (w.alloc (.cells #[.int .i64 0,.float .f64 0,.string ⟨#[]⟩,.int .i64 0,.bool true,.slice ka kn kc,.slice pa vs.length pc,.bool true] 83)).alloc (.cells #[.int .i64 0,.float .f64 0,.string ⟨#[]⟩,.int .i64 0] 25)=w1 at *
 go_loopw [5,22] (fun lv jv wr=>∃ j:Nat,j≤vs.length∧jv=.int .i64 j∧Pur w1 wr∧wr.ownsRow w1.heap.size 25 4 lv j ((vs.take j).flatMap Va.cells)) (fun _ jv _=>vs.length + 1 - (intOf jv).toNat)
 case atStart=>exact ⟨0,by omega,rfl,Pur.refl _,by rw [List.take_zero];exact World.ownsRow_nil _ _ _ _⟩
 case round =>
   obtain ⟨j,hj,rfl,hpr,hr⟩:=hrel
   obtain ⟨la,lc,hlv⟩:=row_shape hr
   subst hlv
   by_cases hlt:j < vs.length
   · have d1:decide ((j:Int) < vs.length)=true:=decide_eq_true (by omega)
     have j0:(0:Int)≤j:=by omega
     have j1:(j:Int) < vs.length:=by omega
     have wr1:IntKind.i64.wrap ((j:Int) + 1)=j + 1:=IntWalk.i64_in _ (by omega)
     obtain ⟨x,hx⟩:∃ x,vs[j]?=some x:=⟨_,List.getElem?_eq_getElem hlt⟩
     have hrw:=row_pur hrow (P1.trans hpr)
     obtain ⟨g,hpa⟩:∃ g,pa=some ⟨g,0,none⟩:=by
       rcases hrw.2 with ⟨_,h0⟩ | ⟨g,cap,cur,e,_⟩
       · omega
       · simp only [Value.slice.injEq] at e
         exact ⟨g,e.1⟩
     subst hpa
     have kk:∀ (k:Nat) u,(leaf x).toList[k]?=some u→wr.cell? ⟨g,j * 8 + k,none⟩=some u:=fun k u hu=>by
       have h1:=cat_at (leaves vs) (leaves_len vs) vs.length j hlt k u (by unfold leaves;rw [List.getD_eq_getElem?_getD,hx];exact hu)
       have h2:=hrw.cells (g:=g) rfl (j * 8 + k) u h1
       rw [← h2]
       unfold Addr.add
       split <;> simp_all
     have y0:=kk 0 _ rfl
     have y1:=kk 1 _ rfl
     have y2:=kk 2 _ rfl
     have y3:=kk 3 _ rfl
     have y4:=kk 4 _ rfl
     have y5:=kk 5 _ rfl
     have y6:=kk 6 _ rfl
     have y7:=kk 7 _ rfl
     rw [Nat.add_zero] at y0
     have BLF:=fun w'=>build_leaf x (.pointer (some ⟨hh,0,none⟩)) w'
     have HT:=Lib.hid (show (vs.take (j + 1)).flatMap Va.cells=(vs.take j).flatMap Va.cells ++ x.cells by rw [List.take_add_one,hx,List.flatMap_append];simp)
     unfold leaf at BLF
     obtain ⟨xk,xn,xt,xr⟩:=x
     simp only [Va.v,Va.cells] at BLF HT
     clear kk hrw hx
     go_wp2_with fail
     refine (BLF _).mono ?_
     rintro e w3 ⟨rfl,p3⟩
     have hp3:Pur wr w3:=((Pur.refl wr).alloc _).trans p3
     have hr3:=row_pur hr hp3
     have PX:Pur w1 (w3.alloc (.cells #[.int .i64 xk,.float .f64 xn,.string ⟨xt.toArray⟩,.int .i64 xr] 25)):=(hpr.trans hp3).alloc _
     have HRow:=Lib.hid (hr3.alloc (.cells #[.int .i64 xk,.float .f64 xn,.string ⟨xt.toArray⟩,.int .i64 xr] 25))
     have NBX:=bk_new w3 (.cells #[.int .i64 xk,.float .f64 xn,.string ⟨xt.toArray⟩,.int .i64 xr] 25)
     have HFe:Hid (Feeds (w3.alloc (.cells #[.int .i64 xk,.float .f64 xn,.string ⟨xt.toArray⟩,.int .i64 xr] 25)) 4 (some ⟨w3.heap.size,0,none⟩) 1 [.int .i64 xk,.float .f64 xn,.string ⟨xt.toArray⟩,.int .i64 xr]):=Lib.hid ⟨rfl,fun _=>⟨_,rfl,World.news_of_block (cs:=#[.int .i64 xk,.float .f64 xn,.string ⟨xt.toArray⟩,.int .i64 xr]) (t:=25) (fr:=(0,0)) NBX⟩⟩
     have HLT:=Lib.hid hr3.lt
     clear BLF hr3 NBX y0 y1 y2 y3 y4 y5 y6 y7 h hr hK1 hK2
     go_wp2_with (at_builtin;refine wpList_append_feeds rfl _ _ 22 rfl w1.heap.size 25 i0 z0 4 40 Tryz.underlying22 hi hz0 hz1 hz2 hzs (by decide) _ _ _ rfl HRow.out _ _ _ [.int .i64 xk,.float .f64 xn,.string ⟨xt.toArray⟩,.int .i64 xr] rfl HFe.out (by simp [Value.oneCell']) ?c3 ?c4 PX.size ?_)
     case c3=>unfold maxLen;omega
     case c4=>omega
     intro v5 w5 hown5 hgrow
     have hp5:Pur w1 w5:=Below.grown PX hgrow PX.size (fun k hk=>(HLT.out k hk).1)
     have HO:=Lib.hid (show w5.ownsRow w1.heap.size 25 4 v5 (j + 1) ((vs.take (j + 1)).flatMap Va.cells) by rw [HT.out];exact hown5)
     clear hgrow hown5 HRow HFe PX HLT hp3 p3
     go_wp2
     go_roundw
     case rel=>exact ⟨j + 1,by omega,by go_num,hp5,HO.out⟩
     case measure=>first | (simp [intOf];done) | (simp [intOf];omega)
   · obtain rfl:j=vs.length:=by omega
     have d1:decide ((vs.length:Int) < vs.length)=false:=decide_eq_false (by omega)
     rw [List.take_length] at hr
     have hpw:=P1.trans hpr
     have AR:=array_st (hK2.pure hpr).1 (.slice la vs.length lc) vs (VRead.of_own hr) hwf (by omega)
     rw [hd] at AR
     have KP:Kept K w wr:=(h.pure hpw).2
     have q4:=bk_cell (bk_pur BX hpr) 4 _ rfl
     have RXr:=bk_pur RX hpr
     have HH:=Lib.hid (And.intro KP RXr)
     clear KP RXr BX RX hK1 hK2 h hrow hr P1 hd hwf hi hz0 hz1 hz2 hzs
     go_wp2_with fail
     refine AR.mono ?_
     rintro e w5 ⟨rfl,A5,K5⟩
     have CK:=check_ok w5
     have OB:=fun w=>eobject_any i w
     clear AR q4
     go_wp2_with fail
     refine CK.mono ?_
     rintro e w6 ⟨rfl,rfl⟩
     clear CK
     go_wp2_with fail
     refine (OB _).mono ?_
     rintro e w7 ⟨rfl,p7⟩
     obtain ⟨A7,K7⟩:=A5.pure p7
     have R7:w7.heap[w.heap.size + 1]?=some (.cells Va.zero.cells.toArray 25 (0,0)):=(K7 _ (.inr rfl)).trans ((K5 _ (.inr rfl)).trans HH.out.2)
     obtain ⟨⟨s0,s1⟩,⟨s2,s3⟩,⟨s4,s5⟩,⟨s6,s7⟩⟩:=st4_steps (y:=Va.zero) (x:=⟨5,0,[],i⟩) R7
     have R8:=st4_at (y:=Va.zero) (x:=⟨5,0,[],i⟩) R7
     have C8:Chg [w.heap.size + 1] w7 (st4 w7 (w.heap.size + 1) ⟨5,0,[],i⟩):=((((Chg.refl [w.heap.size + 1] w7).setCell (a:=⟨w.heap.size + 1,0,none⟩) (.inl (by simp)) _).setCell (a:=⟨w.heap.size + 1,1,none⟩) (.inl (by simp)) _).setCell (a:=⟨w.heap.size + 1,2,none⟩) (.inl (by simp)) _).setCell (a:=⟨w.heap.size + 1,3,none⟩) (.inl (by simp)) _
     have A8:=at_other A7 (K':=K) C8 (by intro b hb;simp at hb;subst hb;exact .inr rfl) (by intro b hb;simp at hb;omega) (fun b hb=>⟨.inl (.inl (.inl hb)),by
       have h1:=hKl b hb
       have h2:=C8.size
       have h3:=bk_lt R7
       omega⟩)
     have KF:Kept K w (st4 w7 (w.heap.size + 1) ⟨5,0,[],i⟩):=fun b hb=>by
       have h1:=hKl b hb
       have h3:=bk_lt R7
       exact (C8.block b (by omega) (by simp;omega)).trans ((K7 b (.inl (.inl hb))).trans ((K5 b (.inl (.inl hb))).trans (HH.out.1 b hb)))
     have HF:=Lib.hid (And.intro R8 (And.intro A8 KF))
     simp only [st4,Va.zero] at s0 s1 s2 s3 s4 s5 s6 s7
     clear R8 A8 KF C8 A7 K7 A5 K5 R7 OB p7 HH
     unfold st4 at HF
     simp only at HF
     go_wp2
     refine bodyPost_ret (results_cell_row rfl _ _ (w.heap.size + 1) 25 _ (0,0) _ rfl HF.out.1 Tryz.underlying25 rfl (by kernel_rfl)) rfl ⟨rfl,HF.out.2⟩
end Li
namespace Li
theorem build_obj {w0 w:World} {hh G B g5 cap5 g9 cap9:Nat} {K:Nat→Prop} {d d1 d2 d3:Hd} {i o:Int} {ka:Option Addr} {kn kc:Nat} {pa:Option Addr} {pc:Nat} {tk:List UInt8} (h:At w0 hh G K w d) (vs:List Va) (hn:vs.length≤1000) (hwf:∀ x∈vs,x.wf)
   (hkeys:w.ownsRow B 9 1 (.slice (some ⟨g5,0,none⟩) 1 cap5) 1 [.string ⟨tk.toArray⟩]) (hK5:K g5) (hparts:w.ownsRow B 83 8 (.slice (some ⟨g9,0,none⟩) 1 cap9) 1 [.int .i64 0,.float .f64 0,.string ⟨#[]⟩,.int .i64 0,.bool true,.slice ka kn kc,.slice pa vs.length pc,.bool true])
   (hrow:w.ownsRow B 83 8 (.slice pa vs.length pc) vs.length (cat (leaves vs) vs.length)) (htk:tk.length≤1000000) (hi32:0≤i) (hd1:d.array vs=((i,0),d1)) (hd2:d1.plain (-1)=((o,0),d2)) (hd3:d2.put o tk ⟨5,0,[],i⟩=(0,d3)) :
   Calls Tryz.prog 43 #[.agg #[.int .i64 0,.float .f64 0,.string ⟨#[]⟩,.int .i64 0,.bool false,.slice (some ⟨g5,0,none⟩) 1 cap5,.slice (some ⟨g9,0,none⟩) 1 cap9,.bool true],.pointer (some ⟨hh,0,none⟩)] w fun e w'=>e=.returned (.agg #[.int .i64 5,.float .f64 0,.string ⟨#[]⟩,.int .i64 o])∧At w0 hh G K w' d3∧Kept K w w':=by
 obtain ⟨i0,hi,hz⟩:=Option.map_eq_some_iff.1 va_info
 simp only [Prod.mk.injEq] at hz
 obtain ⟨hz0,hz1,hz2⟩:=hz
 obtain ⟨z0,hz0,hzs⟩:=Option.map_eq_some_iff.1 hz0
 have P1:Pur w ((w.alloc (.cells #[.int .i64 0,.float .f64 0,.string ⟨#[]⟩,.int .i64 0,.bool false,.slice (some ⟨g5,0,none⟩) 1 cap5,.slice (some ⟨g9,0,none⟩) 1 cap9,.bool true] 83)).alloc (.cells #[.int .i64 0,.float .f64 0,.string ⟨#[]⟩,.int .i64 0] 25)):=((Pur.refl w).alloc _).alloc _
 have hs1:(w.alloc (.cells #[.int .i64 0,.float .f64 0,.string ⟨#[]⟩,.int .i64 0,.bool false,.slice (some ⟨g5,0,none⟩) 1 cap5,.slice (some ⟨g9,0,none⟩) 1 cap9,.bool true] 83)).heap.size=w.heap.size + 1:=Array.size_push _
 have BX:=bk_alloc (bk_new w (.cells #[.int .i64 0,.float .f64 0,.string ⟨#[]⟩,.int .i64 0,.bool false,.slice (some ⟨g5,0,none⟩) 1 cap5,.slice (some ⟨g9,0,none⟩) 1 cap9,.bool true] 83)) (.cells #[.int .i64 0,.float .f64 0,.string ⟨#[]⟩,.int .i64 0] 25)
 have RX:=bk_new (w.alloc (.cells #[.int .i64 0,.float .f64 0,.string ⟨#[]⟩,.int .i64 0,.bool false,.slice (some ⟨g5,0,none⟩) 1 cap5,.slice (some ⟨g9,0,none⟩) 1 cap9,.bool true] 83)) (.cells #[.int .i64 0,.float .f64 0,.string ⟨#[]⟩,.int .i64 0] 25)
 rw [hs1] at RX
 have hs2:((w.alloc (.cells #[.int .i64 0,.float .f64 0,.string ⟨#[]⟩,.int .i64 0,.bool false,.slice (some ⟨g5,0,none⟩) 1 cap5,.slice (some ⟨g9,0,none⟩) 1 cap9,.bool true] 83)).alloc (.cells #[.int .i64 0,.float .f64 0,.string ⟨#[]⟩,.int .i64 0] 25)).heap.size=w.heap.size + 2:=by rw [show w.heap.size + 2=w.heap.size + 1 + 1 from rfl,← hs1];exact Array.size_push _
 have hK1:=h.keep ((Pur.refl w).alloc (.cells #[.int .i64 0,.float .f64 0,.string ⟨#[]⟩,.int .i64 0,.bool false,.slice (some ⟨g5,0,none⟩) 1 cap5,.slice (some ⟨g9,0,none⟩) 1 cap9,.bool true] 83)) w.heap.size (Nat.le_refl _) (by rw [hs1];omega)
 have hK2:=hK1.keep ((Pur.refl (w.alloc (.cells #[.int .i64 0,.float .f64 0,.string ⟨#[]⟩,.int .i64 0,.bool false,.slice (some ⟨g5,0,none⟩) 1 cap5,.slice (some ⟨g9,0,none⟩) 1 cap9,.bool true] 83))).alloc (.cells #[.int .i64 0,.float .f64 0,.string ⟨#[]⟩,.int .i64 0] 25)) (w.heap.size + 1) (by rw [hs1];exact Nat.le_refl _) (by rw [hs2];omega)
 have hw0:=h.pur.size
 have hKl:∀ b,K b→b < w.heap.size:=fun b hb=>by obtain ⟨s,-,-,-,-,h5⟩:=h.ex;exact (h5 b hb).1
 have hs2H:=Lib.hid hs2
 have KP1:Kept K w ((w.alloc (.cells #[.int .i64 0,.float .f64 0,.string ⟨#[]⟩,.int .i64 0,.bool false,.slice (some ⟨g5,0,none⟩) 1 cap5,.slice (some ⟨g9,0,none⟩) 1 cap9,.bool true] 83)).alloc (.cells #[.int .i64 0,.float .f64 0,.string ⟨#[]⟩,.int .i64 0] 25)):=(h.pure P1).2
 have k5c:∀ w':World,w'.heap[g5]?=w.heap[g5]?→w'.cell? ⟨g5,0,none⟩=some (Value.string ⟨tk.toArray⟩):=fun w' e=>by
   have h1:=(row_same hkeys (w':=w') (fun g hg=>by simp [Value.ownBlock] at hg;subst hg;exact e)).cells (g:=g5) rfl 0 _ rfl
   exact h1
 clear hs2 hs1 hK1
 have hp1:=row_pur hparts P1
 have hr1:=row_pur hrow P1
 have pcell:∀ (k:Nat) u,([.int .i64 0,.float .f64 0,.string ⟨#[]⟩,.int .i64 0,.bool true,.slice ka kn kc,.slice pa vs.length pc,.bool true]:List Value)[k]?=some u→((w.alloc (.cells #[.int .i64 0,.float .f64 0,.string ⟨#[]⟩,.int .i64 0,.bool false,.slice (some ⟨g5,0,none⟩) 1 cap5,.slice (some ⟨g9,0,none⟩) 1 cap9,.bool true] 83)).alloc (.cells #[.int .i64 0,.float .f64 0,.string ⟨#[]⟩,.int .i64 0] 25)).cell? ⟨g9,k,none⟩=some u:=fun k u hu=>by
   have h1:=hp1.cells (g:=g9) rfl k u hu
   rw [← h1]
   unfold Addr.add
   split <;> simp_all
 have y0:=pcell 0 _ rfl
 have y1:=pcell 1 _ rfl
 have y2:=pcell 2 _ rfl
 have y3:=pcell 3 _ rfl
 have y4:=pcell 4 _ rfl
 have y5:=pcell 5 _ rfl
 have y6:=pcell 6 _ rfl
 have y7:=pcell 7 _ rfl
 clear hparts hrow hkeys h pcell hp1
 go_enter Tryz.func43,Tryz.ntmps43
 go_wp2_with fail
 generalize (w.alloc (.cells #[.int .i64 0,.float .f64 0,.string ⟨#[]⟩,.int .i64 0,.bool false,.slice (some ⟨g5,0,none⟩) 1 cap5,.slice (some ⟨g9,0,none⟩) 1 cap9,.bool true] 83)).alloc (.cells #[.int .i64 0,.float .f64 0,.string ⟨#[]⟩,.int .i64 0] 25)=w1 at *
 go_loopw [5,22] (fun lv jv wr=>(lv=.slice none 0 0∧jv=.int .i64 0∧wr=w1)∨(jv=.int .i64 1∧∃ gl cl,lv=.slice (some ⟨gl,0,none⟩) 1 cl∧At w0 hh G (fun b=>((K b∨b=w.heap.size)∨b=w.heap.size + 1)∨b=gl) wr d1∧Kept (fun b=>(K b∨b=w.heap.size)∨b=w.heap.size + 1) w1 wr∧wr.ownsRow 0 25 4 (.slice (some ⟨gl,0,none⟩) 1 cl) 1 [.int .i64 5,.float .f64 0,.string ⟨#[]⟩,.int .i64 i])) (fun _ jv _=>2 - (intOf jv).toNat)
 case atStart=>exact .inl ⟨rfl,rfl,rfl⟩
 case round =>
   rcases hrel with ⟨rfl,rfl,rfl⟩ | ⟨rfl,gl,cl,rfl,A3,K3,R3⟩
   · have PN:Pur wr (wr.alloc (.cells #[.int .i64 0,.float .f64 0,.string ⟨#[]⟩,.int .i64 0,.bool true,.slice ka kn kc,.slice pa vs.length pc,.bool true] 83)):=(Pur.refl wr).alloc _
     have BA:=build_arr (w:=wr.alloc (.cells #[.int .i64 0,.float .f64 0,.string ⟨#[]⟩,.int .i64 0,.bool true,.slice ka kn kc,.slice pa vs.length pc,.bool true] 83)) (ka:=ka) (kn:=kn) (kc:=kc) (hK2.pure PN).1 vs hn hwf (row_pur hr1 PN) hd1
     have KN:=(hK2.pure PN).2
     go_wp2_with fail
     refine BA.mono ?_
     rintro e w3 ⟨rfl,A3,K3⟩
     have NBX:=bk_new w3 (.cells #[.int .i64 5,.float .f64 0,.string ⟨#[]⟩,.int .i64 i] 25)
     have hsx:(w3.alloc (.cells #[.int .i64 5,.float .f64 0,.string ⟨#[]⟩,.int .i64 i] 25)).heap.size=w3.heap.size + 1:=Array.size_push _
     have PX:Pur w3 (w3.alloc (.cells #[.int .i64 5,.float .f64 0,.string ⟨#[]⟩,.int .i64 i] 25)):=(Pur.refl w3).alloc _
     clear BA y0 y1 y2 y3 y4 y5 y6 y7 hr1 hK2 PN
     go_wp2_with (at_builtin;refine wpList_append_lies _ rfl _ _ 22 rfl 0 25 i0 z0 4 40 Tryz.underlying22 hi hz0 hz1 hz2 hzs (by decide) (.slice none 0 0) 0 [] rfl (World.ownsRow_nil _ _ _ _) ⟨w3.heap.size,0,none⟩ 1 1 [.int .i64 5,.float .f64 0,.string ⟨#[]⟩,.int .i64 i] rfl rfl (World.news_of_block (cs:=#[.int .i64 5,.float .f64 0,.string ⟨#[]⟩,.int .i64 i]) (t:=25) (fr:=(0,0)) NBX) (by simp [Value.oneCell']) (by omega) (by decide) (by decide) (Nat.zero_le _) (w3.heap.size + 1) hsx ?_)
     intro gl cl w4 hown4 hgrow hat hlt4
     have hgl:w3.heap.size≤gl:=by
       rcases hat with e | e
       · cases e
       · omega
     have P4:Pur w3 w4:=PX.trans ⟨hgrow.os,hgrow.tape,hgrow.output,hgrow.size,fun b hb=>hgrow.block b hb (fun e=>by cases e)⟩
     have A4:=A3.keep P4 gl hgl hlt4
     have K4:=(KN.trans K3).trans (A3.pure P4).2
     have HF:=Lib.hid (And.intro A4 (And.intro K4 hown4))
     clear A3 K3 KN NBX hsx PX hown4 hgrow hat A4 K4 P4 hgl
     go_wp2
     go_roundw
     case rel=>exact .inr ⟨rfl,gl,cl,by simp,HF.out.1,HF.out.2.1,by have:=HF.out.2.2;simpa using this⟩
     case measure=>simp [intOf]
   · have BX3:=(K3 _ (.inl (.inr rfl))).trans BX
     have RX3:=(K3 _ (.inr rfl)).trans RX
     have q4:=bk_cell BX3 4 _ rfl
     have PL:=plain_st A3 (-1)
     rw [hd2] at PL
     clear hK2 hr1 y0 y1 y2 y3 y4 y5 y6 y7
     go_wp2_with fail
     refine PL.mono ?_
     rintro e w4 ⟨rfl,A4,K4⟩
     have CK:=check_ok w4
     clear PL q4
     go_wp2_with fail
     refine CK.mono ?_
     rintro e w5 ⟨rfl,rfl⟩
     clear CK
     have R4:=row_same R3 (w':=w4) (fun g hg=>by simp [Value.ownBlock] at hg;subst hg;exact K4 _ (.inr rfl))
     have BX4:=(K4 _ (.inl (.inl (.inr rfl)))).trans BX3
     have RX4:=(K4 _ (.inl (.inr rfl))).trans RX3
     have hg5:w4.heap[g5]?=w.heap[g5]?:=(K4 _ (.inl (.inl (.inl hK5)))).trans ((K3 _ (.inl (.inl hK5))).trans (KP1 _ hK5))
     have vcell:∀ (k:Nat) u,([.int .i64 5,.float .f64 0,.string ⟨#[]⟩,.int .i64 i]:List Value)[k]?=some u→w4.cell? ⟨gl,k,none⟩=some u:=fun k u hu=>by
       have h1:=R4.cells (g:=gl) rfl k u hu
       rw [← h1]
       unfold Addr.add
       split <;> simp_all
     have KW:Kept K w w4:=fun b hb=>(K4 _ (.inl (.inl (.inl hb)))).trans ((K3 _ (.inl (.inl hb))).trans (KP1 _ hb))
     have v0:=vcell 0 _ rfl
     have v1:=vcell 1 _ rfl
     have v2:=vcell 2 _ rfl
     have v3:=vcell 3 _ rfl
     clear vcell R4 R3 BX3 RX3 K3 K4 A3 BX RX KP1
     go_wp2_with fail
     go_loopw [54] (fun kv wr=>(kv=.int .i64 0∧wr=w4)∨(kv=.int .i64 1∧At w0 hh G (fun b=>((K b∨b=w.heap.size)∨b=w.heap.size + 1)∨b=gl) wr d3∧Kept (fun b=>((K b∨b=w.heap.size)∨b=w.heap.size + 1)∨b=gl) w4 wr)) (fun kv _=>2 - (intOf kv).toNat)
     case atStart=>exact .inl ⟨rfl,rfl⟩
     case round =>
       rcases hrel with ⟨rfl,rfl⟩ | ⟨rfl,A6,K6⟩
       · have PV:Pur wr (wr.alloc (.cells #[.int .i64 5,.float .f64 0,.string ⟨#[]⟩,.int .i64 i] 25)):=(Pur.refl wr).alloc _
         have VB:=bk_new wr (.cells #[.int .i64 5,.float .f64 0,.string ⟨#[]⟩,.int .i64 i] 25)
         have PU:=fun w6 (hp:Pur (wr.alloc (.cells #[.int .i64 5,.float .f64 0,.string ⟨#[]⟩,.int .i64 i] 25)) w6)=>put_st (A4.pure (PV.trans hp)).1 o tk ⟨5,0,[],i⟩ ⟨show (0:Nat) < 18446744073709551616 by decide,by simp⟩ htk
         rw [hd3] at PU
         simp only [Va.v,Va.cells] at PU
         have BV:=bk_pur BX4 PV
         have K5v:∀ w',Pur (wr.alloc (.cells #[.int .i64 5,.float .f64 0,.string ⟨#[]⟩,.int .i64 i] 25)) w'→w'.cell? ⟨g5,0,none⟩=some (.string ⟨tk.toArray⟩):=fun w' hp=>k5c w' (((PV.trans hp).block g5 (by have:=hKl _ hK5;have:=bk_lt BX4;omega)).trans hg5)
         have Z5:∀ z:PW (wr.alloc (.cells #[.int .i64 5,.float .f64 0,.string ⟨#[]⟩,.int .i64 i] 25)),z.to.cell? ⟨w.heap.size,5,none⟩=some (.slice (some ⟨g5,0,none⟩) 1 cap5):=fun z=>bk_cell (bk_pur BV z.pur) 5 _ rfl
         have Zk:∀ z:PW (wr.alloc (.cells #[.int .i64 5,.float .f64 0,.string ⟨#[]⟩,.int .i64 i] 25)),z.to.cell? ⟨g5,0,none⟩=some (.string ⟨tk.toArray⟩):=fun z=>K5v z.to z.pur
         have Z0:∀ z:PW (wr.alloc (.cells #[.int .i64 5,.float .f64 0,.string ⟨#[]⟩,.int .i64 i] 25)),z.to.cell? ⟨wr.heap.size,0,none⟩=some (.int .i64 5):=fun z=>bk_cell (bk_pur VB z.pur) 0 _ rfl
         have Z1:∀ z:PW (wr.alloc (.cells #[.int .i64 5,.float .f64 0,.string ⟨#[]⟩,.int .i64 i] 25)),z.to.cell? ⟨wr.heap.size,1,none⟩=some (.float .f64 0):=fun z=>bk_cell (bk_pur VB z.pur) 1 _ rfl
         have Z2:∀ z:PW (wr.alloc (.cells #[.int .i64 5,.float .f64 0,.string ⟨#[]⟩,.int .i64 i] 25)),z.to.cell? ⟨wr.heap.size,2,none⟩=some (.string ⟨#[]⟩):=fun z=>bk_cell (bk_pur VB z.pur) 2 _ rfl
         have Z3:∀ z:PW (wr.alloc (.cells #[.int .i64 5,.float .f64 0,.string ⟨#[]⟩,.int .i64 i] 25)),z.to.cell? ⟨wr.heap.size,3,none⟩=some (.int .i64 i):=fun z=>bk_cell (bk_pur VB z.pur) 3 _ rfl
         have KV:∀ w6,Pur (wr.alloc (.cells #[.int .i64 5,.float .f64 0,.string ⟨#[]⟩,.int .i64 i] 25)) w6→Kept (fun b=>((K b∨b=w.heap.size)∨b=w.heap.size + 1)∨b=gl) wr w6:=fun w6 hp=>(A4.pure (PV.trans hp)).2
         clear k5c K5v VB BV PV A4 BX4 RX4
         go_wp2_with fail
         refine wp_region_pur_tail 8 (by kernel_rfl) (by kernel_rfl) ?_
         simp only [List.take_succ_cons,List.take_zero,List.drop_succ_cons,List.drop_zero]
         repeat (go_big_quiet_step (fail))
         refine wpQuiet_nil ?_
         intro w6 h6
         have PU6:=PU _ h6
         have KV6:=KV _ h6
         clear PU KV Z5 Zk Z0 Z1 Z2 Z3
         go_wp2_with fail
         refine PU6.mono ?_
         rintro e w7 ⟨rfl,A7,K7⟩
         have CK:=check_ok w7
         clear PU6
         go_wp2_with fail
         refine CK.mono ?_
         rintro e w8 ⟨rfl,rfl⟩
         clear CK
         have HF:=Lib.hid (And.intro A7 (KV6.trans K7))
         clear A7 K7 KV6
         go_wp2
         go_roundw
         case rel=>exact .inr ⟨rfl,HF.out⟩
         case measure=>simp [intOf]
       · have RX6:=(K6 _ (.inl (.inr rfl))).trans RX4
         have OB:=fun w=>eobject_any o w
         clear k5c BX4 v0 v1 v2 v3
         go_wp2_with fail
         refine (OB _).mono ?_
         rintro e w7 ⟨rfl,p7⟩
         obtain ⟨A7,K7⟩:=A6.pure p7
         have R7:w7.heap[w.heap.size + 1]?=some (.cells Va.zero.cells.toArray 25 (0,0)):=(K7 _ (.inl (.inr rfl))).trans RX6
         obtain ⟨⟨s0,s1⟩,⟨s2,s3⟩,⟨s4,s5⟩,⟨s6,s7⟩⟩:=st4_steps (y:=Va.zero) (x:=⟨5,0,[],o⟩) R7
         have R8:=st4_at (y:=Va.zero) (x:=⟨5,0,[],o⟩) R7
         have C8:Chg [w.heap.size + 1] w7 (st4 w7 (w.heap.size + 1) ⟨5,0,[],o⟩):=((((Chg.refl [w.heap.size + 1] w7).setCell (a:=⟨w.heap.size + 1,0,none⟩) (.inl (by simp)) _).setCell (a:=⟨w.heap.size + 1,1,none⟩) (.inl (by simp)) _).setCell (a:=⟨w.heap.size + 1,2,none⟩) (.inl (by simp)) _).setCell (a:=⟨w.heap.size + 1,3,none⟩) (.inl (by simp)) _
         have A8:=at_other A7 (K':=K) C8 (by intro b hb;simp at hb;subst hb;exact .inl (.inr rfl)) (by intro b hb;simp at hb;omega) (fun b hb=>⟨.inl (.inl (.inl (.inl hb))),by
           have h1:=hKl b hb
           have h2:=C8.size
           have h3:=bk_lt R7
           omega⟩)
         have KF:Kept K w (st4 w7 (w.heap.size + 1) ⟨5,0,[],o⟩):=fun b hb=>by
           have h1:=hKl b hb
           have h3:=bk_lt R7
           exact (C8.block b (by omega) (by simp;omega)).trans ((K7 b (.inl (.inl (.inl hb)))).trans ((K6 b (.inl (.inl (.inl hb)))).trans (KW b hb)))
         have HF:=Lib.hid (And.intro R8 (And.intro A8 KF))
         simp only [st4,Va.zero] at s0 s1 s2 s3 s4 s5 s6 s7
         clear R8 A8 KF C8 A7 K7 A6 K6 R7 OB p7 RX6 RX4
         unfold st4 at HF
         simp only at HF
         go_wp2
         refine bodyPost_ret (results_cell_row rfl _ _ (w.heap.size + 1) 25 _ (0,0) _ rfl HF.out.1 Tryz.underlying25 rfl (by kernel_rfl)) rfl ⟨rfl,HF.out.2⟩
end Li
namespace Li
def jb:List UInt8:=[123,34,97,34,58,91,49,44,110,117,108,108,44,34,120,34,93,125]
def jt:List UInt8:=[0,123,0,34,0,97,0,34,0,58,0,91,0,49,0,44,0,110,0,117,0,108,0,108,0,44,0,34,0,120,0,34,0,93,0,125]
def jvs (x:Nat):List Va:=[⟨3,x,[],0⟩,⟨1,0,[],0⟩,⟨4,0,[0,120],0⟩]
def js:Nat→Nat
 | 0=>6
 | 1=>8
 | _=>13 - 1 + 1
def jts:Nat→Nat
 | 0=>6 + 1
 | 1=>8 + 4
 | _=>13 + 1 + 2
def JQ (x:Nat) (B:Nat) (w:World) (cs:List Value):Prop:=∃ pa pc,cs=[.slice none 0 0,.slice pa 3 pc]∧w.ownsRow B 83 8 (.slice pa 3 pc) 3 (cat (leaves (jvs x)) 3)
theorem own_lt {v:Value} {w w':World} {B:Nat} {ty:TypeId} {k n:Nat} {cs:List Value} {S:List Nat} (h:w.ownsRow B ty k v n cs) (hc:Chg S w w') (hS:∀ b∈S,b < B):w'.ownsRow B ty k v n cs :=
 row_chg h hc fun g hg hm=>by have:=(h.lt g hg).1;have:=hS g hm;omega
theorem JQ.chg {x B:Nat} {w1 w2:World} {S:List Nat} {cs:List Value} (h:JQ x B w1 cs) (hc:Chg S w1 w2) (hS:∀ b∈S,b < B):JQ x B w2 cs:=by
 obtain ⟨pa,pc,e,r⟩:=h
 exact ⟨pa,pc,e,own_lt r hc hS⟩
theorem JQ.low {x B B':Nat} {w:World} {cs:List Value} (h:JQ x B w cs) (hB:B'≤B):JQ x B' w cs:=by
 obtain ⟨pa,pc,e,r⟩:=h
 exact ⟨pa,pc,e,row_low r hB⟩
def JO (x:Nat) (B:Nat) (w:World) (cs:List Value):Prop:=∃ g5 cap5 g9 cap9 pa pc,cs=[.slice (some ⟨g5,0,none⟩) 1 cap5,.slice (some ⟨g9,0,none⟩) 1 cap9] ∧
 w.ownsRow B 9 1 (.slice (some ⟨g5,0,none⟩) 1 cap5) 1 [.string ⟨([0,97]:List UInt8).toArray⟩] ∧
 w.ownsRow B 83 8 (.slice (some ⟨g9,0,none⟩) 1 cap9) 1 [.int .i64 0,.float .f64 0,.string ⟨#[]⟩,.int .i64 0,.bool true,.slice none 0 0,.slice pa 3 pc,.bool true] ∧
 w.ownsRow B 83 8 (.slice pa 3 pc) 3 (cat (leaves (jvs x)) 3)
theorem JO.chg {x B:Nat} {w1 w2:World} {S:List Nat} {cs:List Value} (h:JO x B w1 cs) (hc:Chg S w1 w2) (hS:∀ b∈S,b < B):JO x B w2 cs:=by
 obtain ⟨g5,cap5,g9,cap9,pa,pc,e,r1,r2,r3⟩:=h
 exact ⟨g5,cap5,g9,cap9,pa,pc,e,own_lt r1 hc hS,own_lt r2 hc hS,own_lt r3 hc hS⟩
theorem JO.low {x B B':Nat} {w:World} {cs:List Value} (h:JO x B w cs) (hB:B'≤B):JO x B' w cs:=by
 obtain ⟨g5,cap5,g9,cap9,pa,pc,e,r1,r2,r3⟩:=h
 exact ⟨g5,cap5,g9,cap9,pa,pc,e,row_low r1 hB,row_low r2 hB,row_low r3 hB⟩
theorem leaves_one (vs:List Va) (j:Nat):∀ u∈leaves vs j,u.oneCell'=true:=by
 intro u hu
 simp only [leaves,leaf,List.mem_cons,List.not_mem_nil,or_false] at hu
 rcases hu with rfl | rfl | rfl | rfl | rfl | rfl | rfl | rfl <;> rfl
theorem read_arr {w0 w:World} {p x:Nat} {deep:Int} (h:JR w p jt 5) (hp0:Pur w0 w) (hpl:w0.heap.size≤p) (hT:UT w0)
   (NU:∀ w',Pur w0 w'→Calls Tryz.prog 128 #[.string ⟨([0,49]:List UInt8).toArray⟩] w' fun e w''=>e=.returned (.float .f64 x)∧Pur w' w'') :
   Calls Tryz.prog 92 #[.pointer (some ⟨p,0,none⟩),.bool true,.int .i64 deep] w fun e w'=>∃ pv,e=.returned (.agg #[.int .i64 0,.float .f64 0,.string ⟨#[]⟩,.int .i64 0,.bool true,.slice none 0 0,pv,.bool true])∧JR w' p jt (jts (3 - 1) + 1)∧Chg [p] w w'∧w'.ownsRow w.heap.size 83 8 pv 3 (cat (leaves (jvs x)) 3):=by
 refine many_arr (leaves (jvs x)) js jts h hp0 hpl (by decide) (by decide) (by decide) rfl (by decide) (by decide) ?_ ?_ ?_ (by decide) ?_
 · intro j hj
   match j,hj with
   | 0,_=>exact ⟨rfl,leaves_one _ _⟩
   | 1,_=>exact ⟨rfl,leaves_one _ _⟩
   | 2,_=>exact ⟨rfl,leaves_one _ _⟩
 · intro j hj
   match j,hj with
   | 0,_=>decide
   | 1,_=>decide
   | 2,_=>decide
 · intro j hj
   match j,hj with
   | 0,_=>decide
   | 1,_=>decide
 · intro j hj w' hp H
   match j,hj with
   | 0,_=>exact value_num (i:=6) (k:=1) (x:=x) H hp hpl hT (by unfold Digs;decide) (by decide) (by decide) (by decide) (by decide) (by decide) (by decide) (by decide) (by decide) NU
   | 1,_=>exact value_null (i:=8) H (hT.pur hp) (by decide) (by decide) (by decide) (by decide)
   | 2,_=>exact value_text (i:=13) (k:=1) H (by decide) (by decide) (by decide) (by decide) (by decide)
theorem read_obj {w0 w:World} {p x:Nat} (h:JR w p jt 0) (hp0:Pur w0 w) (hpl:w0.heap.size≤p) (hT:UT w0)
   (NU:∀ w',Pur w0 w'→Calls Tryz.prog 128 #[.string ⟨([0,49]:List UInt8).toArray⟩] w' fun e w''=>e=.returned (.float .f64 x)∧Pur w' w'') :
   Calls Tryz.prog 40 #[.pointer (some ⟨p,0,none⟩),.int .i64 0] w fun e w'=>∃ g5 cap5 g9 cap9 pa pc,e=.returned (.agg #[.int .i64 0,.float .f64 0,.string ⟨#[]⟩,.int .i64 0,.bool false,.slice (some ⟨g5,0,none⟩) 1 cap5,.slice (some ⟨g9,0,none⟩) 1 cap9,.bool true])∧JR w' p jt 18∧Chg [p] w w'∧JO x w.heap.size w' [.slice (some ⟨g5,0,none⟩) 1 cap5,.slice (some ⟨g9,0,none⟩) 1 cap9] ∧
     w'.ownsRow w.heap.size 9 1 (.slice (some ⟨g5,0,none⟩) 1 cap5) 1 [.string ⟨([0,97]:List UInt8).toArray⟩] ∧
     w'.ownsRow w.heap.size 83 8 (.slice (some ⟨g9,0,none⟩) 1 cap9) 1 [.int .i64 0,.float .f64 0,.string ⟨#[]⟩,.int .i64 0,.bool true,.slice none 0 0,.slice pa 3 pc,.bool true] ∧
     w'.ownsRow w.heap.size 83 8 (.slice pa 3 pc) 3 (cat (leaves (jvs x)) 3):=by
 have V:∀ w',Pur w0 w'→JR w' p jt (0 + 1 + 1 + 2 + 1)→Calls Tryz.prog 40 #[.pointer (some ⟨p,0,none⟩),.int .i64 1] w' fun e w''=>∃ ka kn kc pa pn pc,e=.returned (.agg #[.int .i64 0,.float .f64 0,.string ⟨#[]⟩,.int .i64 0,.bool true,.slice ka kn kc,.slice pa pn pc,.bool true])∧JR w'' p jt 17∧Chg [p] w' w''∧JQ x w'.heap.size w'' [.slice ka kn kc,.slice pa pn pc]:=by
   intro w' hp H
   refine value_many (u:=91) (j:=17) (deep:=1) (JQ x) H hp hpl (by decide) (.inl rfl) (by decide) (by decide) (by decide) (by decide) (fun B w1 w2 S cs h1 h2 h3=>h1.chg h2 h3) (fun B B' w1 cs h1 h2=>h1.low h2) ?_
   intro w2 hp2 H2
   refine (read_arr (x:=x) H2 hp2 hpl hT NU).mono ?_
   rintro e w3 ⟨pv,rfl,H3,C3,R3⟩
   obtain ⟨pa,pc,rfl⟩:=row_shape R3
   exact ⟨none,0,0,pa,3,pc,rfl,H3,C3,pa,pc,rfl,R3⟩
 have M:=value_many (i:=0) (u:=123) (j:=18) (deep:=0) (JO x) h hp0 hpl (by decide) (.inr rfl) (by decide) (by decide) (by decide) (by decide) (fun B w1 w2 S cs h1 h2 h3=>h1.chg h2 h3) (fun B B' w1 cs h1 h2=>h1.low h2) (by
   intro w2 hp2 H2
   refine (many_obj (i:=0) (k:=1) (t:=17) (deep:=1) (JQ x) H2 hp2 hpl (by decide) (by decide) (by decide) (by decide) (by decide) (by decide) (fun B w1 w2 S cs h1 h2 h3=>h1.chg h2 h3) (fun B B' w1 cs h1 h2=>h1.low h2) V).mono ?_
   rintro e w3 ⟨g5,cap5,g9,cap9,ka,kn,kc,pa,pn,pc,rfl,H3,C3,R5,R9,q⟩
   obtain ⟨pa',pc',hq,r⟩:=q
   simp only [List.cons.injEq,Value.slice.injEq,and_true] at hq
   obtain ⟨⟨rfl,rfl,rfl⟩,rfl,rfl,rfl⟩:=hq
   exact ⟨_,_,_,_,_,_,rfl,H3,C3,g5,cap5,g9,cap9,pa,pc,rfl,R5,R9,r⟩)
 refine M.mono ?_
 rintro e w' ⟨ka,kn,kc,pa,pn,pc,rfl,H,C,q⟩
 have q0:=q
 obtain ⟨g5,cap5,g9,cap9,pa',pc',hq,r1,r2,r3⟩:=q
 simp only [List.cons.injEq,Value.slice.injEq,and_true] at hq
 obtain ⟨⟨rfl,rfl,rfl⟩,rfl,rfl,rfl⟩:=hq
 exact ⟨_,_,_,_,pa',pc',rfl,H,C,q0,r1,r2,r3⟩
end Li
namespace Li
theorem parse_idle (p q:Nat) (w:World) :
   CallsD Tryz.prog 39 #[.pointer (some ⟨p,0,none⟩),.pointer (some ⟨q,0,none⟩)] .returning w fun e u' w'=>e=.returned (.tuple #[])∧u'=.returning∧w'=w:=by
 refine callsD_of_wpS Tryz.func39 rfl fun c₀ cs hu=>?_
 apply wpS_seq
 apply wpS_region
 simp [wpOpsS,go_sem,recoverD,hu,Tryz.ntmps39,Exit.thenS]
 apply wpS_seq
 apply wpS_region
 simp [wpOpsS,go_sem,Exit.thenS,Act.eval,Array.replicate]
 refine wpS_cond (t:=false) (by simp [Act.eval,Array.replicate]) ?_
 simp only [Bool.false_eq_true,if_false]
 refine wpS_of_wp (wp_skip ?_)
 cases c₀
 simp_all [bodyPostS,results,Tryz.results39]
theorem jvs_wf {x:Nat} (hx:x < 18446744073709551616):∀ v∈jvs x,v.wf:=by
 intro v hv
 simp only [jvs,List.mem_cons,List.not_mem_nil,or_false] at hv
 rcases hv with rfl | rfl | rfl
 · exact ⟨hx,by simp⟩
 · exact ⟨by decide,by simp⟩
 · exact ⟨by decide,by simp⟩
theorem parse_aw {w0 w:World} {hh G x:Nat} {K:Nat→Prop} {d d1 d2 d3:Hd} {i o:Int} (h:At w0 hh G K w d) (hT:UT w) (hx:x < 18446744073709551616) (hi32:0≤i) (hd1:d.array (jvs x)=((i,0),d1)) (hd2:d1.plain (-1)=((o,0),d2)) (hd3:d2.put o [0,97] ⟨5,0,[],i⟩=(0,d3))
   (NU:∀ w',Pur w w'→Calls Tryz.prog 128 #[.string ⟨([0,49]:List UInt8).toArray⟩] w' fun e w''=>e=.returned (.float .f64 x)∧Pur w' w'') :
   Calls Tryz.prog 22 #[.pointer (some ⟨hh,0,none⟩),.string ⟨jt.toArray⟩] w fun e w'=>e=.returned (.tuple #[.agg #[.int .i64 5,.float .f64 0,.string ⟨#[]⟩,.int .i64 o],.int .i64 0])∧At w0 hh G K w' d3∧Kept K w w':=by
 have hmf:∀ (fn:Fn) (first cap:Array Value) (w:World),(Instr.makeFunc fn first cap).run Tryz.prog w=.ok (.func fn first cap) w:=fun _ _ _ _=>rfl
 obtain ⟨W0,hW0⟩:∃ W0,W0=((w.alloc (.cells #[.int .i64 0,.float .f64 0,.string ⟨#[]⟩,.int .i64 0] 25)).alloc (.cells #[.int .i64 0] 29)).alloc (.cells #[.string ⟨jt.toArray⟩,.int .i64 0] 80):=⟨_,rfl⟩
 have hs1:(w.alloc (.cells #[.int .i64 0,.float .f64 0,.string ⟨#[]⟩,.int .i64 0] 25)).heap.size=w.heap.size + 1:=Array.size_push _
 have hs2:((w.alloc (.cells #[.int .i64 0,.float .f64 0,.string ⟨#[]⟩,.int .i64 0] 25)).alloc (.cells #[.int .i64 0] 29)).heap.size=w.heap.size + 1 + 1:=by
   rw [← hs1];exact Array.size_push _
 have hsz:W0.heap.size=w.heap.size + 1 + 1 + 1:=by rw [hW0,← hs2];exact Array.size_push _
 have hP:Pur w W0:=by rw [hW0];exact (((Pur.refl w).alloc _).alloc _).alloc _
 have b0:W0.heap[w.heap.size]?=some (.cells Va.zero.cells.toArray 25 (0,0)):=by
   rw [hW0];exact bk_alloc (bk_alloc (bk_new w _) _) _
 have b1:W0.heap[w.heap.size + 1]?=some (.cells #[.int .i64 0] 29 (0,0)):=by
   rw [hW0];have:=bk_alloc (bk_new (w.alloc (.cells #[.int .i64 0,.float .f64 0,.string ⟨#[]⟩,.int .i64 0] 25)) (.cells #[.int .i64 0] 29)) (.cells #[.string ⟨jt.toArray⟩,.int .i64 0] 80)
   rwa [hs1] at this
 have b2:W0.heap[w.heap.size + 1 + 1]?=some (.cells #[.string ⟨jt.toArray⟩,.int .i64 0] 80 (0,0)):=by
   rw [hW0];have:=bk_new ((w.alloc (.cells #[.int .i64 0,.float .f64 0,.string ⟨#[]⟩,.int .i64 0] 25)).alloc (.cells #[.int .i64 0] 29)) (.cells #[.string ⟨jt.toArray⟩,.int .i64 0] 80)
   rwa [hs2] at this
 have HJ:JR W0 (w.heap.size + 1 + 1) jt 0:=⟨b2,by decide,by decide⟩
 have RD:=read_obj (x:=x) HJ hP (by omega) hT NU
 have hw0:=h.pur.size
 have hKl:∀ b,K b→b < w.heap.size:=fun b hb=>by obtain ⟨s,-,-,-,-,h5⟩:=h.ex;exact (h5 b hb).1
 have A0:At w0 hh G (fun b=>((K b∨b=w.heap.size)∨b=w.heap.size + 1)∨b=w.heap.size + 1 + 1) W0 d:=at_other h (Chg.of_pur (S:=[]) hP) (by intro b hb;cases hb) (by intro b hb;cases hb) (fun b hb=>by
   rcases hb with ((hb | hb) | hb) | hb
   · exact ⟨.inl hb,by have:=hKl b hb;omega⟩
   · exact ⟨.inr (by omega),by omega⟩
   · exact ⟨.inr (by omega),by omega⟩
   · exact ⟨.inr (by omega),by omega⟩)
 have K0:Kept K w W0:=(h.pure hP).2
 clear NU HJ b2 hs1 hs2
 go_enter_defers Tryz.func22,Tryz.ntmps22
 go_wp2_with fail
 rw [← hW0]
 refine RD.mono ?_
 rintro e w1 ⟨g5,cap5,g9,cap9,pa,pc,rfl,H1,C1,q1,r1,r2,r3⟩
 have hs:=C1.size
 have hg5:=r1.lt g5 rfl
 have A1:At w0 hh G (fun b=>((K b∨b=w.heap.size)∨b=w.heap.size + 1)∨b=g5) w1 d:=at_other A0 C1 (by intro b hb;simp at hb;subst hb;exact .inr rfl) (by intro b hb;simp at hb;omega) (fun b hb=>by
   rcases hb with ((hb | hb) | hb) | hb
   · exact ⟨.inl (.inl (.inl (.inl hb))),by have:=hKl b hb;omega⟩
   · exact ⟨.inl (.inl (.inl (.inr hb))),by omega⟩
   · exact ⟨.inl (.inl (.inr hb)),by omega⟩
   · subst hb;exact ⟨.inr hg5.1,hg5.2⟩)
 have K1:Kept K w w1:=K0.trans fun b hb=>C1.block b (by have:=hKl b hb;omega) (by have:=hKl b hb;simp;omega)
 have c0:=bk_chg b0 C1 (by simp;omega)
 have c1:=bk_chg b1 C1 (by simp)
 have PA:Pur w1 (w1.alloc (.cells #[.int .i64 0,.float .f64 0,.string ⟨#[]⟩,.int .i64 0,.bool false,.slice (some ⟨g5,0,none⟩) 1 cap5,.slice (some ⟨g9,0,none⟩) 1 cap9,.bool true] 83)):=(Pur.refl w1).alloc _
 have NB:=bk_new w1 (.cells #[.int .i64 0,.float .f64 0,.string ⟨#[]⟩,.int .i64 0,.bool false,.slice (some ⟨g5,0,none⟩) 1 cap5,.slice (some ⟨g9,0,none⟩) 1 cap9,.bool true] 83)
 obtain ⟨A2,K2⟩:=A1.pure PA
 have H2:=H1.pur PA
 have r1:=row_pur r1 PA
 have r2:=row_pur r2 PA
 have r3:=row_pur r3 PA
 have c0:=bk_pur c0 PA
 have c1:=bk_pur c1 PA
 have PK:=peek_any H2
 rw [show pk jt 18=-1 by decide] at PK
 clear RD A0 A1 C1 hW0 b0 b1 H1 q1 hT
 go_wp2_with fail
 generalize w1.alloc (.cells #[.int .i64 0,.float .f64 0,.string ⟨#[]⟩,.int .i64 0,.bool false,.slice (some ⟨g5,0,none⟩) 1 cap5,.slice (some ⟨g9,0,none⟩) 1 cap9,.bool true] 83)=w2 at *
 refine PK.mono ?_
 rintro e w3 ⟨rfl,p3⟩
 obtain ⟨A3,K3⟩:=A2.pure p3
 have n3:=bk_pur NB p3
 have BO:=build_obj A3 (jvs x) (show 3≤1000 by decide) (jvs_wf hx) (row_pur r1 p3) (.inr rfl) (row_pur r2 p3) (row_pur r3 p3) (by decide) hi32 hd1 hd2 hd3
 have c0:=bk_pur c0 p3
 have c1:=bk_pur c1 p3
 have m0:=bk_cell n3 0 _ rfl
 have m1:=bk_cell n3 1 _ rfl
 have m2:=bk_cell n3 2 _ rfl
 have m3:=bk_cell n3 3 _ rfl
 have m4:=bk_cell n3 4 _ rfl
 have m5:=bk_cell n3 5 _ rfl
 have m6:=bk_cell n3 6 _ rfl
 have m7:=bk_cell n3 7 _ rfl
 clear PK A2 r1 r2 r3 H2 NB n3
 go_wp2_with fail
 refine BO.mono ?_
 rintro e w4 ⟨rfl,A4,K4⟩
 have c0:=(K4 _ (.inl (.inl (.inr rfl)))).trans c0
 have c1:=(K4 _ (.inl (.inr rfl))).trans c1
 have K5:Kept K w w4:=((K1.trans fun b hb=>K2 b (.inl (.inl (.inl hb)))).trans fun b hb=>K3 b (.inl (.inl (.inl hb)))).trans fun b hb=>K4 b (.inl (.inl (.inl hb)))
 obtain ⟨⟨s0,s1⟩,⟨s2,s3⟩,⟨s4,s5⟩,⟨s6,s7⟩⟩:=st4_steps (y:=Va.zero) (x:=⟨5,0,[],o⟩) c0
 have R8:=st4_at (y:=Va.zero) (x:=⟨5,0,[],o⟩) c0
 have C8:Chg [w.heap.size,w.heap.size + 1] w4 (st4 w4 w.heap.size ⟨5,0,[],o⟩):=((((Chg.refl [w.heap.size,w.heap.size + 1] w4).setCell (a:=⟨w.heap.size,0,none⟩) (.inl (by simp)) _).setCell (a:=⟨w.heap.size,1,none⟩) (.inl (by simp)) _).setCell (a:=⟨w.heap.size,2,none⟩) (.inl (by simp)) _).setCell (a:=⟨w.heap.size,3,none⟩) (.inl (by simp)) _
 have c1':(st4 w4 w.heap.size ⟨5,0,[],o⟩).heap[w.heap.size + 1]?=some (.cells #[.int .i64 0] 29 (0,0)):=bk_chg c1 (((((Chg.refl [w.heap.size] w4).setCell (a:=⟨w.heap.size,0,none⟩) (.inl (by simp)) _).setCell (a:=⟨w.heap.size,1,none⟩) (.inl (by simp)) _).setCell (a:=⟨w.heap.size,2,none⟩) (.inl (by simp)) _).setCell (a:=⟨w.heap.size,3,none⟩) (.inl (by simp)) _) (by simp)
 have e1:=bk_cell c1' 0 _ rfl
 have f1:=bk_free c1' 0
 obtain ⟨W5,hW5⟩:∃ W5,W5=(st4 w4 w.heap.size ⟨5,0,[],o⟩).setCell ⟨w.heap.size + 1,0,none⟩ (.int .i64 0):=⟨_,rfl⟩
 have C9:Chg [w.heap.size,w.heap.size + 1] w4 W5:=by rw [hW5];exact C8.setCell (a:=⟨w.heap.size + 1,0,none⟩) (.inl (by simp)) _
 have z0:W5.heap[w.heap.size]?=some (.cells (⟨5,0,[],o⟩:Va).cells.toArray 25 (0,0)):=by rw [hW5];exact bk_other R8 (a:=⟨w.heap.size + 1,0,none⟩) (by simp) _
 have z1:W5.heap[w.heap.size + 1]?=some (.cells #[.int .i64 0] 29 (0,0)):=by rw [hW5];exact bk_set c1' 0 _
 have AF:At w0 hh G K W5 d3:=at_other A4 C9 (by intro b hb;simp at hb;rcases hb with rfl | rfl <;> simp) (by intro b hb;simp at hb;omega) (fun b hb=>⟨.inl (.inl (.inl (.inl hb))),by have:=hKl b hb;have:=C9.size;have:=bk_lt c0;omega⟩)
 have KF:Kept K w W5:=K5.trans fun b hb=>C9.block b (by have:=hKl b hb;have:=bk_lt c0;omega) (by have:=hKl b hb;simp;omega)
 have HF:=Lib.hid (And.intro AF KF)
 have HW:=Lib.hid hW5
 clear AF KF BO A4 K4 A3 K3 K1 K2 K5 C8 C9 R8 K0 hW5
 simp only [st4,Va.zero] at s0 s1 s2 s3 s4 s5 s6 s7 e1 f1 HW
 go_wp2
 rw [← HW.out]
 have y0:=bk_cell z0 0 _ rfl
 have y1:=bk_cell z0 1 _ rfl
 have y2:=bk_cell z0 2 _ rfl
 have y3:=bk_cell z0 3 _ rfl
 have y4:=bk_cell z1 0 _ rfl
 have hend:=HF.out
 clear HW s0 s1 s2 s3 s4 s5 s6 s7 e1 f1 c0 c1 c1' z0 z1
 refine leaves_cons (f:=39) (args:=#[.pointer (some ⟨w.heap.size,0,none⟩),.pointer (some ⟨w.heap.size + 1,0,none⟩)]) (by simp) (by simp [go_sem]) ?_
 refine (parse_idle _ _ W5).mono ?_
 rintro e u' w3 ⟨rfl,rfl,rfl⟩
 simp [Leaves,settle,results,Tryz.results22,go_sem,y0,y1,y2,y3,y4,hend]
 exact ⟨rfl,rfl,rfl,rfl⟩
end Li
end Go.Proofs.YtgdolcoiihagfaaGreatDoor
