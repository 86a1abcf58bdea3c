/- Layer 10: values of a JSON text that are plain: null, a text, a whole number. Layer 10: an array of plain values in a JSON text. Layer 10: an array or an object in a JSON text, as a value. Layer 10: an object of one key in a JSON text. -/
import Derived.Test.YtgdolcoiihagfaaGreatDoorLiA
import Derived.Test.YtgdolcoiihagfaaGreatDoorTbE
import Derived.Deep.AppendLies
namespace Go.Proofs.YtgdolcoiihagfaaGreatDoor
open Go Go.RowKit
set_option linter.all false
set_option maxRecDepth 100000
set_option maxHeartbeats 100000000
namespace Li
/-- how a value ends: its cells, and where the reader stands -/
def Val (w:World) (p:Nat) (l:List UInt8) (j:Nat) (cs:Array Value) (e:Ending) (w':World):Prop:=e=.returned (.agg cs)∧JR w' p l j∧Chg [p] w w'
theorem value_null {w:World} {p:Nat} {l:List UInt8} {i:Nat} {deep:Int} (h:JR w p l i) (hT:UT w) (hu:pk l i=110) (hc:(cutU l i ((i:Int) + 4) == wide8 [110,117,108,108])=true) (hb:noB (pk l (i + 4))) (hi:i≤800000) :
   Calls Tryz.prog 40 #[.pointer (some ⟨p,0,none⟩),.int .i64 deep] w (Val w p l (i + 4) (leaf ⟨1,0,[],0⟩)):=by
 have P1:Pur w (w.alloc (.cells #[.int .i64 0,.float .f64 0,.string ⟨#[]⟩,.int .i64 0,.bool false,.slice none 0 0,.slice none 0 0,.bool false] 83)):=(Pur.refl w).alloc _
 have RB:=bk_new w (.cells #[.int .i64 0,.float .f64 0,.string ⟨#[]⟩,.int .i64 0,.bool false,.slice none 0 0,.slice none 0 0,.bool false] 83)
 have H1:=h.pur P1
 have hpw:=bk_lt h.own
 have hneR:w.heap.size≠p:=by omega
 have BL:=blanks_no H1 (by rw [hu];decide)
 have PK:=fun w' (H:JR w' p l i)=>peek_any H
 rw [hu] at PK
 have WD1:=fun w' (H:JR w' p l i) (T:UT w')=>word_any H [110,117,108,108] (by decide) (by decide) T (by omega)
 simp only [List.length_cons,List.length_nil] at WD1
 rw [show ((i:Int) + ((0 + 1 + 1 + 1 + 1:Nat):Int))=(i:Int) + 4 from rfl,hc] at WD1
 simp only [if_true] at WD1
 have BL2:=fun w' (H:JR w' p l (i + 4))=>blanks_no H hb
 have hT1:=hT.pur P1
 clear h hT hc hb hu
 go_enter Tryz.func40,Tryz.ntmps40
 go_wp2_with fail
 have hs1:(w.alloc (.cells #[.int .i64 0,.float .f64 0,.string ⟨#[]⟩,.int .i64 0,.bool false,.slice none 0 0,.slice none 0 0,.bool false] 83)).heap.size=w.heap.size + 1:=Array.size_push _
 generalize w.alloc (.cells #[.int .i64 0,.float .f64 0,.string ⟨#[]⟩,.int .i64 0,.bool false,.slice none 0 0,.slice none 0 0,.bool false] 83)=w1 at *
 refine BL.mono ?_
 rintro e w2 ⟨rfl,p2⟩
 have hs2:=p2.size
 have P3:Pur w2 (w2.alloc (.cells #[.int .i64 0,.float .f64 0,.string ⟨#[]⟩,.int .i64 0,.bool false,.slice none 0 0,.slice none 0 0,.bool false] 83)):=(Pur.refl w2).alloc _
 have NB:=bk_new w2 (.cells #[.int .i64 0,.float .f64 0,.string ⟨#[]⟩,.int .i64 0,.bool false,.slice none 0 0,.slice none 0 0,.bool false] 83)
 have H3:=(H1.pur p2).pur P3
 have G3:Chg [p] w (w2.alloc (.cells #[.int .i64 0,.float .f64 0,.string ⟨#[]⟩,.int .i64 0,.bool false,.slice none 0 0,.slice none 0 0,.bool false] 83)):=Chg.of_pur ((P1.trans p2).trans P3)
 have R3:=bk_pur RB (p2.trans P3)
 have p13:=p2.trans P3
 have hneN:w2.heap.size≠p:=by omega
 have hneRN:w.heap.size≠w2.heap.size:=by omega
 go_wp2_with fail
 generalize w2.alloc (.cells #[.int .i64 0,.float .f64 0,.string ⟨#[]⟩,.int .i64 0,.bool false,.slice none 0 0,.slice none 0 0,.bool false] 83)=w3 at *
 refine (PK _ H3).mono ?_
 rintro e w4 ⟨rfl,p4⟩
 have H4:=H3.pur p4
 have G4:=G3.pur p4
 have N4:=bk_pur NB p4
 have R4:=bk_pur R3 p4
 have WD4:=WD1 _ H4 (hT1.pur (p13.trans p4))
 go_wp2_with fail
 refine WD4.mono ?_
 rintro e w5 ⟨rfl,H5,G5⟩
 clear WD4 WD1 hT1 PK
 have N5:=bk_chg N4 G5 (by simp;omega)
 have R5:=bk_chg R4 G5 (by simp;omega)
 have G5':=G4.trans G5
 obtain ⟨⟨a0,b0⟩,⟨a1,b1⟩,⟨a2,b2⟩,⟨a3,b3⟩,N6,C6⟩:=jn4 (.int .i64 1) (.float .f64 0) (.string ⟨#[]⟩) (.int .i64 0) N5
 have H6:=H5.chg C6 (by simp;omega)
 have R6:=bk_chg R5 C6 (by simp;omega)
 have G6:=G5'.next C6 (fun b hb=>.inr (by simp at hb;omega))
 have B2:=BL2 _ H6
 clear N4 R4 R3 NB RB N5 R5 G5 G5' G4 G3 H3 H4 C6 BL BL2
 go_wp2_with fail
 generalize ((((w5.setCell ⟨w2.heap.size,0,none⟩ (.int .i64 1)).setCell ⟨w2.heap.size,1,none⟩ (.float .f64 0)).setCell ⟨w2.heap.size,2,none⟩ (.string ⟨#[]⟩)).setCell ⟨w2.heap.size,3,none⟩ (.int .i64 0))=w6 at *
 refine B2.mono ?_
 rintro e w7 ⟨rfl,p7⟩
 have H7:=H6.pur p7
 have N7:=bk_pur N6 p7
 have R7:=bk_pur R6 p7
 have G7:=G6.pur p7
 have n0:=bk_cell N7 0 _ rfl
 have n1:=bk_cell N7 1 _ rfl
 have n2:=bk_cell N7 2 _ rfl
 have n3:=bk_cell N7 3 _ rfl
 have n4:=bk_cell N7 4 _ rfl
 have n5:=bk_cell N7 5 _ rfl
 have n6:=bk_cell N7 6 _ rfl
 have n7:=bk_cell N7 7 _ rfl
 obtain ⟨⟨r0,s0⟩,⟨r1,s1⟩,⟨r2,s2⟩,⟨r3,s3⟩,⟨r4,s4⟩,⟨r5,s5⟩,⟨r6,s6⟩,⟨r7,s7⟩,R8,C8⟩:=jn8 (.int .i64 1) (.float .f64 0) (.string ⟨#[]⟩) (.int .i64 0) (.bool false) (.slice none 0 0) (.slice none 0 0) (.bool false) R7
 have HF:=Lib.hid (And.intro R8 (And.intro (H7.chg C8 (by simp;omega)) (G7.next C8 (fun b hb=>.inr (by simp at hb;omega)))))
 clear B2 H6 R6 G6 N6 p7 H7 N7 R7 G7 R8 C8 a0 b0 a1 b1 a2 b2 a3 b3
 go_wp2
 refine bodyPost_ret (results_cell_row rfl _ _ w.heap.size 83 _ (0,0) _ rfl HF.out.1 Tryz.underlying83 rfl (by kernel_rfl)) rfl ⟨rfl,HF.out.2⟩
theorem value_text {w:World} {p:Nat} {l:List UInt8} {i k:Nat} {deep:Int} (h:JR w p l i) (hq:pk l i=34) (hk:∀ j,j < k→pk l (i + 1 + j)≠34∧pk l (i + 1 + j)≠92∧32≤pk l (i + 1 + j)) (he:pk l (i + 1 + k)=34) (hb:noB (pk l (i + k + 2))) (hi:i + k + 2≤800000) :
   Calls Tryz.prog 40 #[.pointer (some ⟨p,0,none⟩),.int .i64 deep] w (Val w p l (i + k + 2) (leaf ⟨4,0,sub l (2 * (i + 1)) (2 * (i + 1 + k)),0⟩)):=by
 have P1:Pur w (w.alloc (.cells #[.int .i64 0,.float .f64 0,.string ⟨#[]⟩,.int .i64 0,.bool false,.slice none 0 0,.slice none 0 0,.bool false] 83)):=(Pur.refl w).alloc _
 have RB:=bk_new w (.cells #[.int .i64 0,.float .f64 0,.string ⟨#[]⟩,.int .i64 0,.bool false,.slice none 0 0,.slice none 0 0,.bool false] 83)
 have H1:=h.pur P1
 have hpw:=bk_lt h.own
 have hneR:w.heap.size≠p:=by omega
 have BL:=blanks_no H1 (by rw [hq];decide)
 have PK:=fun w' (H:JR w' p l i)=>peek_any H
 rw [hq] at PK
 have TX:=fun w' (H:JR w' p l i)=>text_plain H hq hk he (by omega)
 have BL2:=fun w' (H:JR w' p l (i + k + 2))=>blanks_no H hb
 unfold leaf
 simp only
 generalize sub l (2 * (i + 1)) (2 * (i + 1 + k))=tt at *
 have ET:=fun w=>etext_any tt w
 clear h hb hq hk he
 go_enter Tryz.func40,Tryz.ntmps40
 go_wp2_with fail
 have hs1:(w.alloc (.cells #[.int .i64 0,.float .f64 0,.string ⟨#[]⟩,.int .i64 0,.bool false,.slice none 0 0,.slice none 0 0,.bool false] 83)).heap.size=w.heap.size + 1:=Array.size_push _
 generalize w.alloc (.cells #[.int .i64 0,.float .f64 0,.string ⟨#[]⟩,.int .i64 0,.bool false,.slice none 0 0,.slice none 0 0,.bool false] 83)=w1 at *
 refine BL.mono ?_
 rintro e w2 ⟨rfl,p2⟩
 have hs2:=p2.size
 have P3:Pur w2 (w2.alloc (.cells #[.int .i64 0,.float .f64 0,.string ⟨#[]⟩,.int .i64 0,.bool false,.slice none 0 0,.slice none 0 0,.bool false] 83)):=(Pur.refl w2).alloc _
 have NB:=bk_new w2 (.cells #[.int .i64 0,.float .f64 0,.string ⟨#[]⟩,.int .i64 0,.bool false,.slice none 0 0,.slice none 0 0,.bool false] 83)
 have H3:=(H1.pur p2).pur P3
 have G3:Chg [p] w (w2.alloc (.cells #[.int .i64 0,.float .f64 0,.string ⟨#[]⟩,.int .i64 0,.bool false,.slice none 0 0,.slice none 0 0,.bool false] 83)):=Chg.of_pur ((P1.trans p2).trans P3)
 have R3:=bk_pur RB (p2.trans P3)
 have p13:=p2.trans P3
 have hneN:w2.heap.size≠p:=by omega
 have hneRN:w.heap.size≠w2.heap.size:=by omega
 go_wp2_with fail
 generalize w2.alloc (.cells #[.int .i64 0,.float .f64 0,.string ⟨#[]⟩,.int .i64 0,.bool false,.slice none 0 0,.slice none 0 0,.bool false] 83)=w3 at *
 refine (PK _ H3).mono ?_
 rintro e w4 ⟨rfl,p4⟩
 have H4:=H3.pur p4
 have G4:=G3.pur p4
 have N4:=bk_pur NB p4
 have R4:=bk_pur R3 p4
 have TX4:=TX _ H4
 go_wp2_with fail
 refine TX4.mono ?_
 rintro e wt ⟨rfl,Ht,Gt⟩
 have ETt:=ET wt
 clear TX4 TX PK ET
 go_wp2_with fail
 refine ETt.mono ?_
 rintro e w5 ⟨rfl,pt⟩
 have H5:=Ht.pur pt
 have G5:=Gt.pur pt
 clear ETt Ht Gt
 have N5:=bk_chg N4 G5 (by simp;omega)
 have R5:=bk_chg R4 G5 (by simp;omega)
 have G5':=G4.trans G5
 obtain ⟨⟨a0,b0⟩,⟨a1,b1⟩,⟨a2,b2⟩,⟨a3,b3⟩,N6,C6⟩:=jn4 (.int .i64 4) (.float .f64 0) (.string ⟨tt.toArray⟩) (.int .i64 0) N5
 have H6:=H5.chg C6 (by simp;omega)
 have R6:=bk_chg R5 C6 (by simp;omega)
 have G6:=G5'.next C6 (fun b hb=>.inr (by simp at hb;omega))
 have B2:=BL2 _ H6
 clear N4 R4 R3 NB RB N5 R5 G5 G5' G4 G3 H3 H4 C6 BL BL2
 go_wp2_with fail
 generalize ((((w5.setCell ⟨w2.heap.size,0,none⟩ (.int .i64 4)).setCell ⟨w2.heap.size,1,none⟩ (.float .f64 0)).setCell ⟨w2.heap.size,2,none⟩ (.string ⟨tt.toArray⟩)).setCell ⟨w2.heap.size,3,none⟩ (.int .i64 0))=w6 at *
 refine B2.mono ?_
 rintro e w7 ⟨rfl,p7⟩
 have H7:=H6.pur p7
 have N7:=bk_pur N6 p7
 have R7:=bk_pur R6 p7
 have G7:=G6.pur p7
 have n0:=bk_cell N7 0 _ rfl
 have n1:=bk_cell N7 1 _ rfl
 have n2:=bk_cell N7 2 _ rfl
 have n3:=bk_cell N7 3 _ rfl
 have n4:=bk_cell N7 4 _ rfl
 have n5:=bk_cell N7 5 _ rfl
 have n6:=bk_cell N7 6 _ rfl
 have n7:=bk_cell N7 7 _ rfl
 obtain ⟨⟨r0,s0⟩,⟨r1,s1⟩,⟨r2,s2⟩,⟨r3,s3⟩,⟨r4,s4⟩,⟨r5,s5⟩,⟨r6,s6⟩,⟨r7,s7⟩,R8,C8⟩:=jn8 (.int .i64 4) (.float .f64 0) (.string ⟨tt.toArray⟩) (.int .i64 0) (.bool false) (.slice none 0 0) (.slice none 0 0) (.bool false) R7
 have HF:=Lib.hid (And.intro R8 (And.intro (H7.chg C8 (by simp;omega)) (G7.next C8 (fun b hb=>.inr (by simp at hb;omega)))))
 clear B2 H6 R6 G6 N6 p7 H7 N7 R7 G7 R8 C8 a0 b0 a1 b1 a2 b2 a3 b3
 go_wp2
 refine bodyPost_ret (results_cell_row rfl _ _ w.heap.size 83 _ (0,0) _ rfl HF.out.1 Tryz.underlying83 rfl (by kernel_rfl)) rfl ⟨rfl,HF.out.2⟩
theorem value_num {w0 w:World} {p:Nat} {l:List UInt8} {i k x:Nat} {deep:Int} (h:JR w p l i) (hp0:Pur w0 w) (hpl:w0.heap.size≤p) (hT:UT w0) (hd:Digs l i k) (hk:0 < k) (h0:pk l i≠48) (h1:pk l (i + k)≠46∧pk l (i + k)≠101∧pk l (i + k)≠69) (hc1:(cutU l i ((i:Int) + 4) == wide8 [110,117,108,108])=false) (hc2:(cutU l i ((i:Int) + 4) == wide8 [116,114,117,101])=false) (hc3:(cutU l i ((i:Int) + 5) == wide8 [102,97,108,115,101])=false) (hb:noB (pk l (i + k))) (hi:i + k≤800000)
   (NU:∀ w',Pur w0 w'→Calls Tryz.prog 128 #[.string ⟨(sub l (2 * i) (2 * (i + k))).toArray⟩] w' fun e w''=>e=.returned (.float .f64 x)∧Pur w' w'') :
   Calls Tryz.prog 40 #[.pointer (some ⟨p,0,none⟩),.int .i64 deep] w (Val w p l (i + k) (leaf ⟨3,x,[],0⟩)):=by
 have P1:Pur w (w.alloc (.cells #[.int .i64 0,.float .f64 0,.string ⟨#[]⟩,.int .i64 0,.bool false,.slice none 0 0,.slice none 0 0,.bool false] 83)):=(Pur.refl w).alloc _
 have RB:=bk_new w (.cells #[.int .i64 0,.float .f64 0,.string ⟨#[]⟩,.int .i64 0,.bool false,.slice none 0 0,.slice none 0 0,.bool false] 83)
 have H1:=h.pur P1
 have hpw:=bk_lt h.own
 have hneR:w.heap.size≠p:=by omega
 have hb0:=hd.1 0 hk
 rw [Nat.add_zero] at hb0
 have BL:=blanks_no H1 (by unfold noB;omega)
 have PK:=fun w' (H:JR w' p l i)=>peek_any H
 have WD1:=fun w' (H:JR w' p l i) (T:UT w')=>word_any H [110,117,108,108] (by decide) (by decide) T (by omega)
 simp only [List.length_cons,List.length_nil] at WD1
 rw [show ((i:Int) + ((0 + 1 + 1 + 1 + 1:Nat):Int))=(i:Int) + 4 from rfl,hc1] at WD1
 simp only [Bool.false_eq_true,if_false] at WD1
 have WD2:=fun w' (H:JR w' p l i) (T:UT w')=>word_any H [116,114,117,101] (by decide) (by decide) T (by omega)
 simp only [List.length_cons,List.length_nil] at WD2
 rw [show ((i:Int) + ((0 + 1 + 1 + 1 + 1:Nat):Int))=(i:Int) + 4 from rfl,hc2] at WD2
 simp only [Bool.false_eq_true,if_false] at WD2
 have WD3:=fun w' (H:JR w' p l i) (T:UT w')=>word_any H [102,97,108,115,101] (by decide) (by decide) T (by omega)
 simp only [List.length_cons,List.length_nil] at WD3
 rw [show ((i:Int) + ((0 + 1 + 1 + 1 + 1 + 1:Nat):Int))=(i:Int) + 5 from rfl,hc3] at WD3
 simp only [Bool.false_eq_true,if_false] at WD3
 have NM:=fun w' (H:JR w' p l i) (q:Pur w0 w')=>number_int H q hpl hd hk h0 h1 (by omega) NU
 have BL2:=fun w' (H:JR w' p l (i + k))=>blanks_no H hb
 have hp1:=hp0.trans P1
 have e1:(pk l i == 91)=false:=beq_eq_false_iff_ne.2 (by omega)
 have e2:(pk l i == 123)=false:=beq_eq_false_iff_ne.2 (by omega)
 have e3:(pk l i == 34)=false:=beq_eq_false_iff_ne.2 (by omega)
 generalize pk l i=u at *
 clear h hc1 hc2 hc3 hb hd h0 h1 NU hb0
 go_enter Tryz.func40,Tryz.ntmps40
 go_wp2_with fail
 have hs1:(w.alloc (.cells #[.int .i64 0,.float .f64 0,.string ⟨#[]⟩,.int .i64 0,.bool false,.slice none 0 0,.slice none 0 0,.bool false] 83)).heap.size=w.heap.size + 1:=Array.size_push _
 generalize w.alloc (.cells #[.int .i64 0,.float .f64 0,.string ⟨#[]⟩,.int .i64 0,.bool false,.slice none 0 0,.slice none 0 0,.bool false] 83)=w1 at *
 refine BL.mono ?_
 rintro e w2 ⟨rfl,p2⟩
 have hs2:=p2.size
 have P3:Pur w2 (w2.alloc (.cells #[.int .i64 0,.float .f64 0,.string ⟨#[]⟩,.int .i64 0,.bool false,.slice none 0 0,.slice none 0 0,.bool false] 83)):=(Pur.refl w2).alloc _
 have NB:=bk_new w2 (.cells #[.int .i64 0,.float .f64 0,.string ⟨#[]⟩,.int .i64 0,.bool false,.slice none 0 0,.slice none 0 0,.bool false] 83)
 have H3:=(H1.pur p2).pur P3
 have G3:Chg [p] w (w2.alloc (.cells #[.int .i64 0,.float .f64 0,.string ⟨#[]⟩,.int .i64 0,.bool false,.slice none 0 0,.slice none 0 0,.bool false] 83)):=Chg.of_pur ((P1.trans p2).trans P3)
 have R3:=bk_pur RB (p2.trans P3)
 have p13:=p2.trans P3
 have hneN:w2.heap.size≠p:=by omega
 have hneRN:w.heap.size≠w2.heap.size:=by omega
 go_wp2_with fail
 generalize w2.alloc (.cells #[.int .i64 0,.float .f64 0,.string ⟨#[]⟩,.int .i64 0,.bool false,.slice none 0 0,.slice none 0 0,.bool false] 83)=w3 at *
 refine (PK _ H3).mono ?_
 rintro e w4 ⟨rfl,p4⟩
 have H4:=H3.pur p4
 have G4:=G3.pur p4
 have N4:=bk_pur NB p4
 have R4:=bk_pur R3 p4
 have q4:=hp1.trans (p13.trans p4)
 have WD4:=WD1 _ H4 (hT.pur q4)
 go_wp2_with fail
 refine WD4.mono ?_
 rintro e x1 ⟨rfl,K1,F1⟩
 have q5:=chg_below F1 q4 hpl
 have WD5:=WD2 _ K1 (hT.pur q5)
 clear WD4 WD1
 go_wp2_with fail
 refine WD5.mono ?_
 rintro e x2 ⟨rfl,K2,F2⟩
 have q6:=chg_below F2 q5 hpl
 have F12:=F1.trans F2
 have WD6:=WD3 _ K2 (hT.pur q6)
 clear WD5 WD2
 go_wp2_with fail
 refine WD6.mono ?_
 rintro e x3 ⟨rfl,K3,F3⟩
 have q7:=chg_below F3 q6 hpl
 have F13:=F12.trans F3
 have NM7:=NM _ K3 q7
 clear WD6 WD3 NM K1 K2 F1 F2 F3 F12
 go_wp2_with fail
 refine NM7.mono ?_
 rintro e w5 ⟨rfl,H5,F4⟩
 have G5:=F13.trans F4
 clear NM7 K3 F13 F4 PK hT
 have N5:=bk_chg N4 G5 (by simp;omega)
 have R5:=bk_chg R4 G5 (by simp;omega)
 have G5':=G4.trans G5
 obtain ⟨⟨a0,b0⟩,⟨a1,b1⟩,⟨a2,b2⟩,⟨a3,b3⟩,N6,C6⟩:=jn4 (.int .i64 3) (.float .f64 x) (.string ⟨#[]⟩) (.int .i64 0) N5
 have H6:=H5.chg C6 (by simp;omega)
 have R6:=bk_chg R5 C6 (by simp;omega)
 have G6:=G5'.next C6 (fun b hb=>.inr (by simp at hb;omega))
 have B2:=BL2 _ H6
 clear N4 R4 R3 NB RB N5 R5 G5 G5' G4 G3 H3 H4 C6 BL BL2
 go_wp2_with fail
 generalize ((((w5.setCell ⟨w2.heap.size,0,none⟩ (.int .i64 3)).setCell ⟨w2.heap.size,1,none⟩ (.float .f64 x)).setCell ⟨w2.heap.size,2,none⟩ (.string ⟨#[]⟩)).setCell ⟨w2.heap.size,3,none⟩ (.int .i64 0))=w6 at *
 refine B2.mono ?_
 rintro e w7 ⟨rfl,p7⟩
 have H7:=H6.pur p7
 have N7:=bk_pur N6 p7
 have R7:=bk_pur R6 p7
 have G7:=G6.pur p7
 have n0:=bk_cell N7 0 _ rfl
 have n1:=bk_cell N7 1 _ rfl
 have n2:=bk_cell N7 2 _ rfl
 have n3:=bk_cell N7 3 _ rfl
 have n4:=bk_cell N7 4 _ rfl
 have n5:=bk_cell N7 5 _ rfl
 have n6:=bk_cell N7 6 _ rfl
 have n7:=bk_cell N7 7 _ rfl
 obtain ⟨⟨r0,s0⟩,⟨r1,s1⟩,⟨r2,s2⟩,⟨r3,s3⟩,⟨r4,s4⟩,⟨r5,s5⟩,⟨r6,s6⟩,⟨r7,s7⟩,R8,C8⟩:=jn8 (.int .i64 3) (.float .f64 x) (.string ⟨#[]⟩) (.int .i64 0) (.bool false) (.slice none 0 0) (.slice none 0 0) (.bool false) R7
 have HF:=Lib.hid (And.intro R8 (And.intro (H7.chg C8 (by simp;omega)) (G7.next C8 (fun b hb=>.inr (by simp at hb;omega)))))
 clear B2 H6 R6 G6 N6 p7 H7 N7 R7 G7 R8 C8 a0 b0 a1 b1 a2 b2 a3 b3
 go_wp2
 refine bodyPost_ret (results_cell_row rfl _ _ w.heap.size 83 _ (0,0) _ rfl HF.out.1 Tryz.underlying83 rfl (by kernel_rfl)) rfl ⟨rfl,HF.out.2⟩
end Li
namespace Li
theorem jn_info:(Tryz.prog.info? 83).map (fun i=>(i.zero.map (·.cells.size),i.size,i.bytes))=some (some 8,8,104):=by kernel_rfl
theorem len8 {l:List Value} (h:l.length=8):∃ x0 x1 x2 x3 x4 x5 x6 x7,l=[x0,x1,x2,x3,x4,x5,x6,x7]:=by
 match l,h with
 | [x0,x1,x2,x3,x4,x5,x6,x7],_=>exact ⟨x0,x1,x2,x3,x4,x5,x6,x7,rfl⟩
def cat (c:Nat→List Value) (n:Nat):List Value:=(List.range n).flatMap c
theorem cat_succ (c:Nat→List Value) (n:Nat):cat c (n + 1)=cat c n ++ c n:=by
 unfold cat
 rw [List.range_succ,List.flatMap_append]
 simp
theorem pur_low {w0 w w':World} {S:List Nat} (hp:Pur w0 w) (hc:Chg S w w') (hS:∀ b∈S,w0.heap.size≤b):Pur w0 w' :=
 ⟨hc.os.trans hp.os,hc.tape.trans hp.tape,hc.output.trans hp.output,Nat.le_trans hp.size hc.size,fun k hk=>(hc.block k (Nat.lt_of_lt_of_le hk hp.size) (fun hm=>by have:=hS k hm;omega)).trans (hp.block k hk)⟩
theorem many_arr {w0 w:World} {p:Nat} {l:List UInt8} {i n:Nat} {deep:Int} (c:Nat→List Value) (s t:Nat→Nat) (h:JR w p l i) (hp0:Pur w0 w) (hpl:w0.heap.size≤p) (hn:0 < n) (hn2:n≤1000) (hi:i≤800000) (hs0:s 0=i + 1) (hb1:noB (pk l (i + 1))) (he1:pk l (i + 1)≠93)
   (hc:∀ j,j < n→(c j).length=8∧∀ u∈c j,u.oneCell'=true) (hst:∀ j,j < n→s j≤t j∧t j≤800000) (hsep:∀ j,j + 1 < n→pk l (t j)=44∧s (j + 1)=t j + 1) (hend:pk l (t (n - 1))=93)
   (V:∀ j,j < n→∀ w',Pur w0 w'→JR w' p l (s j)→Calls Tryz.prog 40 #[.pointer (some ⟨p,0,none⟩),.int .i64 deep] w' (Val w' p l (t j) (c j).toArray)) :
   Calls Tryz.prog 92 #[.pointer (some ⟨p,0,none⟩),.bool true,.int .i64 deep] w fun e w'=>∃ pv,e=.returned (.agg #[.int .i64 0,.float .f64 0,.string ⟨#[]⟩,.int .i64 0,.bool true,.slice none 0 0,pv,.bool true])∧JR w' p l (t (n - 1) + 1)∧Chg [p] w w'∧w'.ownsRow w.heap.size 83 8 pv n (cat c n):=by
 obtain ⟨i0,hi0,hz⟩:=Option.map_eq_some_iff.1 jn_info
 simp only [Prod.mk.injEq] at hz
 obtain ⟨hz0,hz1,hz2⟩:=hz
 obtain ⟨z0,hz0,hzs⟩:=Option.map_eq_some_iff.1 hz0
 have X:=h.seti (i + 1) ((i:Int) + 1) (by omega) (by omega)
 have hsA:(w.setCell ⟨p,1,none⟩ (.int .i64 ((i:Int) + 1))).heap.size=w.heap.size:=by simp [World.setCell]
 have RB:=bk_alloc (bk_new (w.setCell ⟨p,1,none⟩ (.int .i64 ((i:Int) + 1))) (.cells #[.int .i64 0,.float .f64 0,.string ⟨#[]⟩,.int .i64 0,.bool false,.slice none 0 0,.slice none 0 0,.bool false] 83)) (.cells #[.int .i64 0,.float .f64 0,.string ⟨#[]⟩,.int .i64 0,.bool true,.slice none 0 0,.slice none 0 0,.bool true] 83)
 have hsz1:((w.setCell ⟨p,1,none⟩ (.int .i64 ((i:Int) + 1))).alloc (.cells #[.int .i64 0,.float .f64 0,.string ⟨#[]⟩,.int .i64 0,.bool false,.slice none 0 0,.slice none 0 0,.bool false] 83)).heap.size=w.heap.size + 1:=by rw [← hsA];exact Array.size_push _
 have NB:=bk_new ((w.setCell ⟨p,1,none⟩ (.int .i64 ((i:Int) + 1))).alloc (.cells #[.int .i64 0,.float .f64 0,.string ⟨#[]⟩,.int .i64 0,.bool false,.slice none 0 0,.slice none 0 0,.bool false] 83)) (.cells #[.int .i64 0,.float .f64 0,.string ⟨#[]⟩,.int .i64 0,.bool true,.slice none 0 0,.slice none 0 0,.bool true] 83)
 rw [hsz1] at NB
 rw [hsA] at RB
 have hsz2:(((w.setCell ⟨p,1,none⟩ (.int .i64 ((i:Int) + 1))).alloc (.cells #[.int .i64 0,.float .f64 0,.string ⟨#[]⟩,.int .i64 0,.bool false,.slice none 0 0,.slice none 0 0,.bool false] 83)).alloc (.cells #[.int .i64 0,.float .f64 0,.string ⟨#[]⟩,.int .i64 0,.bool true,.slice none 0 0,.slice none 0 0,.bool true] 83)).heap.size=w.heap.size + 2:=by rw [show w.heap.size + 2=w.heap.size + 1 + 1 from rfl,← hsz1];exact Array.size_push _
 have P1:Pur (w.setCell ⟨p,1,none⟩ (.int .i64 ((i:Int) + 1))) (((w.setCell ⟨p,1,none⟩ (.int .i64 ((i:Int) + 1))).alloc (.cells #[.int .i64 0,.float .f64 0,.string ⟨#[]⟩,.int .i64 0,.bool false,.slice none 0 0,.slice none 0 0,.bool false] 83)).alloc (.cells #[.int .i64 0,.float .f64 0,.string ⟨#[]⟩,.int .i64 0,.bool true,.slice none 0 0,.slice none 0 0,.bool true] 83)):=((Pur.refl _).alloc _).alloc _
 have hpw:=bk_lt h.own
 have c1:=(h.pur (((Pur.refl w).alloc (.cells #[.int .i64 0,.float .f64 0,.string ⟨#[]⟩,.int .i64 0,.bool false,.slice none 0 0,.slice none 0 0,.bool false] 83)).alloc (.cells #[.int .i64 0,.float .f64 0,.string ⟨#[]⟩,.int .i64 0,.bool true,.slice none 0 0,.slice none 0 0,.bool true] 83))).c1
 have f1:=(h.pur (((Pur.refl w).alloc (.cells #[.int .i64 0,.float .f64 0,.string ⟨#[]⟩,.int .i64 0,.bool false,.slice none 0 0,.slice none 0 0,.bool false] 83)).alloc (.cells #[.int .i64 0,.float .f64 0,.string ⟨#[]⟩,.int .i64 0,.bool true,.slice none 0 0,.slice none 0 0,.bool true] 83))).f 1
 have wr1:IntKind.i64.wrap ((i:Int) + 1)=i + 1:=IntWalk.i64_in _ (by omega)
 have H1:=X.1.pur P1
 have G1:=X.2.pur P1
 have d0:(pk l (i + 1) == 93)=false:=beq_eq_false_iff_ne.2 he1
 have BL:=fun w' (H:JR w' p l (i + 1))=>blanks_no H hb1
 have PK:=fun w' (j:Nat) (H:JR w' p l j)=>peek_any H
 have PK1:=fun w' (H:JR w' p l (i + 1))=>peek_any H
 generalize pk l (i + 1)=u1 at *
 clear h X
 go_enter Tryz.func92,Tryz.ntmps92
 go_wp2_with fail
 generalize ((w.setCell ⟨p,1,none⟩ (.int .i64 ((i:Int) + 1))).alloc (.cells #[.int .i64 0,.float .f64 0,.string ⟨#[]⟩,.int .i64 0,.bool false,.slice none 0 0,.slice none 0 0,.bool false] 83)).alloc (.cells #[.int .i64 0,.float .f64 0,.string ⟨#[]⟩,.int .i64 0,.bool true,.slice none 0 0,.slice none 0 0,.bool true] 83)=w1 at *
 clear c1 f1
 refine (BL _ H1).mono ?_
 rintro e w2 ⟨rfl,p2⟩
 have H2:=H1.pur p2
 go_wp2_with fail
 refine (PK1 _ H2).mono ?_
 rintro e w3 ⟨rfl,p3⟩
 have H3:=H2.pur p3
 have G3:=G1.pur (p2.trans p3)
 have R3:=bk_pur RB (p2.trans p3)
 have N3:=bk_pur NB (p2.trans p3)
 have hs3:w.heap.size + 2≤w3.heap.size:=by have:=p2.size;have:=p3.size;omega
 clear BL PK1 H1 H2 G1 RB NB P1 p2 p3 wr1
 go_wp2_with fail
 go_loopw [] (fun wr=>∃ (j:Nat) (pv:Value),j < n∧JR wr p l (s j)∧Chg [p] w wr∧wr.heap[w.heap.size]?=some (.cells #[.int .i64 0,.float .f64 0,.string ⟨#[]⟩,.int .i64 0,.bool false,.slice none 0 0,.slice none 0 0,.bool false] 83 (0,0))∧wr.heap[w.heap.size + 1]?=some (.cells #[.int .i64 0,.float .f64 0,.string ⟨#[]⟩,.int .i64 0,.bool true,.slice none 0 0,pv,.bool true] 83 (0,0))∧wr.ownsRow (w.heap.size + 2) 83 8 pv j (cat c j)∧w.heap.size + 2≤wr.heap.size) (fun wr=>1000001 - posOf p wr)
 case atStart=>exact ⟨0,.slice none 0 0,hn,by rw [hs0];exact H3,G3,R3,N3,World.ownsRow_nil _ _ _ _,hs3⟩
 case round =>
   obtain ⟨j,pv,hj,H,G,RB,NB,hrow,hsz⟩:=hrel
   obtain ⟨pa,pc,hpv⟩:=row_shape hrow
   subst hpv
   have hpos0:=H.c1
   have hp0w:=pur_low hp0 G (by intro b hb;simp at hb;omega)
   obtain ⟨hc8,hc1⟩:=hc j hj
   obtain ⟨hsj,htj⟩:=hst j hj
   have VJ:=fun w' (q:Pur wr.drew w')=>V j hj w' (hp0w.trans ((Pur.refl wr).drew.trans q)) (H.pur ((Pur.refl wr).drew.trans q))
   obtain ⟨x0,x1,x2,x3,x4,x5,x6,x7,hx⟩:=len8 hc8
   rw [hx] at VJ hc1
   have CT:=Lib.hid (show cat c (j + 1)=cat c j ++ [x0,x1,x2,x3,x4,x5,x6,x7] by rw [cat_succ,hx])
   clear hx hc8
   simp only [List.mem_cons,List.not_mem_nil,or_false,forall_eq_or_imp,forall_eq] at hc1
   obtain ⟨o0,o1,o2,o3,o4,o5,o6,o7⟩:=hc1
   have k6:wr.drew.cell? ⟨w.heap.size + 1,6,none⟩=some (.slice pa j pc):=bk_cell (bk_drew NB) 6 _ rfl
   go_wp2_with fail
   refine wp_region_until (T:=fun w'=>w'.cell? ⟨w.heap.size + 1,6,none⟩=some (.slice pa j pc)) 7 (by kernel_rfl) k6 (fun hT=>?_)
   refine wpAnyU_take (i:=0) (v:=?vu8) rfl (by kernel_rfl) (by kernel_rfl) (by kernel_rfl) (by kernel_rfl) (by kernel_rfl) (fun _ _ _ h=>h) (Or.inl ⟨by rfl,?hu8⟩) (by assumption) ?ru8
   case hu8=>(intro w9 hSw;(try dsimp only at hSw);go_simp;(try with_reducible rfl))
   simp only [Act.put,List.setIfInBounds_toArray,List.set_cons_zero,List.set_cons_succ]
   refine wpAnyU_take (i:=1) (v:=?vu9) rfl (by kernel_rfl) (by kernel_rfl) (by kernel_rfl) (by kernel_rfl) (by kernel_rfl) (fun _ _ _ h=>h) (Or.inl ⟨by rfl,?hu9⟩) (by assumption) ?ru9
   case hu9=>(intro w9 hSw;(try dsimp only at hSw);go_simp;(try with_reducible rfl))
   simp only [Act.put,List.setIfInBounds_toArray,List.set_cons_zero,List.set_cons_succ]
   refine wpAnyU_take (i:=2) (v:=?vu10) rfl (by kernel_rfl) (by kernel_rfl) (by kernel_rfl) (by kernel_rfl) (by kernel_rfl) (fun _ _ _ h=>h) (Or.inl ⟨by rfl,?hu10⟩) (by assumption) ?ru10
   case hu10=>(intro w9 hSw;(try dsimp only at hSw);go_simp;(try with_reducible rfl))
   simp only [Act.put,List.setIfInBounds_toArray,List.set_cons_zero,List.set_cons_succ]
   refine wpAnyU_take (i:=3) (v:=?vu11) rfl (by kernel_rfl) (by kernel_rfl) (by kernel_rfl) (by kernel_rfl) (by kernel_rfl) (fun _ _ _ h=>h) (Or.inl ⟨by rfl,?hu11⟩) (by assumption) ?ru11
   case hu11=>(intro w9 hSw;(try dsimp only at hSw);go_simp;(try with_reducible rfl))
   simp only [Act.put,List.setIfInBounds_toArray,List.set_cons_zero,List.set_cons_succ]
   refine wpAnyU_next (i:=4) (by kernel_rfl) rfl (fun K hK=>?_)
   go_simp
   refine (VJ _ (Pur.refl _)).mono ?_
   rintro e wv ⟨rfl,Hv,Gv⟩
   have Nv:=bk_chg (bk_drew NB) Gv (by simp;omega)
   have Rv:=bk_chg (bk_drew RB) Gv (by simp;omega)
   have rowv:=row_chg hrow.drew Gv (fun g hg hm=>by have:=(hrow.lt g hg).1;simp at hm;omega)
   have hsv:=Gv.size
   have hdz:wr.drew.heap.size=wr.heap.size:=rfl
   have Gv:=G.drew.trans Gv
   refine hK.out _ _ ?_ (fun hT=>?_)
   clear hK K
   try simp only [Act.put,List.setIfInBounds_toArray,List.set_cons_zero,List.set_cons_succ]
   · exact bk_cell Nv 6 _ rfl
   refine wpAnyU_next (i:=5) (by kernel_rfl) rfl (fun K hK=>?_)
   go_simp
   have Na:=bk_alloc Nv (.cells #[x0,x1,x2,x3,x4,x5,x6,x7] 83)
   have Ra:=bk_alloc Rv (.cells #[x0,x1,x2,x3,x4,x5,x6,x7] 83)
   have rowa:=rowv.alloc (.cells #[x0,x1,x2,x3,x4,x5,x6,x7] 83)
   have NX:=bk_new wv (.cells #[x0,x1,x2,x3,x4,x5,x6,x7] 83)
   have Pa:Pur wv (wv.alloc (.cells #[x0,x1,x2,x3,x4,x5,x6,x7] 83)):=(Pur.refl wv).alloc _
   have Ha:=Hv.pur Pa
   have Ga:=Gv.pur Pa
   have hsa:=Pa.size
   refine hK.out _ _ ?_ (fun hT=>?_)
   clear hK K
   try simp only [Act.put,List.setIfInBounds_toArray,List.set_cons_zero,List.set_cons_succ]
   · exact bk_cell Na 6 _ rfl
   refine wpAnyU_next (i:=6) (by kernel_rfl) rfl (fun K hK=>?_)
   refine step_append_lies _ (by rfl) _ _ _ (by rfl) (w.heap.size + 2) 83 i0 z0 8 104 Tryz.underlying81 hi0 hz0 hz1 hz2 hzs (by omega) (.slice pa j pc) j (cat c j) (by rfl) rowa ⟨wv.heap.size,0,none⟩ 1 1 [x0,x1,x2,x3,x4,x5,x6,x7] (by rfl) (by rfl) (World.news_of_block (cs:=#[x0,x1,x2,x3,x4,x5,x6,x7]) (t:=83) (fr:=(0,0)) NX) (by simp [o0,o1,o2,o3,o4,o5,o6,o7]) (by omega) (by unfold maxLen;omega) (by omega) (by omega) (wv.heap.size + 1) (by simp) ?_
   intro gg cap w11 hown11 hgrow hat hlt11
   have hrl:∀ g,(Value.slice pa j pc).ownBlock=some g→w.heap.size + 2≤g:=fun g hg=>(hrow.lt g hg).1
   have N11:=(hgrow.block (w.heap.size + 1) (bk_lt Na) (fun e=>by have:=hrl _ e.symm;omega)).trans Na
   have R11:=(hgrow.block w.heap.size (bk_lt Ra) (fun e=>by have:=hrl _ e.symm;omega)).trans Ra
   have hpl2:p < (wv.alloc (.cells #[x0,x1,x2,x3,x4,x5,x6,x7] 83)).heap.size:=bk_lt Ha.own
   have H11:JR w11 p l (t j):=⟨(hgrow.block p hpl2 (fun e=>by have:=hrl _ e.symm;omega)).trans Ha.own,Ha.len,Ha.le⟩
   have G11:=Ga.grown hgrow (fun b hb=>.inr (by have:=hrl b hb;omega))
   have hs11:=hgrow.size
   refine hK.out _ _ ?_ (fun hT=>?_)
   clear hK K
   try simp only [Act.put,List.setIfInBounds_toArray,List.set_cons_zero,List.set_cons_succ]
   · exact bk_cell N11 6 _ rfl
   refine wpAnyU_tail 7 (by kernel_rfl) ?_
   simp only [List.drop_succ_cons,List.drop_zero]
   obtain ⟨⟨f6,q6⟩,N12,C12⟩:=set1 (cs':=#[.int .i64 0,.float .f64 0,.string ⟨#[]⟩,.int .i64 0,.bool true,.slice none 0 0,.slice (some ⟨gg,0,none⟩) (j + 1) cap,.bool true]) 6 (.slice pa j pc) (.slice (some ⟨gg,0,none⟩) (j + 1) cap) N11 rfl rfl
   have R12:=bk_chg R11 C12 (by simp)
   have H12:=H11.chg C12 (by simp;omega)
   have G12:=G11.next C12 (fun b hb=>.inr (by simp at hb;omega))
   have hgg:w.heap.size + 2≤gg:=by
     rcases hat with e | e
     · exact hrl gg e
     · omega
   have row12:=row_chg hown11 C12 (fun g hg hm=>by simp [Value.ownBlock] at hg;subst hg;simp at hm;omega)
   have hs12:=C12.size
   clear hT Na Ra rowa NX Pa Ha Ga Nv Rv rowv Gv Hv N11 R11 H11 G11 hown11 hgrow hat RB NB H G hrow VJ
   go_wp2_with fail
   generalize w11.setCell ⟨w.heap.size + 1,6,none⟩ (.slice (some ⟨gg,0,none⟩) (j + 1) cap)=w12 at *
   have PJ:=PK w12 (t j) H12
   by_cases hlast:j + 1 < n
   · obtain ⟨e1,e2⟩:=hsep j hlast
     rw [e1] at PJ
     have MU:=fun w' (Hx:JR w' p l (t j))=>must_ok Hx e1 (by omega)
     refine PJ.mono ?_
     rintro e w13 ⟨rfl,p13⟩
     have MU:=MU _ (H12.pur p13)
     have R13:=bk_pur R12 p13
     have N13:=bk_pur N12 p13
     have G13:=G12.pur p13
     have row13:=row_pur row12 p13
     have hs13:=p13.size
     clear PJ R12 N12 G12 row12
     go_wp2_with fail
     refine MU.mono ?_
     rintro e w14 ⟨rfl,H14,G14⟩
     have R14:=bk_chg R13 G14 (by simp;omega)
     have N14:=bk_chg N13 G14 (by simp;omega)
     have row14:=row_chg row13 G14 (fun g hg hm=>by have:=(row13.lt g hg).1;simp at hm;omega)
     have GF:=G13.trans G14
     have hs14:=G14.size
     have hpos1:=H14.c1
     rw [← e2] at H14
     clear MU R13 N13 G13 row13 G14 H12
     go_wp2
     go_roundw
     case rel=>exact ⟨j + 1,_,hlast,H14,GF,R14,N14,by rw [CT.out];exact row14,by omega⟩
     case measure=>simp only [posOf,hpos0,hpos1];omega
   · obtain rfl:n=j + 1:=by omega
     rw [Nat.add_sub_cancel] at hend
     rw [hend] at PJ
     refine PJ.mono ?_
     rintro e w13 ⟨rfl,p13⟩
     have H13:=H12.pur p13
     have R13:=bk_pur R12 p13
     have N13:=bk_pur N12 p13
     have G13:=G12.pur p13
     have row13:=row_pur row12 p13
     have hs13:=p13.size
     have c1:=H13.c1
     have f1:=H13.f 1
     have X:=H13.seti (t j + 1) ((t j:Int) + 1) (by omega) (by omega)
     have R14:=bk_chg R13 X.2 (by simp;omega)
     have N14:=bk_chg N13 X.2 (by simp;omega)
     have row14:=row_chg row13 X.2 (fun g hg hm=>by have:=(row13.lt g hg).1;simp at hm;omega)
     have G14:=G13.trans X.2
     have n0:=bk_cell N14 0 _ rfl
     have n1:=bk_cell N14 1 _ rfl
     have n2:=bk_cell N14 2 _ rfl
     have n3:=bk_cell N14 3 _ rfl
     have n4:=bk_cell N14 4 _ rfl
     have n5:=bk_cell N14 5 _ rfl
     have n6:=bk_cell N14 6 _ rfl
     have n7:=bk_cell N14 7 _ rfl
     have hwr:IntKind.i64.wrap ((t j:Int) + 1)=t j + 1:=IntWalk.i64_in _ (by omega)
     obtain ⟨⟨r0,s0⟩,⟨r1,s1⟩,⟨r2,s2⟩,⟨r3,s3⟩,⟨r4,s4⟩,⟨r5,s5⟩,⟨r6,s6⟩,⟨r7,s7⟩,R15,C15⟩:=jn8 (.int .i64 0) (.float .f64 0) (.string ⟨#[]⟩) (.int .i64 0) (.bool true) (.slice none 0 0) (.slice (some ⟨gg,0,none⟩) (j + 1) cap) (.bool true) R14
     have HF:=Lib.hid (And.intro R15 (And.intro (X.1.chg C15 (by simp;omega)) (And.intro (G14.next C15 (fun b hb=>.inr (by simp at hb;omega))) (row_chg row14 C15 (fun g hg hm=>by have:=(row14.lt g hg).1;simp at hm;omega)))))
     clear PJ H12 R12 N12 G12 row12 H13 R13 N13 G13 row13 X R14 N14 row14 G14 R15 C15
     go_wp2
     refine bodyPost_ret (results_cell_row rfl _ _ w.heap.size 83 _ (0,0) _ rfl HF.out.1 Tryz.underlying83 rfl (by kernel_rfl)) rfl ⟨_,rfl,by rw [Nat.add_sub_cancel];exact HF.out.2.1,HF.out.2.2.1,by rw [CT.out];exact row_low HF.out.2.2.2 (by omega)⟩
end Li
namespace Li
theorem value_many {w0 w:World} {p:Nat} {l:List UInt8} {i j:Nat} {deep:Int} {u:Int} (Q:Nat→World→List Value→Prop) (h:JR w p l i) (hp0:Pur w0 w) (hpl:w0.heap.size≤p) (hu:pk l i=u) (hu2:u=91∨u=123) (hd0:0≤deep) (hd:deep < 48) (hb:noB (pk l j)) (hi:i≤800000)
   (hQ:∀ B w1 w2 S cs,Q B w1 cs→Chg S w1 w2→(∀ b∈S,b < B)→Q B w2 cs) (hQl:∀ B B' w1 cs,Q B w1 cs→B'≤B→Q B' w1 cs)
   (M:∀ w',Pur w0 w'→JR w' p l i→Calls Tryz.prog 92 #[.pointer (some ⟨p,0,none⟩),.bool (u == 91),.int .i64 (deep + 1)] w' fun e w''=>∃ ka kn kc pa pn pc,e=.returned (.agg #[.int .i64 0,.float .f64 0,.string ⟨#[]⟩,.int .i64 0,.bool (u == 91),.slice ka kn kc,.slice pa pn pc,.bool true])∧JR w'' p l j∧Chg [p] w' w''∧Q w'.heap.size w'' [.slice ka kn kc,.slice pa pn pc]) :
   Calls Tryz.prog 40 #[.pointer (some ⟨p,0,none⟩),.int .i64 deep] w fun e w'=>∃ ka kn kc pa pn pc,e=.returned (.agg #[.int .i64 0,.float .f64 0,.string ⟨#[]⟩,.int .i64 0,.bool (u == 91),.slice ka kn kc,.slice pa pn pc,.bool true])∧JR w' p l j∧Chg [p] w w'∧Q w.heap.size w' [.slice ka kn kc,.slice pa pn pc]:=by
 have P1:Pur w (w.alloc (.cells #[.int .i64 0,.float .f64 0,.string ⟨#[]⟩,.int .i64 0,.bool false,.slice none 0 0,.slice none 0 0,.bool false] 83)):=(Pur.refl w).alloc _
 have RB:=bk_new w (.cells #[.int .i64 0,.float .f64 0,.string ⟨#[]⟩,.int .i64 0,.bool false,.slice none 0 0,.slice none 0 0,.bool false] 83)
 have H1:=h.pur P1
 have hpw:=bk_lt h.own
 have hneR:w.heap.size≠p:=by omega
 have BL:=blanks_no H1 (by rw [hu];unfold noB;omega)
 have PK:=fun w' (H:JR w' p l i)=>peek_any H
 rw [hu] at PK
 have BL2:=fun w' (H:JR w' p l j)=>blanks_no H hb
 have hp1:=hp0.trans P1
 have d0:decide ((48:Int)≤deep)=false:=decide_eq_false (by omega)
 have wr1:IntKind.i64.wrap (deep + 1)=deep + 1:=IntWalk.i64_in _ (by omega)
 have HQ:=Lib.hid hQ
 have HQl:=Lib.hid hQl
 clear h hb hu hQ hQl
 rcases hu2 with rfl | rfl
 · rw [show ((91:Int) == 91)=true from rfl] at M ⊢
   go_enter Tryz.func40,Tryz.ntmps40
   go_wp2_with fail
   have hs1:(w.alloc (.cells #[.int .i64 0,.float .f64 0,.string ⟨#[]⟩,.int .i64 0,.bool false,.slice none 0 0,.slice none 0 0,.bool false] 83)).heap.size=w.heap.size + 1:=Array.size_push _
   generalize w.alloc (.cells #[.int .i64 0,.float .f64 0,.string ⟨#[]⟩,.int .i64 0,.bool false,.slice none 0 0,.slice none 0 0,.bool false] 83)=w1 at *
   refine BL.mono ?_
   rintro e w2 ⟨rfl,p2⟩
   have hs2:=p2.size
   have P3:Pur w2 (w2.alloc (.cells #[.int .i64 0,.float .f64 0,.string ⟨#[]⟩,.int .i64 0,.bool false,.slice none 0 0,.slice none 0 0,.bool false] 83)):=(Pur.refl w2).alloc _
   have NB:=bk_new w2 (.cells #[.int .i64 0,.float .f64 0,.string ⟨#[]⟩,.int .i64 0,.bool false,.slice none 0 0,.slice none 0 0,.bool false] 83)
   have H3:=(H1.pur p2).pur P3
   have G3:Chg [p] w (w2.alloc (.cells #[.int .i64 0,.float .f64 0,.string ⟨#[]⟩,.int .i64 0,.bool false,.slice none 0 0,.slice none 0 0,.bool false] 83)):=Chg.of_pur ((P1.trans p2).trans P3)
   have R3:=bk_pur RB (p2.trans P3)
   have p13:=p2.trans P3
   have hs3:(w2.alloc (.cells #[.int .i64 0,.float .f64 0,.string ⟨#[]⟩,.int .i64 0,.bool false,.slice none 0 0,.slice none 0 0,.bool false] 83)).heap.size=w2.heap.size + 1:=Array.size_push _
   have hneN:w2.heap.size≠p:=by omega
   have hneRN:w.heap.size≠w2.heap.size:=by omega
   go_wp2_with fail
   generalize w2.alloc (.cells #[.int .i64 0,.float .f64 0,.string ⟨#[]⟩,.int .i64 0,.bool false,.slice none 0 0,.slice none 0 0,.bool false] 83)=w3 at *
   refine (PK _ H3).mono ?_
   rintro e w4 ⟨rfl,p4⟩
   have H4:=H3.pur p4
   have G4:=G3.pur p4
   have N4:=bk_pur NB p4
   have R4:=bk_pur R3 p4
   have hs4:=p4.size
   have M4:=M _ (hp1.trans (p13.trans p4)) H4
   clear M PK
   go_wp2_with fail
   refine M4.mono ?_
   rintro e w5 ⟨ka,kn,kc,pa,pn,pc,rfl,H5,G5,q5⟩
   have N5:=bk_chg N4 G5 (by simp;omega)
   have R5:=bk_chg R4 G5 (by simp;omega)
   have G5':=G4.trans G5
   obtain ⟨⟨a0,b0⟩,⟨a1,b1⟩,⟨a2,b2⟩,⟨a3,b3⟩,⟨a4,b4⟩,⟨a5,b5⟩,⟨a6,b6⟩,⟨a7,b7⟩,N6,C6⟩:=jn8 (.int .i64 0) (.float .f64 0) (.string ⟨#[]⟩) (.int .i64 0) (.bool true) (.slice ka kn kc) (.slice pa pn pc) (.bool true) N5
   have H6:=H5.chg C6 (by simp;omega)
   have R6:=bk_chg R5 C6 (by simp;omega)
   have G6:=G5'.next C6 (fun b hb=>.inr (by simp at hb;omega))
   have q6:=HQ.out _ _ _ _ _ q5 C6 (by intro b hb;simp at hb;omega)
   have B2:=BL2 _ H6
   clear N4 R4 R3 NB N5 R5 G5 G5' G4 G3 H3 H4 C6 BL2 M4 q5
   go_wp2_with fail
   generalize ((((((((w5.setCell ⟨w2.heap.size,0,none⟩ (.int .i64 0)).setCell ⟨w2.heap.size,1,none⟩ (.float .f64 0)).setCell ⟨w2.heap.size,2,none⟩ (.string ⟨#[]⟩)).setCell ⟨w2.heap.size,3,none⟩ (.int .i64 0)).setCell ⟨w2.heap.size,4,none⟩ (.bool true)).setCell ⟨w2.heap.size,5,none⟩ (.slice ka kn kc)).setCell ⟨w2.heap.size,6,none⟩ (.slice pa pn pc)).setCell ⟨w2.heap.size,7,none⟩ (.bool true))=w6 at *
   refine B2.mono ?_
   rintro e w7 ⟨rfl,p7⟩
   have H7:=H6.pur p7
   have N7:=bk_pur N6 p7
   have R7:=bk_pur R6 p7
   have G7:=G6.pur p7
   have q7:=HQ.out _ _ _ _ _ q6 (Chg.of_pur (S:=[]) p7) (by intro b hb;cases hb)
   have n0:=bk_cell N7 0 _ rfl
   have n1:=bk_cell N7 1 _ rfl
   have n2:=bk_cell N7 2 _ rfl
   have n3:=bk_cell N7 3 _ rfl
   have n4:=bk_cell N7 4 _ rfl
   have n5:=bk_cell N7 5 _ rfl
   have n6:=bk_cell N7 6 _ rfl
   have n7:=bk_cell N7 7 _ rfl
   obtain ⟨⟨r0,s0⟩,⟨r1,s1⟩,⟨r2,s2⟩,⟨r3,s3⟩,⟨r4,s4⟩,⟨r5,s5⟩,⟨r6,s6⟩,⟨r7,s7⟩,R8,C8⟩:=jn8 (.int .i64 0) (.float .f64 0) (.string ⟨#[]⟩) (.int .i64 0) (.bool true) (.slice ka kn kc) (.slice pa pn pc) (.bool true) R7
   have HF:=Lib.hid (And.intro R8 (And.intro (H7.chg C8 (by simp;omega)) (And.intro (G7.next C8 (fun b hb=>.inr (by simp at hb;omega))) (HQl.out _ w.heap.size _ _ (HQ.out _ _ _ _ _ q7 C8 (by intro b hb;simp at hb;omega)) (by omega)))))
   clear B2 H6 R6 G6 N6 p7 H7 N7 R7 G7 R8 C8 q6 q7 a0 b0 a1 b1 a2 b2 a3 b3 a4 b4 a5 b5 a6 b6 a7 b7
   go_wp2
   refine bodyPost_ret (results_cell_row rfl _ _ w.heap.size 83 _ (0,0) _ rfl HF.out.1 Tryz.underlying83 rfl (by kernel_rfl)) rfl ⟨_,_,_,_,_,_,rfl,HF.out.2⟩
 · rw [show ((123:Int) == 91)=false from rfl] at M ⊢
   go_enter Tryz.func40,Tryz.ntmps40
   go_wp2_with fail
   have hs1:(w.alloc (.cells #[.int .i64 0,.float .f64 0,.string ⟨#[]⟩,.int .i64 0,.bool false,.slice none 0 0,.slice none 0 0,.bool false] 83)).heap.size=w.heap.size + 1:=Array.size_push _
   generalize w.alloc (.cells #[.int .i64 0,.float .f64 0,.string ⟨#[]⟩,.int .i64 0,.bool false,.slice none 0 0,.slice none 0 0,.bool false] 83)=w1 at *
   refine BL.mono ?_
   rintro e w2 ⟨rfl,p2⟩
   have hs2:=p2.size
   have P3:Pur w2 (w2.alloc (.cells #[.int .i64 0,.float .f64 0,.string ⟨#[]⟩,.int .i64 0,.bool false,.slice none 0 0,.slice none 0 0,.bool false] 83)):=(Pur.refl w2).alloc _
   have NB:=bk_new w2 (.cells #[.int .i64 0,.float .f64 0,.string ⟨#[]⟩,.int .i64 0,.bool false,.slice none 0 0,.slice none 0 0,.bool false] 83)
   have H3:=(H1.pur p2).pur P3
   have G3:Chg [p] w (w2.alloc (.cells #[.int .i64 0,.float .f64 0,.string ⟨#[]⟩,.int .i64 0,.bool false,.slice none 0 0,.slice none 0 0,.bool false] 83)):=Chg.of_pur ((P1.trans p2).trans P3)
   have R3:=bk_pur RB (p2.trans P3)
   have p13:=p2.trans P3
   have hs3:(w2.alloc (.cells #[.int .i64 0,.float .f64 0,.string ⟨#[]⟩,.int .i64 0,.bool false,.slice none 0 0,.slice none 0 0,.bool false] 83)).heap.size=w2.heap.size + 1:=Array.size_push _
   have hneN:w2.heap.size≠p:=by omega
   have hneRN:w.heap.size≠w2.heap.size:=by omega
   go_wp2_with fail
   generalize w2.alloc (.cells #[.int .i64 0,.float .f64 0,.string ⟨#[]⟩,.int .i64 0,.bool false,.slice none 0 0,.slice none 0 0,.bool false] 83)=w3 at *
   refine (PK _ H3).mono ?_
   rintro e w4 ⟨rfl,p4⟩
   have H4:=H3.pur p4
   have G4:=G3.pur p4
   have N4:=bk_pur NB p4
   have R4:=bk_pur R3 p4
   have hs4:=p4.size
   have M4:=M _ (hp1.trans (p13.trans p4)) H4
   clear M PK
   go_wp2_with fail
   refine M4.mono ?_
   rintro e w5 ⟨ka,kn,kc,pa,pn,pc,rfl,H5,G5,q5⟩
   have N5:=bk_chg N4 G5 (by simp;omega)
   have R5:=bk_chg R4 G5 (by simp;omega)
   have G5':=G4.trans G5
   obtain ⟨⟨a0,b0⟩,⟨a1,b1⟩,⟨a2,b2⟩,⟨a3,b3⟩,⟨a4,b4⟩,⟨a5,b5⟩,⟨a6,b6⟩,⟨a7,b7⟩,N6,C6⟩:=jn8 (.int .i64 0) (.float .f64 0) (.string ⟨#[]⟩) (.int .i64 0) (.bool false) (.slice ka kn kc) (.slice pa pn pc) (.bool true) N5
   have H6:=H5.chg C6 (by simp;omega)
   have R6:=bk_chg R5 C6 (by simp;omega)
   have G6:=G5'.next C6 (fun b hb=>.inr (by simp at hb;omega))
   have q6:=HQ.out _ _ _ _ _ q5 C6 (by intro b hb;simp at hb;omega)
   have B2:=BL2 _ H6
   clear N4 R4 R3 NB N5 R5 G5 G5' G4 G3 H3 H4 C6 BL2 M4 q5
   go_wp2_with fail
   generalize ((((((((w5.setCell ⟨w2.heap.size,0,none⟩ (.int .i64 0)).setCell ⟨w2.heap.size,1,none⟩ (.float .f64 0)).setCell ⟨w2.heap.size,2,none⟩ (.string ⟨#[]⟩)).setCell ⟨w2.heap.size,3,none⟩ (.int .i64 0)).setCell ⟨w2.heap.size,4,none⟩ (.bool false)).setCell ⟨w2.heap.size,5,none⟩ (.slice ka kn kc)).setCell ⟨w2.heap.size,6,none⟩ (.slice pa pn pc)).setCell ⟨w2.heap.size,7,none⟩ (.bool true))=w6 at *
   refine B2.mono ?_
   rintro e w7 ⟨rfl,p7⟩
   have H7:=H6.pur p7
   have N7:=bk_pur N6 p7
   have R7:=bk_pur R6 p7
   have G7:=G6.pur p7
   have q7:=HQ.out _ _ _ _ _ q6 (Chg.of_pur (S:=[]) p7) (by intro b hb;cases hb)
   have n0:=bk_cell N7 0 _ rfl
   have n1:=bk_cell N7 1 _ rfl
   have n2:=bk_cell N7 2 _ rfl
   have n3:=bk_cell N7 3 _ rfl
   have n4:=bk_cell N7 4 _ rfl
   have n5:=bk_cell N7 5 _ rfl
   have n6:=bk_cell N7 6 _ rfl
   have n7:=bk_cell N7 7 _ rfl
   obtain ⟨⟨r0,s0⟩,⟨r1,s1⟩,⟨r2,s2⟩,⟨r3,s3⟩,⟨r4,s4⟩,⟨r5,s5⟩,⟨r6,s6⟩,⟨r7,s7⟩,R8,C8⟩:=jn8 (.int .i64 0) (.float .f64 0) (.string ⟨#[]⟩) (.int .i64 0) (.bool false) (.slice ka kn kc) (.slice pa pn pc) (.bool true) R7
   have HF:=Lib.hid (And.intro R8 (And.intro (H7.chg C8 (by simp;omega)) (And.intro (G7.next C8 (fun b hb=>.inr (by simp at hb;omega))) (HQl.out _ w.heap.size _ _ (HQ.out _ _ _ _ _ q7 C8 (by intro b hb;simp at hb;omega)) (by omega)))))
   clear B2 H6 R6 G6 N6 p7 H7 N7 R7 G7 R8 C8 q6 q7 a0 b0 a1 b1 a2 b2 a3 b3 a4 b4 a5 b5 a6 b6 a7 b7
   go_wp2
   refine bodyPost_ret (results_cell_row rfl _ _ w.heap.size 83 _ (0,0) _ rfl HF.out.1 Tryz.underlying83 rfl (by kernel_rfl)) rfl ⟨_,_,_,_,_,_,rfl,HF.out.2⟩
end Li
namespace Li
theorem string_info:(Tryz.prog.info? 9).map (fun i=>(i.zero.map (·.cells.size),i.size,i.bytes))=some (some 1,1,16):=by kernel_rfl
theorem many_obj {w0 w:World} {p:Nat} {l:List UInt8} {i k t:Nat} {deep:Int} (Q:Nat→World→List Value→Prop) (h:JR w p l i) (hp0:Pur w0 w) (hpl:w0.heap.size≤p) (hi:i + k + t≤700000)
   (hq:pk l (i + 1)=34) (hk:∀ j,j < k→pk l (i + 1 + 1 + j)≠34∧pk l (i + 1 + 1 + j)≠92∧32≤pk l (i + 1 + 1 + j)) (he:pk l (i + 1 + 1 + k)=34) (hc:pk l (i + 1 + k + 2)=58) (hend:pk l t=125)
   (hQ:∀ B w1 w2 S cs,Q B w1 cs→Chg S w1 w2→(∀ b∈S,b < B)→Q B w2 cs) (hQl:∀ B B' w1 cs,Q B w1 cs→B'≤B→Q B' w1 cs)
   (V:∀ w',Pur w0 w'→JR w' p l (i + 1 + k + 2 + 1)→Calls Tryz.prog 40 #[.pointer (some ⟨p,0,none⟩),.int .i64 deep] w' fun e w''=>∃ ka kn kc pa pn pc,e=.returned (.agg #[.int .i64 0,.float .f64 0,.string ⟨#[]⟩,.int .i64 0,.bool true,.slice ka kn kc,.slice pa pn pc,.bool true])∧JR w'' p l t∧Chg [p] w' w''∧Q w'.heap.size w'' [.slice ka kn kc,.slice pa pn pc]) :
   Calls Tryz.prog 92 #[.pointer (some ⟨p,0,none⟩),.bool false,.int .i64 deep] w fun e w'=>∃ g5 cap5 g9 cap9 ka kn kc pa pn pc,e=.returned (.agg #[.int .i64 0,.float .f64 0,.string ⟨#[]⟩,.int .i64 0,.bool false,.slice (some ⟨g5,0,none⟩) 1 cap5,.slice (some ⟨g9,0,none⟩) 1 cap9,.bool true])∧JR w' p l (t + 1)∧Chg [p] w w' ∧
     w'.ownsRow w.heap.size 9 1 (.slice (some ⟨g5,0,none⟩) 1 cap5) 1 [.string ⟨(sub l (2 * (i + 1 + 1)) (2 * (i + 1 + 1 + k))).toArray⟩]∧w'.ownsRow w.heap.size 83 8 (.slice (some ⟨g9,0,none⟩) 1 cap9) 1 [.int .i64 0,.float .f64 0,.string ⟨#[]⟩,.int .i64 0,.bool true,.slice ka kn kc,.slice pa pn pc,.bool true]∧Q w.heap.size w' [.slice ka kn kc,.slice pa pn pc]:=by
 obtain ⟨i0,hi0,hz⟩:=Option.map_eq_some_iff.1 jn_info
 simp only [Prod.mk.injEq] at hz
 obtain ⟨hz0,hz1,hz2⟩:=hz
 obtain ⟨z0,hz0,hzs⟩:=Option.map_eq_some_iff.1 hz0
 obtain ⟨i5,hi5,hy⟩:=Option.map_eq_some_iff.1 string_info
 simp only [Prod.mk.injEq] at hy
 obtain ⟨hy0,hy1,hy2⟩:=hy
 obtain ⟨y0,hy0,hys⟩:=Option.map_eq_some_iff.1 hy0
 have X:=h.seti (i + 1) ((i:Int) + 1) (by omega) (by omega)
 have hsA:(w.setCell ⟨p,1,none⟩ (.int .i64 ((i:Int) + 1))).heap.size=w.heap.size:=by simp [World.setCell]
 have RB:=bk_alloc (bk_new (w.setCell ⟨p,1,none⟩ (.int .i64 ((i:Int) + 1))) (.cells #[.int .i64 0,.float .f64 0,.string ⟨#[]⟩,.int .i64 0,.bool false,.slice none 0 0,.slice none 0 0,.bool false] 83)) (.cells #[.int .i64 0,.float .f64 0,.string ⟨#[]⟩,.int .i64 0,.bool false,.slice none 0 0,.slice none 0 0,.bool true] 83)
 have hsz1:((w.setCell ⟨p,1,none⟩ (.int .i64 ((i:Int) + 1))).alloc (.cells #[.int .i64 0,.float .f64 0,.string ⟨#[]⟩,.int .i64 0,.bool false,.slice none 0 0,.slice none 0 0,.bool false] 83)).heap.size=w.heap.size + 1:=by rw [← hsA];exact Array.size_push _
 have NB:=bk_new ((w.setCell ⟨p,1,none⟩ (.int .i64 ((i:Int) + 1))).alloc (.cells #[.int .i64 0,.float .f64 0,.string ⟨#[]⟩,.int .i64 0,.bool false,.slice none 0 0,.slice none 0 0,.bool false] 83)) (.cells #[.int .i64 0,.float .f64 0,.string ⟨#[]⟩,.int .i64 0,.bool false,.slice none 0 0,.slice none 0 0,.bool true] 83)
 rw [hsz1] at NB
 rw [hsA] at RB
 have hsz2:(((w.setCell ⟨p,1,none⟩ (.int .i64 ((i:Int) + 1))).alloc (.cells #[.int .i64 0,.float .f64 0,.string ⟨#[]⟩,.int .i64 0,.bool false,.slice none 0 0,.slice none 0 0,.bool false] 83)).alloc (.cells #[.int .i64 0,.float .f64 0,.string ⟨#[]⟩,.int .i64 0,.bool false,.slice none 0 0,.slice none 0 0,.bool true] 83)).heap.size=w.heap.size + 2:=by rw [show w.heap.size + 2=w.heap.size + 1 + 1 from rfl,← hsz1];exact Array.size_push _
 have P1:Pur (w.setCell ⟨p,1,none⟩ (.int .i64 ((i:Int) + 1))) (((w.setCell ⟨p,1,none⟩ (.int .i64 ((i:Int) + 1))).alloc (.cells #[.int .i64 0,.float .f64 0,.string ⟨#[]⟩,.int .i64 0,.bool false,.slice none 0 0,.slice none 0 0,.bool false] 83)).alloc (.cells #[.int .i64 0,.float .f64 0,.string ⟨#[]⟩,.int .i64 0,.bool false,.slice none 0 0,.slice none 0 0,.bool true] 83)):=((Pur.refl _).alloc _).alloc _
 have hpw:=bk_lt h.own
 have c1:=(h.pur (((Pur.refl w).alloc (.cells #[.int .i64 0,.float .f64 0,.string ⟨#[]⟩,.int .i64 0,.bool false,.slice none 0 0,.slice none 0 0,.bool false] 83)).alloc (.cells #[.int .i64 0,.float .f64 0,.string ⟨#[]⟩,.int .i64 0,.bool false,.slice none 0 0,.slice none 0 0,.bool true] 83))).c1
 have f1:=(h.pur (((Pur.refl w).alloc (.cells #[.int .i64 0,.float .f64 0,.string ⟨#[]⟩,.int .i64 0,.bool false,.slice none 0 0,.slice none 0 0,.bool false] 83)).alloc (.cells #[.int .i64 0,.float .f64 0,.string ⟨#[]⟩,.int .i64 0,.bool false,.slice none 0 0,.slice none 0 0,.bool true] 83))).f 1
 have wr1:IntKind.i64.wrap ((i:Int) + 1)=i + 1:=IntWalk.i64_in _ (by omega)
 have H1:=X.1.pur P1
 have G1:=X.2.pur P1
 have BL:=fun w' (H:JR w' p l (i + 1))=>blanks_no H (by rw [hq];decide)
 have PK1:=fun w' (H:JR w' p l (i + 1))=>peek_any H
 rw [hq] at PK1
 have TX:=fun w' (H:JR w' p l (i + 1))=>text_plain H hq hk he (by omega)
 have BC:=fun w' (H:JR w' p l (i + 1 + k + 2))=>blanks_no H (by rw [hc];decide)
 have MU:=fun w' (H:JR w' p l (i + 1 + k + 2))=>must_ok H hc (by omega)
 have PT:=fun w' (H:JR w' p l t)=>peek_any H
 rw [hend] at PT
 generalize sub l (2 * (i + 1 + 1)) (2 * (i + 1 + 1 + k))=tk at *
 have HQ:=Lib.hid hQ
 have HQl:=Lib.hid hQl
 have HP:=Lib.hid (And.intro hp0 hpl)
 clear h X hQ hQl hq hk he hc hend
 go_enter Tryz.func92,Tryz.ntmps92
 go_wp2_with fail
 generalize ((w.setCell ⟨p,1,none⟩ (.int .i64 ((i:Int) + 1))).alloc (.cells #[.int .i64 0,.float .f64 0,.string ⟨#[]⟩,.int .i64 0,.bool false,.slice none 0 0,.slice none 0 0,.bool false] 83)).alloc (.cells #[.int .i64 0,.float .f64 0,.string ⟨#[]⟩,.int .i64 0,.bool false,.slice none 0 0,.slice none 0 0,.bool true] 83)=w1 at *
 clear c1 f1
 refine (BL _ H1).mono ?_
 rintro e w2 ⟨rfl,p2⟩
 have H2:=H1.pur p2
 go_wp2_with fail
 refine (PK1 _ H2).mono ?_
 rintro e w3 ⟨rfl,p3⟩
 have H3:=H2.pur p3
 have G3:=G1.pur (p2.trans p3)
 have R3:=bk_pur RB (p2.trans p3)
 have N3:=bk_pur NB (p2.trans p3)
 have hs3:w.heap.size + 2≤w3.heap.size:=by have:=p2.size;have:=p3.size;omega
 clear PK1 H1 H2 G1 RB NB P1 p2 p3 wr1
 go_wp2_with fail
 go_loopw [] (fun wr=>wr=w3) (fun _=>0)
 case atStart=>rfl
 case round =>
   obtain rfl:=hrel
   have B3:=BL _ H3
   go_wp2_with fail
   refine B3.mono ?_
   rintro e w4 ⟨rfl,p4⟩
   have H4:=H3.pur p4
   have G4:=G3.pur p4
   have R4:=bk_pur R3 p4
   have N4:=bk_pur N3 p4
   have hs4:=p4.size
   have pd:=(Pur.refl w4).drew
   have TX4:=TX _ (H4.pur pd)
   have k5:w4.drew.cell? ⟨w.heap.size + 1,5,none⟩=some (.slice none 0 0):=bk_cell (bk_drew N4) 5 _ rfl
   clear BL B3 TX H3 G3 R3 N3 p4
   go_wp2_with fail
   refine wp_region_until (T:=fun w'=>w'.cell? ⟨w.heap.size + 1,5,none⟩=some (.slice none 0 0)) 6 (by kernel_rfl) k5 (fun hT=>?_)
   refine wpAnyU_take (i:=0) (v:=?vu12) rfl (by kernel_rfl) (by kernel_rfl) (by kernel_rfl) (by kernel_rfl) (by kernel_rfl) (fun _ _ _ h=>h) (Or.inl ⟨by rfl,?hu12⟩) (by assumption) ?ru12
   case hu12=>(intro w9 hSw;(try dsimp only at hSw);go_simp;(try with_reducible rfl))
   simp only [Act.put,List.setIfInBounds_toArray,List.set_cons_zero,List.set_cons_succ]
   refine wpAnyU_take (i:=1) (v:=?vu13) rfl (by kernel_rfl) (by kernel_rfl) (by kernel_rfl) (by kernel_rfl) (by kernel_rfl) (fun _ _ _ h=>h) (Or.inl ⟨by rfl,?hu13⟩) (by assumption) ?ru13
   case hu13=>(intro w9 hSw;(try dsimp only at hSw);go_simp;(try with_reducible rfl))
   simp only [Act.put,List.setIfInBounds_toArray,List.set_cons_zero,List.set_cons_succ]
   refine wpAnyU_take (i:=2) (v:=?vu14) rfl (by kernel_rfl) (by kernel_rfl) (by kernel_rfl) (by kernel_rfl) (by kernel_rfl) (fun _ _ _ h=>h) (Or.inl ⟨by rfl,?hu14⟩) (by assumption) ?ru14
   case hu14=>(intro w9 hSw;(try dsimp only at hSw);go_simp;(try with_reducible rfl))
   simp only [Act.put,List.setIfInBounds_toArray,List.set_cons_zero,List.set_cons_succ]
   refine wpAnyU_next (i:=3) (by kernel_rfl) rfl (fun K hK=>?_)
   go_simp
   refine TX4.mono ?_
   rintro e wv ⟨rfl,Hv,Gv⟩
   have Nv:=bk_chg (bk_drew N4) Gv (by simp;omega)
   have Rv:=bk_chg (bk_drew R4) Gv (by simp;omega)
   have hsv:=Gv.size
   have hdz:w4.drew.heap.size=w4.heap.size:=rfl
   have Gv:=G4.drew.trans Gv
   refine hK.out _ _ ?_ (fun hT=>?_)
   clear hK K
   try simp only [Act.put,List.setIfInBounds_toArray,List.set_cons_zero,List.set_cons_succ]
   · exact bk_cell Nv 5 _ rfl
   refine wpAnyU_next (i:=4) (by kernel_rfl) rfl (fun K hK=>?_)
   go_simp
   have Na:=bk_alloc Nv (.cells #[.string ⟨tk.toArray⟩] 9)
   have Ra:=bk_alloc Rv (.cells #[.string ⟨tk.toArray⟩] 9)
   have NX:=bk_new wv (.cells #[.string ⟨tk.toArray⟩] 9)
   have Pa:Pur wv (wv.alloc (.cells #[.string ⟨tk.toArray⟩] 9)):=(Pur.refl wv).alloc _
   have Ha:=Hv.pur Pa
   have Ga:=Gv.pur Pa
   have hsa:=Pa.size
   refine hK.out _ _ ?_ (fun hT=>?_)
   clear hK K
   try simp only [Act.put,List.setIfInBounds_toArray,List.set_cons_zero,List.set_cons_succ]
   · exact bk_cell Na 5 _ rfl
   refine wpAnyU_next (i:=5) (by kernel_rfl) rfl (fun K hK=>?_)
   refine step_append_lies _ (by rfl) _ _ _ (by rfl) (w.heap.size + 2) 9 i5 y0 1 16 Tryz.underlying64 hi5 hy0 hy1 hy2 hys (by omega) (.slice none 0 0) 0 [] (by rfl) (World.ownsRow_nil _ _ _ _) ⟨wv.heap.size,0,none⟩ 1 1 [.string ⟨tk.toArray⟩] (by rfl) (by rfl) (World.news_of_block (cs:=#[.string ⟨tk.toArray⟩]) (t:=9) (fr:=(0,0)) NX) (by simp [Value.oneCell']) (by omega) (by decide) (by omega) (by omega) (wv.heap.size + 1) (by simp) ?_
   intro g5 cap5 w11 hown11 hgrow hat hlt11
   have hg5:w.heap.size + 2≤g5:=by
     rcases hat with e | e
     · cases e
     · omega
   have N11:=(hgrow.block (w.heap.size + 1) (bk_lt Na) (fun e=>by cases e)).trans Na
   have R11:=(hgrow.block w.heap.size (bk_lt Ra) (fun e=>by cases e)).trans Ra
   have H11:JR w11 p l (i + 1 + k + 2):=⟨(hgrow.block p (bk_lt Ha.own) (fun e=>by cases e)).trans Ha.own,Ha.len,Ha.le⟩
   have G11:=Ga.grown hgrow (fun b hb=>by cases hb)
   have hs11:=hgrow.size
   refine hK.out _ _ ?_ (fun hT=>?_)
   clear hK K
   try simp only [Act.put,List.setIfInBounds_toArray,List.set_cons_zero,List.set_cons_succ]
   · exact bk_cell N11 5 _ rfl
   refine wpAnyU_tail 6 (by kernel_rfl) ?_
   simp only [List.drop_succ_cons,List.drop_zero]
   obtain ⟨⟨f5,q5⟩,N12,C12⟩:=set1 (cs':=#[.int .i64 0,.float .f64 0,.string ⟨#[]⟩,.int .i64 0,.bool false,.slice (some ⟨g5,0,none⟩) (0 + 1) cap5,.slice none 0 0,.bool true]) 5 (.slice none 0 0) (.slice (some ⟨g5,0,none⟩) (0 + 1) cap5) N11 rfl rfl
   have R12:=bk_chg R11 C12 (by simp)
   have H12:=H11.chg C12 (by simp;omega)
   have G12:=G11.next C12 (fun b hb=>.inr (by simp at hb;omega))
   have row12:=row_chg hown11 C12 (fun g hg hm=>by simp [Value.ownBlock] at hg;subst hg;simp at hm;omega)
   have hs12:=C12.size
   clear hT Na Ra NX Pa Ha Ga Nv Rv Gv Hv N11 R11 H11 G11 hown11 hgrow hat H4 G4 R4 N4 TX4
   have hk1:(0 + 1:Nat)=1:=rfl
   simp only [Nat.zero_add,List.nil_append] at N12 row12 R12 H12 G12 f5 q5 C12 hs12
   go_wp2_with fail
   try simp only [Nat.zero_add]
   generalize w11.setCell ⟨w.heap.size + 1,5,none⟩ (.slice (some ⟨g5,0,none⟩) 1 cap5)=w12 at *
   clear f5 q5 C12
   refine (BC _ H12).mono ?_
   rintro e w13 ⟨rfl,p13⟩
   have H13:=H12.pur p13
   go_wp2_with fail
   refine (MU _ H13).mono ?_
   rintro e w14 ⟨rfl,H14,G14⟩
   have R14:=bk_chg (bk_pur R12 p13) G14 (by simp;omega)
   have N14:=bk_chg (bk_pur N12 p13) G14 (by simp;omega)
   have row14:=row_chg (row_pur row12 p13) G14 (fun g hg hm=>by simp [Value.ownBlock] at hg;subst hg;simp at hm;omega)
   have hs14:w12.heap.size≤w14.heap.size:=Nat.le_trans p13.size G14.size
   have G14:=(G12.pur p13).trans G14
   have hp14:=pur_low HP.out.1 G14 (by intro b hb;have:=HP.out.2;simp at hb;omega)
   have pd:=(Pur.refl w14).drew
   have V14:=V _ (hp14.trans pd) (H14.pur pd)
   have k6:w14.drew.cell? ⟨w.heap.size + 1,6,none⟩=some (.slice none 0 0):=bk_cell (bk_drew N14) 6 _ rfl
   clear BC MU H12 H13 R12 N12 G12 row12 p13 V
   go_wp2_with fail
   refine wp_region_until (T:=fun w'=>w'.cell? ⟨w.heap.size + 1,6,none⟩=some (.slice none 0 0)) 7 (by kernel_rfl) k6 (fun hT=>?_)
   refine wpAnyU_take (i:=0) (v:=?vu15) rfl (by kernel_rfl) (by kernel_rfl) (by kernel_rfl) (by kernel_rfl) (by kernel_rfl) (fun _ _ _ h=>h) (Or.inl ⟨by rfl,?hu15⟩) (by assumption) ?ru15
   case hu15=>(intro w9 hSw;(try dsimp only at hSw);go_simp;(try with_reducible rfl))
   simp only [Act.put,List.setIfInBounds_toArray,List.set_cons_zero,List.set_cons_succ]
   refine wpAnyU_take (i:=1) (v:=?vu16) rfl (by kernel_rfl) (by kernel_rfl) (by kernel_rfl) (by kernel_rfl) (by kernel_rfl) (fun _ _ _ h=>h) (Or.inl ⟨by rfl,?hu16⟩) (by assumption) ?ru16
   case hu16=>(intro w9 hSw;(try dsimp only at hSw);go_simp;(try with_reducible rfl))
   simp only [Act.put,List.setIfInBounds_toArray,List.set_cons_zero,List.set_cons_succ]
   refine wpAnyU_take (i:=2) (v:=?vu17) rfl (by kernel_rfl) (by kernel_rfl) (by kernel_rfl) (by kernel_rfl) (by kernel_rfl) (fun _ _ _ h=>h) (Or.inl ⟨by rfl,?hu17⟩) (by assumption) ?ru17
   case hu17=>(intro w9 hSw;(try dsimp only at hSw);go_simp;(try with_reducible rfl))
   simp only [Act.put,List.setIfInBounds_toArray,List.set_cons_zero,List.set_cons_succ]
   refine wpAnyU_take (i:=3) (v:=?vu18) rfl (by kernel_rfl) (by kernel_rfl) (by kernel_rfl) (by kernel_rfl) (by kernel_rfl) (fun _ _ _ h=>h) (Or.inl ⟨by rfl,?hu18⟩) (by assumption) ?ru18
   case hu18=>(intro w9 hSw;(try dsimp only at hSw);go_simp;(try with_reducible rfl))
   simp only [Act.put,List.setIfInBounds_toArray,List.set_cons_zero,List.set_cons_succ]
   refine wpAnyU_next (i:=4) (by kernel_rfl) rfl (fun K hK=>?_)
   go_simp
   refine V14.mono ?_
   rintro e wv ⟨ka,kn,kc,pa,pn,pc,rfl,Hv,Gv,qv⟩
   have hdz:w14.drew.heap.size=w14.heap.size:=rfl
   have Nv:=bk_chg (bk_drew N14) Gv (by simp;omega)
   have Rv:=bk_chg (bk_drew R14) Gv (by simp;omega)
   have rowv:=row_chg row14.drew Gv (fun g hg hm=>by simp [Value.ownBlock] at hg;subst hg;simp at hm;omega)
   have hsv:=Gv.size
   have Gv:=G14.drew.trans Gv
   refine hK.out _ _ ?_ (fun hT=>?_)
   clear hK K
   try simp only [Act.put,List.setIfInBounds_toArray,List.set_cons_zero,List.set_cons_succ]
   · exact bk_cell Nv 6 _ rfl
   refine wpAnyU_next (i:=5) (by kernel_rfl) rfl (fun K hK=>?_)
   go_simp
   have Na:=bk_alloc Nv (.cells #[.int .i64 0,.float .f64 0,.string ⟨#[]⟩,.int .i64 0,.bool true,.slice ka kn kc,.slice pa pn pc,.bool true] 83)
   have Ra:=bk_alloc Rv (.cells #[.int .i64 0,.float .f64 0,.string ⟨#[]⟩,.int .i64 0,.bool true,.slice ka kn kc,.slice pa pn pc,.bool true] 83)
   have rowa:=rowv.alloc (.cells #[.int .i64 0,.float .f64 0,.string ⟨#[]⟩,.int .i64 0,.bool true,.slice ka kn kc,.slice pa pn pc,.bool true] 83)
   have NX:=bk_new wv (.cells #[.int .i64 0,.float .f64 0,.string ⟨#[]⟩,.int .i64 0,.bool true,.slice ka kn kc,.slice pa pn pc,.bool true] 83)
   have Pa:Pur wv (wv.alloc (.cells #[.int .i64 0,.float .f64 0,.string ⟨#[]⟩,.int .i64 0,.bool true,.slice ka kn kc,.slice pa pn pc,.bool true] 83)):=(Pur.refl wv).alloc _
   have Ha:=Hv.pur Pa
   have Ga:=Gv.pur Pa
   have hsa:=Pa.size
   have qa:=HQ.out _ _ _ _ _ qv (Chg.of_pur (S:=[]) Pa) (by intro b hb;cases hb)
   refine hK.out _ _ ?_ (fun hT=>?_)
   clear hK K
   try simp only [Act.put,List.setIfInBounds_toArray,List.set_cons_zero,List.set_cons_succ]
   · exact bk_cell Na 6 _ rfl
   refine wpAnyU_next (i:=6) (by kernel_rfl) rfl (fun K hK=>?_)
   refine step_append_lies _ (by rfl) _ _ _ (by rfl) (w.heap.size + 2) 83 i0 z0 8 104 Tryz.underlying81 hi0 hz0 hz1 hz2 hzs (by omega) (.slice none 0 0) 0 [] (by rfl) (World.ownsRow_nil _ _ _ _) ⟨wv.heap.size,0,none⟩ 1 1 [.int .i64 0,.float .f64 0,.string ⟨#[]⟩,.int .i64 0,.bool true,.slice ka kn kc,.slice pa pn pc,.bool true] (by rfl) (by rfl) (World.news_of_block (cs:=#[.int .i64 0,.float .f64 0,.string ⟨#[]⟩,.int .i64 0,.bool true,.slice ka kn kc,.slice pa pn pc,.bool true]) (t:=83) (fr:=(0,0)) NX) (by simp [Value.oneCell']) (by omega) (by decide) (by omega) (by omega) (wv.heap.size + 1) (by simp) ?_
   intro g9 cap9 w15 hown15 hgrow hat hlt15
   have hg9:w.heap.size + 2≤g9:=by
     rcases hat with e | e
     · cases e
     · omega
   have N15:=(hgrow.block (w.heap.size + 1) (bk_lt Na) (fun e=>by cases e)).trans Na
   have R15:=(hgrow.block w.heap.size (bk_lt Ra) (fun e=>by cases e)).trans Ra
   have H15:JR w15 p l t:=⟨(hgrow.block p (bk_lt Ha.own) (fun e=>by cases e)).trans Ha.own,Ha.len,Ha.le⟩
   have G15:=Ga.grown hgrow (fun b hb=>by cases hb)
   have hs15:=hgrow.size
   have gp:Chg ([]:List Nat) (wv.alloc (.cells #[.int .i64 0,.float .f64 0,.string ⟨#[]⟩,.int .i64 0,.bool true,.slice ka kn kc,.slice pa pn pc,.bool true] 83)) w15:=⟨hgrow.os,hgrow.tape,hgrow.output,hgrow.size,fun b hb _=>hgrow.block b hb (fun e=>by cases e)⟩
   have q15:=HQ.out _ _ _ _ _ qa gp (by intro b hb;cases hb)
   have row15:=row_chg rowa gp (fun g hg hm=>by cases hm)
   refine hK.out _ _ ?_ (fun hT=>?_)
   clear hK K
   try simp only [Act.put,List.setIfInBounds_toArray,List.set_cons_zero,List.set_cons_succ]
   · exact bk_cell N15 6 _ rfl
   refine wpAnyU_tail 7 (by kernel_rfl) ?_
   simp only [List.drop_succ_cons,List.drop_zero]
   obtain ⟨⟨f6,q6⟩,N16,C16⟩:=set1 (cs':=#[.int .i64 0,.float .f64 0,.string ⟨#[]⟩,.int .i64 0,.bool false,.slice (some ⟨g5,0,none⟩) 1 cap5,.slice (some ⟨g9,0,none⟩) (0 + 1) cap9,.bool true]) 6 (.slice none 0 0) (.slice (some ⟨g9,0,none⟩) (0 + 1) cap9) N15 rfl rfl
   have R16:=bk_chg R15 C16 (by simp)
   have H16:=H15.chg C16 (by simp;omega)
   have G16:=G15.next C16 (fun b hb=>.inr (by simp at hb;omega))
   have rowk:=row_chg row15 C16 (fun g hg hm=>by simp [Value.ownBlock] at hg;subst hg;simp at hm;omega)
   have rowp:=row_chg hown15 C16 (fun g hg hm=>by simp [Value.ownBlock] at hg;subst hg;simp at hm;omega)
   have q16:=HQ.out _ _ _ _ _ q15 C16 (by intro b hb;simp at hb;omega)
   have hs16:=C16.size
   clear hT Na Ra rowa NX Pa Ha Ga Nv Rv rowv Gv Hv N15 R15 H15 G15 hown15 hgrow hat qa qv q15 gp row15 H14 G14 R14 N14 row14 V14 hp14 pd
   simp only [Nat.zero_add,List.nil_append] at N16 R16 H16 G16 rowk rowp q16 f6 q6 C16 hs16
   go_wp2_with fail
   try simp only [Nat.zero_add]
   generalize w15.setCell ⟨w.heap.size + 1,6,none⟩ (.slice (some ⟨g9,0,none⟩) 1 cap9)=w16 at *
   clear f6 q6 C16
   refine (PT _ H16).mono ?_
   rintro e w17 ⟨rfl,p17⟩
   have H17:=H16.pur p17
   have R17:=bk_pur R16 p17
   have N17:=bk_pur N16 p17
   have G17:=G16.pur p17
   have rowk:=row_pur rowk p17
   have rowp:=row_pur rowp p17
   have q17:=HQ.out _ _ _ _ _ q16 (Chg.of_pur (S:=[]) p17) (by intro b hb;cases hb)
   have hs17:=p17.size
   have c1:=H17.c1
   have f1:=H17.f 1
   have X:=H17.seti (t + 1) ((t:Int) + 1) (by omega) (by omega)
   have R18:=bk_chg R17 X.2 (by simp;omega)
   have N18:=bk_chg N17 X.2 (by simp;omega)
   have rowk:=row_chg rowk X.2 (fun g hg hm=>by simp [Value.ownBlock] at hg;subst hg;simp at hm;omega)
   have rowp:=row_chg rowp X.2 (fun g hg hm=>by simp [Value.ownBlock] at hg;subst hg;simp at hm;omega)
   have q18:=HQ.out _ _ _ _ _ q17 X.2 (by intro b hb;simp at hb;omega)
   have G18:=G17.trans X.2
   have n0:=bk_cell N18 0 _ rfl
   have n1:=bk_cell N18 1 _ rfl
   have n2:=bk_cell N18 2 _ rfl
   have n3:=bk_cell N18 3 _ rfl
   have n4:=bk_cell N18 4 _ rfl
   have n5:=bk_cell N18 5 _ rfl
   have n6:=bk_cell N18 6 _ rfl
   have n7:=bk_cell N18 7 _ rfl
   have hwr:IntKind.i64.wrap ((t:Int) + 1)=t + 1:=IntWalk.i64_in _ (by omega)
   obtain ⟨⟨r0,s0⟩,⟨r1,s1⟩,⟨r2,s2⟩,⟨r3,s3⟩,⟨r4,s4⟩,⟨r5,s5⟩,⟨r6,s6⟩,⟨r7,s7⟩,R19,C19⟩:=jn8 (.int .i64 0) (.float .f64 0) (.string ⟨#[]⟩) (.int .i64 0) (.bool false) (.slice (some ⟨g5,0,none⟩) 1 cap5) (.slice (some ⟨g9,0,none⟩) 1 cap9) (.bool true) R18
   have rowk:=row_low (row_chg rowk C19 (fun g hg hm=>by simp [Value.ownBlock] at hg;subst hg;simp at hm;omega)) (show w.heap.size≤w.heap.size + 2 by omega)
   have rowp:=row_low (row_chg rowp C19 (fun g hg hm=>by simp [Value.ownBlock] at hg;subst hg;simp at hm;omega)) (show w.heap.size≤w.heap.size + 2 by omega)
   have q19:=HQl.out _ w.heap.size _ _ (HQ.out _ _ _ _ _ q18 C19 (by intro b hb;simp at hb;omega)) (by omega)
   have HF:=Lib.hid (And.intro R19 (And.intro (X.1.chg C19 (by simp;omega)) (And.intro (G18.next C19 (fun b hb=>.inr (by simp at hb;omega))) (And.intro rowk (And.intro rowp q19)))))
   clear PT H16 R16 N16 G16 H17 R17 N17 G17 X R18 N18 G18 R19 C19 rowk rowp q16 q17 q18 q19
   go_wp2
   refine bodyPost_ret (results_cell_row rfl _ _ w.heap.size 83 _ (0,0) _ rfl HF.out.1 Tryz.underlying83 rfl (by kernel_rfl)) rfl ⟨_,_,_,_,_,_,_,_,_,_,rfl,HF.out.2⟩
end Li
end Go.Proofs.YtgdolcoiihagfaaGreatDoor
