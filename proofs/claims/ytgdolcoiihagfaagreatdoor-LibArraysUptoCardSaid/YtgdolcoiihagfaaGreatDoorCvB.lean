/- Layer 9: a teller, and where it lies; a value's text, arrays left to another. Layer 9: an array's text. Layer 9: an array's text: the walk. -/
import Derived.Test.YtgdolcoiihagfaaGreatDoorCvA
import Derived.Test.YtgdolcoiihagfaaGreatDoorFtE
import Derived.Defers
import Derived.Tactics2
import Derived.Test.YtgdolcoiihagfaaGreatDoorShelf2
import Derived.Deep.AppendLies
namespace Go.Proofs.YtgdolcoiihagfaaGreatDoor
open Go Go.RowKit
set_option linter.all false
set_option maxRecDepth 100000
set_option maxHeartbeats 100000000
namespace Cv
open P10
structure CW (w:World):Prop where
 k:Ft.AK w
 h:HpW w
theorem CW.pur {w w':World} (h:CW w) (hp:Pur w w'):CW w':=⟨h.k.pur hp,h.h.pur hp⟩
def TX (x:Nat):List UInt8:=Ft.txt Hi0 Lo0 x
theorem wide_asc (l:List UInt8) (h:Asc l) (hl:l.length≤1000000) {w:World} (hW:CW w) :
   Calls Tryz.prog 143 #[.string ⟨l.toArray⟩] w fun e w'=>e=.returned (.string ⟨(wide8 l).toArray⟩)∧Pur w w':=by
 have W:=fun w hT=>wide_any l w hT hl
 rw [wide_ascii _ h] at W
 have hT:=hW.h.tabs
 go_enter Tryz.func143,Tryz.ntmps143
 go_wp2_with fail
 refine (W _ hT).mono ?_
 rintro e w2 ⟨rfl,h2⟩
 go_wp2
 go_ret
 exact ⟨rfl,h2⟩
structure TA (w0 w:World) (tb hh:Nat) (av:Value) (L:List Int):Prop where
 own:w.heap[tb]?=some (.cells #[.pointer (some ⟨hh,0,none⟩),av] 170 (0,0))
 row:w.ownsRow w0.heap.size 3 1 av L.length (L.map fun x=>.int .i64 x)
 apart:av.ownBlock≠some tb
 low:w0.heap.size≤tb
 pur:Pur w0 w
theorem TA.to {w0 w w':World} {tb hh:Nat} {av:Value} {L:List Int} (h:TA w0 w tb hh av L) (hp:Pur w w'):TA w0 w' tb hh av L :=
 ⟨bk_pur h.own hp,ownsRow_pur h.row hp,h.apart,h.low,h.pur.trans hp⟩
theorem Chg.after {S:List Nat} {w w1 w2:World} (h:Pur w w1) (k:Chg S w1 w2):Chg S w w2 :=
 ⟨k.os.trans h.os,k.tape.trans h.tape,k.output.trans h.output,Nat.le_trans h.size k.size,fun i hi hn=>(k.block i (Nat.lt_of_lt_of_le hi h.size) hn).trans (h.block i hi)⟩
theorem Chg.pur_of {S:List Nat} {w0 w w1:World} (hp:Pur w0 w) (k:Chg S w w1) (hS:∀ b∈S,w0.heap.size≤b):Pur w0 w1 :=
 ⟨k.os.trans hp.os,k.tape.trans hp.tape,k.output.trans hp.output,Nat.le_trans hp.size k.size,fun i hi=>(k.block i (Nat.lt_of_lt_of_le hi hp.size) (fun hm=>by have:=hS i hm;omega)).trans (hp.block i hi)⟩
def Tb (w0 w:World) (tb hh:Nat) (av:Value) (L:List Int) (w':World):Prop :=
 ∃ av',TA w0 w' tb hh av' L∧Chg (tb :: av.ownBlock.toList) w w'∧(av'.ownBlock=av.ownBlock∨∃ g,av'.ownBlock=some g∧w.heap.size≤g)
theorem TA.left {w0 w w':World} {tb hh:Nat} {av:Value} {L:List Int} (h:TA w0 w tb hh av L) (hp:Pur w w'):Tb w0 w tb hh av L w' :=
 ⟨av,h.to hp,Chg.of_pur hp,.inl rfl⟩
theorem Tb.after {w0 w w1 w2:World} {tb hh:Nat} {av:Value} {L:List Int} (hp:Pur w w1) (h:Tb w0 w1 tb hh av L w2):Tb w0 w tb hh av L w2:=by
 obtain ⟨av',h1,h2,h3⟩:=h
 exact ⟨av',h1,Chg.after hp h2,h3.imp id fun ⟨g,hg,hs⟩=>⟨g,hg,Nat.le_trans hp.size hs⟩⟩
def tv (R:Option (List UInt8)):Value:=.tuple #[.string ⟨(R.getD []).toArray⟩,.int .i64 (if R.isSome=true then 0 else 112)]
theorem asc_of (l:List UInt8) (h:l.all (fun c=>decide (c.toNat < 128))=true):Asc l:=fun c hc=>of_decide_eq_true (List.all_eq_true.1 h c hc)
theorem tell_any {w0 w:World} {s:Hs} {tb:Nat} {av:Value} {L:List Int} {arr:Int→Option (List UInt8)} (v:Va) (h0:HpAt w0 s) (hA:TA w0 w tb s.h av L) (hW:CW w0) (hv:v.wf)
   (AR:v.kind=5→s.d.kind v.ref=2→∀ w1,TA w0 w1 tb s.h av L→Calls Tryz.prog 164 #[.pointer (some ⟨tb,0,none⟩),.int .i64 v.ref] w1 fun e w'=>e=.returned (tv (arr v.ref))∧Tb w0 w1 tb s.h av L w') :
   Calls Tryz.prog 140 #[.pointer (some ⟨tb,0,none⟩),v.v] w fun e w'=>e=.returned (tv (tellV TX s.d arr v))∧Tb w0 w tb s.h av L w':=by
 obtain ⟨kk,nn,tt,rr⟩:=v
 have hnn:nn < 18446744073709551616:=hv.1
 have hW1:=hW.pur hA.pur
 have P1:Pur w (w.alloc (.cells #[.int .i64 kk,.float .f64 nn,.string ⟨tt.toArray⟩,.int .i64 rr] 25)):=(Pur.refl w).alloc _
 have N1:=bk_new w (.cells #[.int .i64 kk,.float .f64 nn,.string ⟨tt.toArray⟩,.int .i64 rr] 25)
 have c0:=bk_cell N1 0 _ rfl
 have c1:=bk_cell N1 1 _ rfl
 have c2:=bk_cell N1 2 _ rfl
 have c3:=bk_cell N1 3 _ rfl
 have hW2:=hW1.pur P1
 have hL:=fun w' (hp:Pur (w.alloc (.cells #[.int .i64 kk,.float .f64 nn,.string ⟨tt.toArray⟩,.int .i64 rr] 25)) w')=>hA.left (P1.trans hp)
 have hA1:=hA.to P1
 simp only [Va.v,Va.cells] at *
 by_cases k0:kk=0
 · subst k0
   have W:=wide_asc [117,110,100,101,102,105,110,101,100] (asc_of _ rfl) (by decide) hW2
   have HR:=Lib.hid (show tellV TX s.d arr ⟨0,nn,tt,rr⟩=some wUndef from rfl)
   clear AR hA hA1 hW hW1 hW2 N1 h0 hv
   go_enter Tryz.func140,Tryz.ntmps140
   go_wp2_with fail
   refine W.mono ?_
   rintro e w2 ⟨rfl,h2⟩
   go_wp2
   refine bodyPost_ret (v:=tv (some wUndef)) (by simp [results,Tryz.results140,go_sem,tv,wUndef]) rfl ⟨by rw [HR.out],hL _ h2⟩
 by_cases k1:kk=1
 · subst k1
   have W:=wide_asc [110,117,108,108] (asc_of _ rfl) (by decide) hW2
   have HR:=Lib.hid (show tellV TX s.d arr ⟨1,nn,tt,rr⟩=some wNull from rfl)
   clear AR hA hA1 hW hW1 hW2 N1 h0 hv
   go_enter Tryz.func140,Tryz.ntmps140
   go_wp2_with fail
   refine W.mono ?_
   rintro e w2 ⟨rfl,h2⟩
   go_wp2
   refine bodyPost_ret (v:=tv (some wNull)) (by simp [results,Tryz.results140,go_sem,tv,wNull]) rfl ⟨by rw [HR.out],hL _ h2⟩
 by_cases k2:kk=2
 · subst k2
   have e1:(FloatKind.f64.format.order nn 4607182418800017408 == some Ordering.eq)=eqB nn 4607182418800017408:=rfl
   have HR:=Lib.hid (show tellV TX s.d arr ⟨2,nn,tt,rr⟩=some (if eqB nn one=true then wTrue else wFalse) from rfl)
   unfold one at HR
   have Wt:=wide_asc [116,114,117,101] (asc_of _ rfl) (by decide) hW2
   have Wf:=wide_asc [102,97,108,115,101] (asc_of _ rfl) (by decide) hW2
   clear AR hA hA1 hW hW1 hW2 N1 h0 hv
   generalize eqB nn 4607182418800017408=bb at e1 HR
   rcases bb with _ | _
   · go_enter Tryz.func140,Tryz.ntmps140
     go_wp2_with fail
     refine Wf.mono ?_
     rintro e w2 ⟨rfl,h2⟩
     go_wp2
     refine bodyPost_ret (v:=tv (some wFalse)) (by simp [results,Tryz.results140,go_sem,tv,wFalse]) rfl ⟨by rw [HR.out];rfl,hL _ h2⟩
   · go_enter Tryz.func140,Tryz.ntmps140
     go_wp2_with fail
     refine Wt.mono ?_
     rintro e w2 ⟨rfl,h2⟩
     go_wp2
     refine bodyPost_ret (v:=tv (some wTrue)) (by simp [results,Tryz.results140,go_sem,tv,wTrue]) rfl ⟨by rw [HR.out];rfl,hL _ h2⟩
 by_cases k3:kk=3
 · subst k3
   have HR:=Lib.hid (show tellV TX s.d arr ⟨3,nn,tt,rr⟩=some (wide8 (TX nn)) from rfl)
   have T:=Ft.text_any nn hW2.k.x hnn
   have hsh:=txt_short hW2.k.x.big nn
   have W:=fun w' (hp:Pur (w.alloc (.cells #[.int .i64 3,.float .f64 nn,.string ⟨tt.toArray⟩,.int .i64 rr] 25)) w')=>wide_asc (TX nn) (asc_txt _ _ _) (by unfold TX;omega) (hW2.pur hp)
   rw [show Ft.txt Hi0 Lo0 nn=TX nn from rfl] at T
   generalize TX nn=tx at *
   clear AR hA hA1 hW hW1 hW2 N1 h0 hv hsh
   go_enter Tryz.func140,Tryz.ntmps140
   go_wp2_with fail
   refine T.mono ?_
   rintro e w2 ⟨rfl,h2⟩
   go_wp2_with fail
   refine (W _ h2).mono ?_
   rintro e w3 ⟨rfl,h3⟩
   go_wp2
   refine bodyPost_ret (v:=tv (some (wide8 tx))) (by simp [results,Tryz.results140,go_sem,tv]) rfl ⟨by rw [HR.out],hL _ (h2.trans h3)⟩
 by_cases k4:kk=4
 · subst k4
   have HR:=Lib.hid (show tellV TX s.d arr ⟨4,nn,tt,rr⟩=some tt from rfl)
   clear AR hA hA1 hW hW1 hW2 N1 h0 hv
   go_enter Tryz.func140,Tryz.ntmps140
   go_wp2
   refine bodyPost_ret (v:=tv (some tt)) (by simp [results,Tryz.results140,go_sem,tv]) rfl ⟨by rw [HR.out],hL _ (Pur.refl _)⟩
 have Wf:=fun w' (hp:Pur (w.alloc (.cells #[.int .i64 kk,.float .f64 nn,.string ⟨tt.toArray⟩,.int .i64 rr] 25)) w')=>wide_asc [102,117,110,99,116,105,111,110] (asc_of _ rfl) (by decide) (hW2.pur hp)
 by_cases k5:kk=5
 · subst k5
   have a0:=hA1.own
   have q0:∀ y:PW (w.alloc (.cells #[.int .i64 5,.float .f64 nn,.string ⟨tt.toArray⟩,.int .i64 rr] 25)),y.to.cell? ⟨tb,0,none⟩=some (.pointer (some ⟨s.h,0,none⟩)):=fun y=>bk_cell (bk_pur a0 y.pur) 0 _ rfl
   have q3:∀ y:PW (w.alloc (.cells #[.int .i64 5,.float .f64 nn,.string ⟨tt.toArray⟩,.int .i64 rr] 25)),y.to.cell? ⟨w.heap.size,3,none⟩=some (.int .i64 rr):=fun y=>bk_cell (bk_pur N1 y.pur) 3 _ rfl
   have KD:∀ y:PW (w.alloc (.cells #[.int .i64 5,.float .f64 nn,.string ⟨tt.toArray⟩,.int .i64 rr] 25)),_:=fun y=>kind_any s rr y.to (h0.pur ((hA.pur.trans P1).trans y.pur))
   by_cases d1:s.d.kind rr=1
   · have HR:=Lib.hid (show tellV TX s.d arr ⟨5,nn,tt,rr⟩=some wObj by unfold tellV;simp [d1])
     rw [d1] at KD
     have W:=fun w' (hp:Pur (w.alloc (.cells #[.int .i64 5,.float .f64 nn,.string ⟨tt.toArray⟩,.int .i64 rr] 25)) w')=>wide_asc [91,111,98,106,101,99,116,32,79,98,106,101,99,116,93] (asc_of _ rfl) (by decide) (hW2.pur hp)
     clear AR hA hA1 hW hW1 hW2 N1 h0 hv Wf a0
     go_enter Tryz.func140,Tryz.ntmps140
     go_wp2_with fail
     refine wp_region_pur (by kernel_rfl) (by kernel_rfl) ?_
     repeat (go_big_quiet_step (((go_at_call 72;with_reducible exact quiet_eq (KD _)))))
     refine wpQuiet_nil ?_
     intro w2 h2
     go_wp2_with fail
     refine (W _ h2).mono ?_
     rintro e w3 ⟨rfl,h3⟩
     go_wp2
     refine bodyPost_ret (v:=tv (some wObj)) (by simp [results,Tryz.results140,go_sem,tv,wObj]) rfl ⟨by rw [HR.out],hL _ (h2.trans h3)⟩
   by_cases d2:s.d.kind rr=2
   · have HR:=Lib.hid (show tellV TX s.d arr ⟨5,nn,tt,rr⟩=arr rr by unfold tellV;simp [d2])
     have A:=AR rfl d2
     rw [d2] at KD
     try simp only at A
     generalize arr rr=R at *
     obtain ⟨b9,n9,hb⟩:∃ b n,tv R=.tuple #[.string b,.int .i64 n]:=⟨_,_,rfl⟩
     have HB:=Lib.hid hb
     rw [hb] at A
     clear hb
     clear AR hA hW hW1 hW2 N1 h0 hv Wf a0 hL
     go_enter Tryz.func140,Tryz.ntmps140
     go_wp2_with fail
     refine wp_region_pur (by kernel_rfl) (by kernel_rfl) ?_
     repeat (go_big_quiet_step (((go_at_call 72;with_reducible exact quiet_eq (KD _)))))
     refine wpQuiet_nil ?_
     intro w2 h2
     have c9:w2.cell? ⟨w.heap.size,3,none⟩=some (.int .i64 rr):=q3 ⟨w2,h2⟩
     have A:=A _ (hA1.to h2)
     go_wp2_with fail
     refine A.mono ?_
     rintro e w3 ⟨rfl,h3⟩
     go_wp2
     refine bodyPost_ret (v:=.tuple #[.string b9,.int .i64 n9]) (by simp [results,Tryz.results140,go_sem]) rfl ⟨by rw [HR.out,HB.out],(h3.after h2).after P1⟩
   · have HR:=Lib.hid (show tellV TX s.d arr ⟨5,nn,tt,rr⟩=some wFunc by unfold tellV;simp [d1,d2])
     have e1:(s.d.kind rr == 1)=false:=beq_eq_false_iff_ne.2 d1
     have e2:(s.d.kind rr == 2)=false:=beq_eq_false_iff_ne.2 d2
     generalize s.d.kind rr=kd at *
     clear AR hA hA1 hW hW1 hW2 N1 h0 hv a0 d1 d2
     go_enter Tryz.func140,Tryz.ntmps140
     go_wp2_with fail
     refine wp_region_pur (by kernel_rfl) (by kernel_rfl) ?_
     repeat (go_big_quiet_step (((go_at_call 72;with_reducible exact quiet_eq (KD _)))))
     refine wpQuiet_nil ?_
     intro w2 h2
     go_wp2_with fail
     refine (Wf _ h2).mono ?_
     rintro e w3 ⟨rfl,h3⟩
     go_wp2
     refine bodyPost_ret (v:=tv (some wFunc)) (by simp [results,Tryz.results140,go_sem,tv,wFunc]) rfl ⟨by rw [HR.out],hL _ (h2.trans h3)⟩
 · have HR:=Lib.hid (show tellV TX s.d arr ⟨kk,nn,tt,rr⟩=some wFunc by unfold tellV;simp [k0,k1,k2,k3,k4,k5])
   have e0:(kk == 0)=false:=beq_eq_false_iff_ne.2 k0
   have e1:(kk == 1)=false:=beq_eq_false_iff_ne.2 k1
   have e2:(kk == 2)=false:=beq_eq_false_iff_ne.2 k2
   have e3:(kk == 3)=false:=beq_eq_false_iff_ne.2 k3
   have e4:(kk == 4)=false:=beq_eq_false_iff_ne.2 k4
   have e5:(kk == 5)=false:=beq_eq_false_iff_ne.2 k5
   clear AR hA hA1 hW hW1 hW2 N1 h0 hv k0 k1 k2 k3 k4 k5
   go_enter Tryz.func140,Tryz.ntmps140
   go_wp2_with fail
   refine (Wf _ (Pur.refl _)).mono ?_
   rintro e w3 ⟨rfl,h3⟩
   go_wp2
   refine bodyPost_ret (v:=tv (some wFunc)) (by simp [results,Tryz.results140,go_sem,tv,wFunc]) rfl ⟨by rw [HR.out],hL _ h3⟩
end Cv
namespace Cv
open P10
theorem short_list:∀ (n:Nat) (L:List Int),L.Nodup→(∀ x∈L,0≤x∧x < (n:Int))→L.length≤n
 | 0,L,h,k=>by
   cases L with
   | nil=>simp
   | cons a R=>have:=k a (List.mem_cons_self ..);omega
 | n + 1,L,h,k=>by
   by_cases hm:(n:Int)∈L
   · have h1:=List.length_erase_of_mem hm
     have h2:=short_list n (L.erase (n:Int)) (h.erase _) (fun x hx=>by
       have h3:=(h.mem_erase_iff).1 hx
       have h4:=k x h3.2
       have h5:=h3.1
       omega)
     have:=List.length_pos_of_mem hm
     omega
   · have:=short_list n L h (fun x hx=>by
       have h4:=k x hx
       have h5:x≠(n:Int):=fun e=>hm (e ▸ hx)
       omega)
     omega
theorem int_info':∃ i0,Tryz.prog.info? 3=some i0∧i0.zero=some (.int .i64 0)∧i0.size=1∧i0.bytes=8:=info_parts (by kernel_rfl)
theorem contains_any {w:World} {B:Nat} {av:Value} {L:List Int} (i:Int) (h:w.ownsRow B 3 1 av L.length (L.map fun x=>.int .i64 x)) (hl:L.length≤1000000) :
   Calls Tryz.prog 188 #[av,.int .i64 i] w fun e w'=>e=.returned (.bool (decide (i∈L)))∧w'=w:=by
 by_cases h0:L=[]
 · subst h0
   obtain ⟨a,c,rfl⟩:=row_shape h
   have:=Tryz.slices_Contains_int_empty a c i w
   simpa using this
 · obtain ⟨g,c,rfl,-,-⟩:=h.form (List.length_pos_iff.2 h0)
   have:=Tryz.slices_Contains_int g 0 L.length c L i w (Nat.le_refl _) (by omega) (fun j hj=>by
     have:=h.cellAt j (by omega)
     rw [Nat.zero_add,this]
     simp [List.getD_eq_getElem?_getD,List.getElem?_eq_getElem hj])
   rw [List.take_length,List.contains_eq_mem] at this
   exact this
theorem pop_any {w:World} {bx tb hh g n c:Nat} (h1:w.heap[bx]?=some (.cells #[.pointer (some ⟨tb,0,none⟩)] 168 (0,0)))
   (h2:w.heap[tb]?=some (.cells #[.pointer (some ⟨hh,0,none⟩),.slice (some ⟨g,0,none⟩) (n + 1) c] 170 (0,0))) (hn:n≤1000000) (hc:n + 1≤c) :
   CallsD Tryz.prog 189 #[.pointer (some ⟨bx,0,none⟩)] .returning w fun e u' w'=>u'=.returning∧e=.returned (.tuple #[])∧Chg [tb] w w' ∧
     w'.heap[tb]?=some (.cells #[.pointer (some ⟨hh,0,none⟩),.slice (some ⟨g,0,none⟩) n c] 170 (0,0)):=by
 have c0:=bk_cell h1 0 _ rfl
 have c1:=bk_cell h2 1 _ rfl
 have f1:=bk_free h2 1
 have w1:IntKind.i64.wrap (((n + 1:Nat):Int) - 1)=(n:Int):=by rw [show ((n + 1:Nat):Int) - 1=(n:Int) by omega];exact IntWalk.i64_in _ (by omega)
 have k1:Chg [tb] w ((w.setCell ⟨tb,1,none⟩ (.slice (some ⟨g,0,none⟩) n c)).drew):=((Chg.refl _ w).setCell (a:=⟨tb,1,none⟩) (.inl (by simp)) _).drew
 have k2:((w.setCell ⟨tb,1,none⟩ (.slice (some ⟨g,0,none⟩) n c)).drew).heap[tb]?=some (.cells #[.pointer (some ⟨hh,0,none⟩),.slice (some ⟨g,0,none⟩) n c] 170 (0,0)):=bk_drew (bk_set h2 1 _)
 clear h1 h2
 go_enter_d Tryz.func189,Tryz.ntmps189
 go_region
 go_end0
 exact ⟨rfl,k1,k2⟩
def postR (P:Program) (fn:Func) (R:Ending→World→Prop):Exit→Act→World→Prop
 | .normal,a,w=>Leaves P fn a.tmps R a.defers .returning w
 | .ret,a,w=>Leaves P fn a.tmps R a.defers .returning w
 | _,_,_=>False
theorem calls_of_wp_ret {P:Program} {f:FuncId} {fn:Func} {c:Code} {args:Array Value} {w:World} {R:Ending→World→Prop} (hf:P.funcs[f]?=some fn) (hb:fn.body=some c)
   (h:c.wp P (postR P fn R) { tmps:=args ++ Array.replicate (fn.ntmps - args.size) undef,defers:=[] } w):Calls P f args w R :=
 calls_of_wp_defers hf hb (Code.wp_mono (fun e a w h=>by cases e <;> first | exact h | exact h.elim) h)
end Cv
namespace Cv
open P10
theorem TA.form {w0 w:World} {tb hh:Nat} {av:Value} {L:List Int} {i:Int} (h:TA w0 w tb hh av (L ++ [i])):∃ g c,av=.slice (some ⟨g,0,none⟩) (L.length + 1) c∧L.length + 1≤c∧g≠tb∧w0.heap.size≤g∧g < w.heap.size:=by
 obtain ⟨h1,h2⟩:=h.row
 rcases h2 with ⟨-,h0⟩ | ⟨g,cap,cur,rfl,hb,hg,hn,-⟩
 · simp at h0
 · refine ⟨g,cap,by simp,by simpa using hn,fun e=>h.apart (by rw [e];rfl),hb,bk_lt hg⟩
theorem row_pop {w:World} {B g c:Nat} {e:TypeId} {xs:List Value} {x:Value} (h:w.ownsRow B e 1 (.slice (some ⟨g,0,none⟩) (xs.length + 1) c) (xs.length + 1) (xs ++ [x])) :
   w.ownsRow B e 1 (.slice (some ⟨g,0,none⟩) xs.length c) xs.length xs:=by
 obtain ⟨h1,h2⟩:=h
 rcases h2 with ⟨h0,_⟩ | ⟨g',cap',cur,hv,hg,hh,hn,hcap,hsz,htake⟩
 · cases h0
 · cases hv
   refine ⟨by simp,.inr ⟨g,c,cur,rfl,hg,hh,by omega,hcap,hsz,?_⟩⟩
   have h3:(cur.toList.take ((xs.length + 1) * 1)).take (xs.length * 1)=(xs ++ [x]).take (xs.length * 1):=by rw [htake]
   rw [List.take_take,Nat.min_eq_left (by omega)] at h3
   rw [h3,Nat.mul_one]
   simp
theorem TA.pop {w0 w w':World} {tb hh g c:Nat} {L:List Int} {i:Int} (h:TA w0 w tb hh (.slice (some ⟨g,0,none⟩) (L.length + 1) c) (L ++ [i])) (hc:Chg [tb] w w')
   (ho:w'.heap[tb]?=some (.cells #[.pointer (some ⟨hh,0,none⟩),.slice (some ⟨g,0,none⟩) L.length c] 170 (0,0))):TA w0 w' tb hh (.slice (some ⟨g,0,none⟩) L.length c) L:=by
 have hap:=h.apart
 have hr:=h.row
 simp only [List.map_append,List.map_cons,List.map_nil,List.length_append,List.length_cons,List.length_nil,Nat.zero_add] at hr
 have hl:(L.map fun x=>Value.int .i64 x).length=L.length:=by simp
 have hr2:=row_pop (xs:=L.map fun x=>Value.int .i64 x) (by rw [hl];exact hr)
 rw [hl] at hr2
 refine ⟨ho,World.ownsRow_same hr2 (fun b hb=>?_),hap,h.low,?_⟩
 · refine hc.block b (hr2.lt b hb).2 (fun hm=>hap ?_)
   rw [List.mem_singleton] at hm
   rw [← hm]
   exact hb
 · exact Chg.pur_of h.pur hc (fun b hb=>by rw [List.mem_singleton] at hb;rw [hb];exact h.low)
theorem joinL_step {te:Va→Option (List UInt8)} {l:List Va} {n:Nat} {x:Va} (h:l[n]?=some x) (acc:List UInt8) :
   joinL te (l.drop n) (n == 0) acc=match (if some' x=true then te x else some []) with
     | none=>none
     | some m=>if 8192 < ((if (n == 0)=true then acc else acc ++ [0,44]) ++ m).length / 2 then none else joinL te (l.drop (n + 1)) (n + 1 == 0) ((if (n == 0)=true then acc else acc ++ [0,44]) ++ m):=by
 have hlt:=(List.getElem?_eq_some_iff.1 h).1
 have e:l.drop n=x :: l.drop (n + 1):=by
   rw [List.drop_eq_getElem_cons hlt]
   have:=(List.getElem?_eq_some_iff.1 h).2
   rw [this]
 rw [e,joinL]
 rfl
structure AS (w0 w:World) (tb hh bx:Nat) (av:Value) (L1:List Int) (iv:Value) (vs:List Va) (avr:Value) (wr:World):Prop where
 ta:TA w0 wr tb hh avr L1
 chg:Chg (tb :: av.ownBlock.toList) w wr
 new:avr.ownBlock=av.ownBlock∨∃ g,avr.ownBlock=some g∧w.heap.size≤g
 box:wr.heap[bx]?=some (.cells #[.pointer (some ⟨tb,0,none⟩)] 168 (0,0))
 items:wr.ownsRow w.heap.size 25 4 iv vs.length (vs.flatMap Va.cells)
 nb:avr.ownBlock≠some bx
 ni:∀ g,iv.ownBlock=some g→avr.ownBlock≠some g∧g≠tb
 bt:bx≠tb
section
variable {w0 w wr wr':World} {tb hh bx:Nat} {av avr iv:Value} {L1:List Int} {vs:List Va}
theorem AS.pur (h:AS w0 w tb hh bx av L1 iv vs avr wr) (hp:Pur wr wr'):AS w0 w tb hh bx av L1 iv vs avr wr' :=
 ⟨h.ta.to hp,h.chg.pur hp,h.new,bk_pur h.box hp,ownsRow_pur h.items hp,h.nb,h.ni,h.bt⟩
theorem AS.tell (h:AS w0 w tb hh bx av L1 iv vs avr wr) (ht:Tb w0 wr tb hh avr L1 wr'):∃ avr',AS w0 w tb hh bx av L1 iv vs avr' wr':=by
 obtain ⟨av',h1,h2,h3⟩:=ht
 have hbx:=bk_lt h.box
 have hmem:∀ b,b∈tb :: avr.ownBlock.toList→b=tb∨avr.ownBlock=some b:=fun b hb=>by
   rcases List.mem_cons.1 hb with hb | hb
   · exact .inl hb
   · exact .inr (by simpa using hb)
 refine ⟨av',h1,h.chg.next h2 (fun b hb=>?_),?_,?_,?_,?_,fun g hg=>?_,h.bt⟩
 · rcases hmem b hb with rfl | hb
   · exact .inl (List.mem_cons_self ..)
   · rcases h.new with e | ⟨g,hg,hs⟩
     · left
       rw [e] at hb
       exact List.mem_cons_of_mem _ (by simp [hb])
     · right
       rw [hg] at hb
       cases hb
       exact hs
 · rcases h3 with e | ⟨g,hg,hs⟩
   · rw [e];exact h.new
   · exact .inr ⟨g,hg,Nat.le_trans h.chg.size hs⟩
 · refine bk_chg h.box h2 (fun hm=>?_)
   rcases hmem _ hm with e | e
   · exact h.bt e
   · exact h.nb e
 · refine World.ownsRow_same h.items (fun g hg=>h2.block g (h.items.lt g hg).2 (fun hm=>?_))
   rcases hmem _ hm with e | e
   · exact (h.ni g hg).2 e
   · exact (h.ni g hg).1 e
 · rcases h3 with e | ⟨g,hg,hs⟩
   · rw [e];exact h.nb
   · intro e
     rw [hg] at e
     cases e
     omega
 · refine ⟨?_,(h.ni g hg).2⟩
   rcases h3 with e | ⟨g',hg',hs⟩
   · rw [e];exact (h.ni g hg).1
   · intro e
     rw [hg'] at e
     cases e
     have:=(h.items.lt g hg).2
     omega
theorem AS.done {L:List Int} {i:Int} {g c:Nat} (h:AS w0 w tb hh bx av (L ++ [i]) iv vs (.slice (some ⟨g,0,none⟩) (L.length + 1) c) wr) (hc:Chg [tb] wr wr')
   (ho:wr'.heap[tb]?=some (.cells #[.pointer (some ⟨hh,0,none⟩),.slice (some ⟨g,0,none⟩) L.length c] 170 (0,0))):Tb w0 w tb hh av L wr' :=
 ⟨_,h.ta.pop hc ho,h.chg.next hc (fun b hb=>by rw [List.mem_singleton] at hb;rw [hb];exact .inl (List.mem_cons_self ..)),h.new⟩
end
theorem TA.push {w0 w1 w11:World} {tb hh gg cap H:Nat} {av:Value} {L:List Int} {i:Int} (h:TA w0 w1 tb hh av L)
   (hown:w11.ownsRow w0.heap.size 3 1 (.slice (some ⟨gg,0,none⟩) (L.length + 1) cap) (L.length + 1) ((L.map fun x=>.int .i64 x) ++ [.int .i64 i]))
   (hk:w11.heap[tb]?=some (.cells #[.pointer (some ⟨hh,0,none⟩),av] 170 (0,0))) (hat:av.ownBlock=some gg∨gg=H) (hH:tb < H) (hp:Pur w0 w11) :
   TA w0 (w11.setCell ⟨tb,1,none⟩ (.slice (some ⟨gg,0,none⟩) (L.length + 1) cap)) tb hh (.slice (some ⟨gg,0,none⟩) (L.length + 1) cap) (L ++ [i]):=by
 have hne:gg≠tb:=by
   rcases hat with e | e
   · intro e2
     exact h.apart (by rw [e,e2])
   · omega
 refine ⟨bk_set hk 1 _,?_,fun e=>hne (by simpa [Value.ownBlock] using e),h.low,hp.setCell (p:=⟨tb,1,none⟩) h.low _⟩
 have:w11.ownsRow w0.heap.size 3 1 (.slice (some ⟨gg,0,none⟩) (L.length + 1) cap) (L ++ [i]).length ((L ++ [i]).map fun x=>.int .i64 x):=by
   simpa using hown
 exact World.ownsRow_same this (fun b hb=>RowKit.Below.heap_setCell _ _ _ _ (fun e=>hne (by simp [Value.ownBlock] at hb;rw [hb];exact e)))
end Cv
end Go.Proofs.YtgdolcoiihagfaaGreatDoor
