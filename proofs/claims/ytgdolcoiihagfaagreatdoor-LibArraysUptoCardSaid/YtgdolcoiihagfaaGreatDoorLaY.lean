/- Layer 10, LibArrays: an array's builtins. Layer 10, LibArrays: where a law's heap and its own blocks lie; an array's builtins by a call. -/
import Derived.Test.YtgdolcoiihagfaaGreatDoorLaX
import Derived.Test.YtgdolcoiihagfaaGreatDoorLiS
import Derived.Test.YtgdolcoiihagfaaGreatDoorLiG
import Derived.Test.YtgdolcoiihagfaaGreatDoorCvC
import Derived.Test.YtgdolcoiihagfaaGreatDoorLiH
namespace Go.Proofs.YtgdolcoiihagfaaGreatDoor
open Go Go.RowKit
set_option linter.all false
set_option maxRecDepth 100000
set_option maxHeartbeats 100000000
namespace Li
def f8 (n:Nat):Nat:=floatOfInt .f64 (n:Int)
theorem f8_facts:((List.range 200).all fun n=>decide (f8 n < 18446744073709551616) && ((FloatKind.f64.format.order 0 (f8 n) == some Ordering.lt) || (f8 n == 0)) && (lenOf (Va.num' (f8 n)) == some n))=true:=by kernel_rfl
theorem f8_ok (n:Nat) (h:n < 200):f8 n < 18446744073709551616∧(FloatKind.f64.format.order 0 (f8 n)=some Ordering.lt∨f8 n=0)∧lenOf (Va.num' (f8 n))=some n:=by
 have:=List.all_eq_true.1 f8_facts n (List.mem_range.2 h)
 simp only [Bool.and_eq_true,Bool.or_eq_true,decide_eq_true_eq,beq_iff_eq] at this
 exact ⟨this.1.1,this.1.2,this.2⟩
theorem min_zero (x:Nat) (h:FloatKind.f64.format.order 0 x=some Ordering.lt∨x=0) (ts:Array TypeId) (t:TypeId) (w:World):(Builtin.min_ ts t #[.float .f64 0,.float .f64 x]).run Tryz.prog w=.ok (.float .f64 0) w:=by
 rcases h with h | rfl
 · simp only [Builtin.min_,List.foldlM_cons,List.foldlM_nil]
   unfold Builtin.min2
   simp only [h]
   rfl
 · rfl
theorem max_zero (ts:Array TypeId) (t:TypeId) (w:World):(Builtin.max_ ts t #[.float .f64 0,.float .f64 0]).run Tryz.prog w=.ok (.float .f64 0) w:=rfl
def zz:Va:=⟨3,0,[],0⟩
theorem zz_num (hp:Value) (w:World):Calls Tryz.prog 112 #[hp,zz.v] w fun e w'=>e=.returned (.tuple #[.float .f64 0,.int .i64 0])∧Pur w w':=Cv.number_num hp 0 [] 0 w
theorem whole_zero:wholeB 0=0:=by decide +kernel
theorem place_zero {w:World} {cb hh:Nat} {v:Va} {av:Value} (h:CB w cb hh v av [zz]) (n:Nat) (hn:n < 200) :
   Calls Tryz.prog 67 #[.pointer (some ⟨cb,0,none⟩),.int .i64 0,.int .i64 (n:Int),.int .i64 0] w fun e w'=>e=.returned (.int .i64 0)∧Pur w w':=by
 have AG:Calls Tryz.prog 65 #[.pointer (some ⟨cb,0,none⟩),.int .i64 0] w fun e w''=>e=.returned (.agg #[.int .i64 3,.float .f64 0,.string ⟨#[]⟩,.int .i64 0])∧Pur w w'':=arg_ok h 0 (by decide) (show 1≤1000 by decide)
 have WH:=fun w' (hp:Pur w w')=>cwhole_ok (h.pur hp) 0 (by decide) (show 1≤1000 by decide) 0 fun w'' h2=>zz_num _ w''
 rw [whole_zero] at WH
 obtain ⟨-,h2,-⟩:=f8_ok n hn
 have MN:=fun ts t w=>min_zero (f8 n) h2 ts t w
 have MX:=fun ts t w=>max_zero ts t w
 have hfd:=fd_kind
 have ol:(FloatKind.f64.format.order 0 0 == some Ordering.lt)=false:=by decide +kernel
 have CVI:∀ w,(convert 3 23 (.int .i64 (n:Int))).run Tryz.prog w=.ok (.float .f64 (f8 n)) w:=fun _=>rfl
 have CVF:∀ w,(convert 23 3 (.float .f64 0)).run Tryz.prog w=.ok (.int .i64 0) w:=fun _=>by kernel_rfl
 generalize f8 n=x at *
 clear h h2
 go_enter Tryz.func67,Tryz.ntmps67
 go_wp2_with fail
 refine AG.mono ?_
 rintro e w1 ⟨rfl,p1⟩
 have W1:=WH _ p1
 clear AG WH
 go_wp2_with fail
 refine W1.mono ?_
 rintro e w2 ⟨rfl,p2⟩
 clear W1
 go_wp2
 go_ret
 exact ⟨rfl,p1.trans p2⟩
theorem place_end {w:World} {cb hh:Nat} {v:Va} {av:Value} (h:CB w cb hh v av [zz]) (n:Int) :
   Calls Tryz.prog 67 #[.pointer (some ⟨cb,0,none⟩),.int .i64 1,.int .i64 n,.int .i64 n] w fun e w'=>e=.returned (.int .i64 n)∧Pur w w':=by
 have AG:Calls Tryz.prog 65 #[.pointer (some ⟨cb,0,none⟩),.int .i64 1] w fun e w''=>e=.returned (.agg #[.int .i64 0,.float .f64 0,.string ⟨#[]⟩,.int .i64 0])∧Pur w w'':=arg_ok h 1 (by decide) (show 1≤1000 by decide)
 have hfd:=fd_kind
 clear h
 go_enter Tryz.func67,Tryz.ntmps67
 go_wp2_with fail
 refine AG.mono ?_
 rintro e w1 ⟨rfl,p1⟩
 clear AG
 go_wp2
 go_ret
 exact ⟨rfl,p1⟩
theorem arrays_concat {w0 w:World} {hh G cb:Nat} {K:Nat→Prop} {c:Int} {l:List Va} {rest:List Ob} {av:Value} (h:At w0 hh G K w (hd c l rest)) (hc:CB w cb hh (ob 1) av []) (hK:K cb) (hKa:∀ b,av.ownBlock=some b→K b) (hn:l.length≤1000) (hav:av=.slice none 0 0) (hwf:∀ x∈l,x.wf) {i:Int} {d':Hd} (hd':(hd c l rest).array l=((i,0),d')) :
   Calls Tryz.prog 35 #[.pointer (some ⟨cb,0,none⟩),.int .i64 55] w fun e w'=>e=.returned (ob i).v∧At w0 hh G K w' d'∧Kept K w w':=by
 obtain ⟨W,hW,PA,hsz,B0,NB⟩:=two_own w cb
 have hKl:∀ b,K b→b < w.heap.size:=fun b hb=>by obtain ⟨s,-,-,-,-,h5⟩:=h.ex;exact (h5 b hb).1
 have hw0:=h.pur.size
 have A1:At w0 hh G (fun b=>(K b∨b=w.heap.size)∨b=w.heap.size + 1) W (hd c l rest):=at_other h (Chg.of_pur (S:=[]) PA) (by intro b hb;cases hb) (by intro b hb;cases hb) (fun b hb=>by
   rcases hb with (hb | hb) | hb
   · exact ⟨.inl hb,by have:=hKl b hb;omega⟩
   · exact ⟨.inr (by omega),by omega⟩
   · exact ⟨.inr (by omega),by omega⟩)
 have K1:Kept K w W:=(h.pure PA).2
 have C1:=hc.pur PA
 have l0:=bk_cell B0 0 _ rfl
 have c0:W.cell? ⟨cb,0,none⟩=some (.pointer (some ⟨hh,0,none⟩)):=bk_cell C1.own 0 _ rfl
 have c4:W.cell? ⟨cb,4,none⟩=some (.int .i64 1):=bk_cell C1.own 4 _ rfl
 have IT:=items_st A1 1
 rw [la_items] at IT
 simp only [Option.isSome_some,Option.getD_some] at IT
 clear h hc
 subst hW
 simp only [ob,Va.v,Va.cells]
 go_enter Tryz.func35,Tryz.ntmps35
 go_wp2_with fail
 generalize (w.alloc (.cells #[.pointer (some ⟨cb,0,none⟩)] 70)).alloc (.cells #[.int .i64 0,.float .f64 0,.string ⟨#[]⟩,.int .i64 0] 25)=W at *
 refine IT.mono ?_
 rintro e w1 ⟨lv,rfl,p1,hrow⟩
 obtain ⟨la,lc,rfl⟩:=row_shape hrow
 obtain ⟨A2,K2⟩:=A1.pure p1
 have hKW:∀ b,((K b∨b=w.heap.size)∨b=w.heap.size + 1)→b < W.heap.size:=fun b hb=>by
   rcases hb with (hb | hb) | hb
   · have:=hKl b hb;omega
   · omega
   · omega
 have AG2:=fun (g:Nat) (h1:W.heap.size≤g) (h2:g < w1.heap.size)=>(at_other A1 (K':=fun b=>((K b∨b=w.heap.size)∨b=w.heap.size + 1)∨b=g) (Chg.of_pur (S:=[]) p1) (by intro b hb;cases hb) (by intro b hb;cases hb) (fun b hb=>by
   rcases hb with hb | rfl
   · exact ⟨.inl hb,Nat.lt_of_lt_of_le (hKW b hb) p1.size⟩
   · exact ⟨.inr h1,h2⟩))
 clear hKW
 have C2:=C1.pur p1
 have B2:=bk_pur B0 p1
 have NB2:=bk_pur NB p1
 have K12:=K1.trans fun b hb=>K2 b (.inl (.inl hb))
 clear IT l0 c0 c4 A1 C1 B0 NB K1 K2
 subst hav
 have l1:=bk_cell B2 0 _ rfl
 have c5:w1.cell? ⟨cb,5,none⟩=some (.slice none 0 0):=bk_cell C2.own 5 _ rfl
 have AR:=carray_ok A2 C2 l (.slice la l.length lc) (.inl (VRead.of_own hrow)) hwf (by omega) hd'
 simp only [ob,Va.v,Va.cells] at AR
 go_wp2
 go_loopw [128,6] (fun v lv wr=>v=.int .i64 0∧lv=.slice la l.length lc∧wr=w1) (fun _ _ _=>1)
 case atStart=>exact ⟨rfl,rfl,by first | rfl | trivial⟩
 case round =>
   obtain ⟨rfl,rfl,rfl⟩:=hrel
   clear hrow C2 B2
   go_wp2_with fail
   refine AR.mono ?_
   rintro e w2 ⟨rfl,A3,K3⟩
   have NB3:=(K3 _ (.inr rfl)).trans NB2
   have K13:=K12.trans fun b hb=>K3 b (.inl (.inl hb))
   clear AR A2 NB2 K12 K3 l1 c5
   obtain ⟨⟨s0,s1⟩,⟨s2,s3⟩,⟨s4,s5⟩,⟨s6,s7⟩⟩:=st4_steps (y:=Va.zero) (x:=ob i) NB3
   have R8:=st4_at (y:=Va.zero) (x:=ob i) NB3
   obtain ⟨A10,K10⟩:=st4_fin (x:=ob i) (K:=K) A3 (.inr rfl) (by omega) (fun k hk=>⟨.inl (.inl hk),by have:=hKl k hk;omega⟩)
   have HF:=Lib.hid (And.intro R8 (And.intro A10 ((K13).trans K10)))
   clear R8 A10 K10 A3 NB3
   simp only [st4,Va.zero,ob] at s0 s1 s2 s3 s4 s5 s6 s7 HF
   go_wp2
   refine bodyPost_ret (results_cell_row rfl _ _ (w.heap.size + 1) 25 _ (0,0) _ rfl HF.out.1 Tryz.underlying25 rfl (by kernel_rfl)) rfl ⟨rfl,HF.out.2⟩
theorem arrays_slice {w0 w:World} {hh G cb:Nat} {K:Nat→Prop} {c:Int} {l:List Va} {rest:List Ob} {av:Value} (h:At w0 hh G K w (hd c l rest)) (hc:CB w cb hh (ob 1) av [zz]) (hK:K cb) (hKa:∀ b,av.ownBlock=some b→K b) (hn:l.length≤1000) (hn2:l.length < 200) (hwf:∀ x∈l,x.wf) {i:Int} {d':Hd} (hd':(hd c l rest).array l=((i,0),d')) :
   Calls Tryz.prog 35 #[.pointer (some ⟨cb,0,none⟩),.int .i64 52] w fun e w'=>e=.returned (ob i).v∧At w0 hh G K w' d'∧Kept K w w':=by
 obtain ⟨W,hW,PA,hsz,B0,NB⟩:=two_own w cb
 have hKl:∀ b,K b→b < w.heap.size:=fun b hb=>by obtain ⟨s,-,-,-,-,h5⟩:=h.ex;exact (h5 b hb).1
 have hw0:=h.pur.size
 have A1:At w0 hh G (fun b=>(K b∨b=w.heap.size)∨b=w.heap.size + 1) W (hd c l rest):=at_other h (Chg.of_pur (S:=[]) PA) (by intro b hb;cases hb) (by intro b hb;cases hb) (fun b hb=>by
   rcases hb with (hb | hb) | hb
   · exact ⟨.inl hb,by have:=hKl b hb;omega⟩
   · exact ⟨.inr (by omega),by omega⟩
   · exact ⟨.inr (by omega),by omega⟩)
 have K1:Kept K w W:=(h.pure PA).2
 have C1:=hc.pur PA
 have l0:=bk_cell B0 0 _ rfl
 have c0:W.cell? ⟨cb,0,none⟩=some (.pointer (some ⟨hh,0,none⟩)):=bk_cell C1.own 0 _ rfl
 have c4:W.cell? ⟨cb,4,none⟩=some (.int .i64 1):=bk_cell C1.own 4 _ rfl
 have IT:=items_st A1 1
 rw [la_items] at IT
 simp only [Option.isSome_some,Option.getD_some] at IT
 clear h hc
 subst hW
 simp only [ob,Va.v,Va.cells]
 go_enter Tryz.func35,Tryz.ntmps35
 go_wp2_with fail
 generalize (w.alloc (.cells #[.pointer (some ⟨cb,0,none⟩)] 70)).alloc (.cells #[.int .i64 0,.float .f64 0,.string ⟨#[]⟩,.int .i64 0] 25)=W at *
 refine IT.mono ?_
 rintro e w1 ⟨lv,rfl,p1,hrow⟩
 obtain ⟨la,lc,rfl⟩:=row_shape hrow
 obtain ⟨A2,K2⟩:=A1.pure p1
 have hKW:∀ b,((K b∨b=w.heap.size)∨b=w.heap.size + 1)→b < W.heap.size:=fun b hb=>by
   rcases hb with (hb | hb) | hb
   · have:=hKl b hb;omega
   · omega
   · omega
 have AG2:=fun (g:Nat) (h1:W.heap.size≤g) (h2:g < w1.heap.size)=>(at_other A1 (K':=fun b=>((K b∨b=w.heap.size)∨b=w.heap.size + 1)∨b=g) (Chg.of_pur (S:=[]) p1) (by intro b hb;cases hb) (by intro b hb;cases hb) (fun b hb=>by
   rcases hb with hb | rfl
   · exact ⟨.inl hb,Nat.lt_of_lt_of_le (hKW b hb) p1.size⟩
   · exact ⟨.inr h1,h2⟩))
 clear hKW
 have C2:=C1.pur p1
 have B2:=bk_pur B0 p1
 have NB2:=bk_pur NB p1
 have K12:=K1.trans fun b hb=>K2 b (.inl (.inl hb))
 clear IT l0 c0 c4 A1 C1 B0 NB K1 K2
 have l1:∀ z:PW w1,z.to.cell? ⟨w.heap.size,0,none⟩=some (.pointer (some ⟨cb,0,none⟩)):=fun z=>bk_cell (bk_pur B2 z.pur) 0 _ rfl
 have PZ:=fun w' (hp:Pur w1 w')=>place_zero (C2.pur hp) l.length hn2
 have PE:=fun w' (hp:Pur w1 w')=>place_end (C2.pur hp) (l.length:Int)
 go_wp2_with fail
 refine wp_region_pur (by kernel_rfl) (by kernel_rfl) ?_
 repeat (go_big_quiet_step ((go_at_call 67;first | (with_reducible exact quiet_pur (PZ _ (PW.pur _))) | (with_reducible exact quiet_pur (PE _ (PW.pur _))))))
 refine wpQuiet_nil ?_
 intro w2 h2
 obtain ⟨A3,K3⟩:=A2.pure h2
 have C3:=C2.pur h2
 have B3:=bk_pur B2 h2
 have NB3:=bk_pur NB2 h2
 have K13:=K12.trans fun b hb=>K3 b (.inl (.inl hb))
 have hr3:=row_pur hrow h2
 have l3:∀ z:PW w2,z.to.cell? ⟨w.heap.size,0,none⟩=some (.pointer (some ⟨cb,0,none⟩)):=fun z=>bk_cell (bk_pur B3 z.pur) 0 _ rfl
 have AR:=fun w' (hp:Pur w2 w')=>carray_ok (A3.pure hp).1 (C3.pur hp) l (.slice la l.length lc) (.inl (VRead.of_own (row_pur hr3 hp))) hwf (by omega) hd'
 have KP:=fun w' (hp:Pur w2 w')=>(A3.pure hp).2
 have hlc:(l.length:Int)≤lc:=by
   rcases hr3.2 with ⟨e,e2⟩ | ⟨g,cap,cur,e,-,-,hnc,-⟩
   · simp only [Value.slice.injEq] at e;omega
   · simp only [Value.slice.injEq] at e;omega
 have hmx:max (0:Int) (l.length:Int)=l.length:=by omega
 simp only [ob,Va.v,Va.cells] at AR
 clear PZ PE l1 A2 K12 K3 C2 B2 NB2 h2 hrow hr3 A3
 go_wp2_with fail
 refine wp_region_pur_tail 7 (by kernel_rfl) (by kernel_rfl) ?_
 simp only [List.take_succ_cons,List.take_zero,List.drop_succ_cons,List.drop_zero]
 repeat (go_big_quiet_step (fail))
 refine wpQuiet_nil ?_
 intro w3 h3
 have AR3:=AR _ h3
 have KP3:=KP _ h3
 have NB4:=bk_pur NB3 h3
 clear AR KP l3
 go_wp2_with fail
 refine AR3.mono ?_
 rintro e w4 ⟨rfl,A5,K5⟩
 have NB5:=(K5 _ (.inr rfl)).trans NB4
 have K15:=(K13.trans fun b hb=>KP3 b (.inl (.inl hb))).trans fun b hb=>K5 b (.inl (.inl hb))
 clear AR3 K13 KP3 K5 NB4 NB3 C3 B3 h3
 obtain ⟨⟨s0,s1⟩,⟨s2,s3⟩,⟨s4,s5⟩,⟨s6,s7⟩⟩:=st4_steps (y:=Va.zero) (x:=ob i) NB5
 have R8:=st4_at (y:=Va.zero) (x:=ob i) NB5
 obtain ⟨A10,K10⟩:=st4_fin (x:=ob i) (K:=K) A5 (.inr rfl) (by omega) (fun k hk=>⟨.inl (.inl hk),by have:=hKl k hk;omega⟩)
 have HF:=Lib.hid (And.intro R8 (And.intro A10 ((K15).trans K10)))
 clear R8 A10 K10 A5 NB5
 simp only [st4,Va.zero,ob] at s0 s1 s2 s3 s4 s5 s6 s7 HF
 go_wp2
 refine bodyPost_ret (results_cell_row rfl _ _ (w.heap.size + 1) 25 _ (0,0) _ rfl HF.out.1 Tryz.underlying25 rfl (by kernel_rfl)) rfl ⟨rfl,HF.out.2⟩
theorem key_len (n:Nat) (h:n≤2000):(keyOf (n:Int)).length≤1000:=by
 unfold keyOf
 rw [wide8_len]
 have:=itoa_short (n:Int) (by omega) (by omega)
 omega
theorem arrays_push {w0 w:World} {hh G cb:Nat} {K:Nat→Prop} {c:Int} {l:List Va} {rest:List Ob} {av:Value} (x:Va) (h:At w0 hh G K w (hd c l rest)) (hc:CB w cb hh (ob 1) av [x]) (hK:K cb) (hKa:∀ b,av.ownBlock=some b→K b) (hn:l.length≤1000) (hn2:l.length < 190) (hT:HpW w) (hx:x.wf) (hxr:x.right (2 + rest.length)=true) (hcl:1≤c) :
   Calls Tryz.prog 35 #[.pointer (some ⟨cb,0,none⟩),.int .i64 50] w fun e w'=>e=.returned (⟨3,f8 (l.length + 1),[],0⟩:Va).v∧At w0 hh G K w' (hd (c - 1) (l ++ [x]) rest)∧Kept K w w':=by
 obtain ⟨W,hW,PA,hsz,B0,NB⟩:=two_own w cb
 have hKl:∀ b,K b→b < w.heap.size:=fun b hb=>by obtain ⟨s,-,-,-,-,h5⟩:=h.ex;exact (h5 b hb).1
 have hw0:=h.pur.size
 have A1:At w0 hh G (fun b=>(K b∨b=w.heap.size)∨b=w.heap.size + 1) W (hd c l rest):=at_other h (Chg.of_pur (S:=[]) PA) (by intro b hb;cases hb) (by intro b hb;cases hb) (fun b hb=>by
   rcases hb with (hb | hb) | hb
   · exact ⟨.inl hb,by have:=hKl b hb;omega⟩
   · exact ⟨.inr (by omega),by omega⟩
   · exact ⟨.inr (by omega),by omega⟩)
 have K1:Kept K w W:=(h.pure PA).2
 have C1:=hc.pur PA
 have l0:=bk_cell B0 0 _ rfl
 have c0:W.cell? ⟨cb,0,none⟩=some (.pointer (some ⟨hh,0,none⟩)):=bk_cell C1.own 0 _ rfl
 have c4:W.cell? ⟨cb,4,none⟩=some (.int .i64 1):=bk_cell C1.own 4 _ rfl
 have IT:=items_st A1 1
 rw [la_items] at IT
 simp only [Option.isSome_some,Option.getD_some] at IT
 have hT1:=hT.pur PA
 clear h hc
 subst hW
 simp only [ob,Va.v,Va.cells]
 go_enter Tryz.func35,Tryz.ntmps35
 go_wp2_with fail
 generalize (w.alloc (.cells #[.pointer (some ⟨cb,0,none⟩)] 70)).alloc (.cells #[.int .i64 0,.float .f64 0,.string ⟨#[]⟩,.int .i64 0] 25)=W at *
 refine IT.mono ?_
 rintro e w1 ⟨lv,rfl,p1,hrow⟩
 obtain ⟨la,lc,rfl⟩:=row_shape hrow
 obtain ⟨A2,K2⟩:=A1.pure p1
 have hKW:∀ b,((K b∨b=w.heap.size)∨b=w.heap.size + 1)→b < W.heap.size:=fun b hb=>by
   rcases hb with (hb | hb) | hb
   · have:=hKl b hb;omega
   · omega
   · omega
 have AG2:=fun (g:Nat) (h1:W.heap.size≤g) (h2:g < w1.heap.size)=>(at_other A1 (K':=fun b=>((K b∨b=w.heap.size)∨b=w.heap.size + 1)∨b=g) (Chg.of_pur (S:=[]) p1) (by intro b hb;cases hb) (by intro b hb;cases hb) (fun b hb=>by
   rcases hb with hb | rfl
   · exact ⟨.inl hb,Nat.lt_of_lt_of_le (hKW b hb) p1.size⟩
   · exact ⟨.inr h1,h2⟩))
 clear hKW
 have C2:=C1.pur p1
 have B2:=bk_pur B0 p1
 have NB2:=bk_pur NB p1
 have K12:=K1.trans fun b hb=>K2 b (.inl (.inl hb))
 clear IT l0 c0 c4 A1 C1 B0 NB K1 K2
 have l1:=bk_cell B2 0 _ rfl
 obtain ⟨ab,hav⟩:∃ ab,av.ownBlock=some ab:=by
   rcases C2.args with ⟨-,e⟩ | ⟨b,cc,fr,rfl,-⟩
   · cases e
   · exact ⟨b,rfl⟩
 obtain ⟨cc,rfl,hab⟩:∃ cc,av=.slice (some ⟨ab,0,none⟩) 1 cc∧∃ fr,w1.heap[ab]?=some (.cells ([x].flatMap Va.cells).toArray 25 fr):=by
   rcases C2.args with ⟨-,e⟩ | ⟨b,cc,fr,rfl,hb⟩
   · cases e
   · simp only [Value.ownBlock,Option.some.injEq] at hav
     subst hav
     exact ⟨cc,rfl,fr,hb⟩
 obtain ⟨fr,hab⟩:=hab
 have c5:w1.cell? ⟨cb,5,none⟩=some (.slice (some ⟨ab,0,none⟩) 1 cc):=bk_cell C2.own 5 _ rfl
 obtain ⟨xk,xn,xt,xr⟩:=x
 have q0:w1.cell? ⟨ab,0,none⟩=some (.int .i64 xk):=bk_cellf hab 0 _ rfl
 have q1:w1.cell? ⟨ab,1,none⟩=some (.float .f64 xn):=bk_cellf hab 1 _ rfl
 have q2:w1.cell? ⟨ab,2,none⟩=some (.string ⟨xt.toArray⟩):=bk_cellf hab 2 _ rfl
 have q3:w1.cell? ⟨ab,3,none⟩=some (.int .i64 xr):=bk_cellf hab 3 _ rfl
 have KY:=fun w (hW:HpW w)=>key_any (l.length:Int) w hW (by omega) (by omega)
 have hkl:=key_len l.length (by omega)
 have PU:=fun w' (hp:Pur w1 w')=>put_st (A2.pure hp).1 1 (keyOf (l.length:Int)) ⟨xk,xn,xt,xr⟩ hx (by omega)
 simp only [la_next c l rest l.length ⟨xk,xn,xt,xr⟩ rfl (by omega) hxr hcl] at PU
 have KP:=fun w' (hp:Pur w1 w')=>(A2.pure hp).2
 have hT2:=hT1.pur p1
 have CK:=fun w=>check_ok w
 have EN:=fun w=>enumber_any (f8 (l.length + 1)) w
 have CVI:∀ w,(convert 3 23 (.int .i64 ((l.length:Int) + 1))).run Tryz.prog w=.ok (.float .f64 (f8 (l.length + 1))) w:=fun _=>rfl
 have wn1:IntKind.i64.wrap ((l.length:Int) + 1)=(l.length:Int) + 1:=IntWalk.i64_in _ (by omega)
 have wn0:IntKind.i64.wrap (l.length:Int)=(l.length:Int):=IntWalk.i64_in _ (by omega)
 obtain ⟨fx,hfx⟩:∃ fx,f8 (l.length + 1)=fx:=⟨_,rfl⟩
 simp only [hfx] at EN CVI
 have HFX:=Lib.hid hfx
 clear hfx
 simp only [Va.v,Va.cells] at PU
 clear hrow hx hxr hT1 hT
 go_wp2
 go_loopw [43] (fun v wr=>(v=.int .i64 0∧wr=w1)∨(v=.int .i64 1∧At w0 hh G (fun b=>(K b∨b=w.heap.size)∨b=w.heap.size + 1) wr (hd (c - 1) (l ++ [⟨xk,xn,xt,xr⟩]) rest)∧Kept (fun b=>(K b∨b=w.heap.size)∨b=w.heap.size + 1) w1 wr)) (fun v _=>2 - (intOf v).toNat)
 case atStart=>exact .inl ⟨rfl,by first | rfl | trivial⟩
 case round =>
   rcases hrel with ⟨rfl,rfl⟩ | ⟨rfl,A5,K5⟩
   · have NX:=bk_new wr (.cells #[.int .i64 xk,.float .f64 xn,.string ⟨xt.toArray⟩,.int .i64 xr] 25)
     have PX:Pur wr (wr.alloc (.cells #[.int .i64 xk,.float .f64 xn,.string ⟨xt.toArray⟩,.int .i64 xr] 25)):=(Pur.refl wr).alloc _
     have BX:=bk_pur B2 PX
     have CX:=bk_pur C2.own PX
     have g0:∀ z:PW (wr.alloc (.cells #[.int .i64 xk,.float .f64 xn,.string ⟨xt.toArray⟩,.int .i64 xr] 25)),z.to.cell? ⟨w.heap.size,0,none⟩=some (.pointer (some ⟨cb,0,none⟩)):=fun z=>bk_cell (bk_pur BX z.pur) 0 _ rfl
     have g1:∀ z:PW (wr.alloc (.cells #[.int .i64 xk,.float .f64 xn,.string ⟨xt.toArray⟩,.int .i64 xr] 25)),z.to.cell? ⟨cb,0,none⟩=some (.pointer (some ⟨hh,0,none⟩)):=fun z=>bk_cell (bk_pur CX z.pur) 0 _ rfl
     have y0:∀ z:PW (wr.alloc (.cells #[.int .i64 xk,.float .f64 xn,.string ⟨xt.toArray⟩,.int .i64 xr] 25)),z.to.cell? ⟨wr.heap.size,0,none⟩=some (.int .i64 xk):=fun z=>bk_cell (bk_pur NX z.pur) 0 _ rfl
     have y1:∀ z:PW (wr.alloc (.cells #[.int .i64 xk,.float .f64 xn,.string ⟨xt.toArray⟩,.int .i64 xr] 25)),z.to.cell? ⟨wr.heap.size,1,none⟩=some (.float .f64 xn):=fun z=>bk_cell (bk_pur NX z.pur) 1 _ rfl
     have y2:∀ z:PW (wr.alloc (.cells #[.int .i64 xk,.float .f64 xn,.string ⟨xt.toArray⟩,.int .i64 xr] 25)),z.to.cell? ⟨wr.heap.size,2,none⟩=some (.string ⟨xt.toArray⟩):=fun z=>bk_cell (bk_pur NX z.pur) 2 _ rfl
     have y3:∀ z:PW (wr.alloc (.cells #[.int .i64 xk,.float .f64 xn,.string ⟨xt.toArray⟩,.int .i64 xr] 25)),z.to.cell? ⟨wr.heap.size,3,none⟩=some (.int .i64 xr):=fun z=>bk_cell (bk_pur NX z.pur) 3 _ rfl
     have KYz:∀ z:PW (wr.alloc (.cells #[.int .i64 xk,.float .f64 xn,.string ⟨xt.toArray⟩,.int .i64 xr] 25)),Calls Tryz.prog 73 #[.int .i64 (l.length:Int)] z.to fun e w'=>e=.returned (.string ⟨(keyOf (l.length:Int)).toArray⟩)∧Pur z.to w':=fun z=>KY _ ((hT2.pur PX).pur z.pur)
     have c5':=c5
     generalize keyOf (l.length:Int)=key at *
     clear NX BX CX KY
     go_wp2_with fail
     refine wp_region_pur_tail 10 (by kernel_rfl) (by kernel_rfl) ?_
     simp only [List.take_succ_cons,List.take_zero,List.drop_succ_cons,List.drop_zero]
     repeat (go_big_quiet_step (((go_at_call 73;with_reducible exact quiet_pur (KYz _)))))
     refine wpQuiet_nil ?_
     intro w3 h3
     have PU3:=PU _ (PX.trans h3)
     have KP3:=KP _ (PX.trans h3)
     clear g0 g1 y0 y1 y2 y3 KYz PU KP
     go_wp2_with fail
     refine PU3.mono ?_
     rintro e w4 ⟨rfl,A4,K4⟩
     clear PU3
     go_wp2_with fail
     refine (CK _).mono ?_
     rintro e w5 ⟨rfl,rfl⟩
     have HA:=Lib.hid (And.intro A4 (KP3.trans K4))
     clear A4 K4 KP3
     go_wp2
     go_roundw
     case rel=>exact .inr ⟨by go_num,HA.out⟩
     case measure=>simp [intOf]
   · have B5:=(K5 _ (.inl (.inr rfl))).trans B2
     have l5:=bk_cell B5 0 _ rfl
     have C5:=(K5 _ (.inl (.inl hK))).trans C2.own
     have c55:wr.cell? ⟨cb,5,none⟩=some (.slice (some ⟨ab,0,none⟩) 1 cc):=bk_cell C5 5 _ rfl
     have NB5:=(K5 _ (.inr rfl)).trans NB2
     have K15:=K12.trans fun b hb=>K5 b (.inl (.inl hb))
     clear PU KP KY CK q0 q1 q2 q3 c5 l1 K12 K5 A2 C2 B2 NB2 B5 C5 hab
     go_wp2_with fail
     refine (EN _).mono ?_
     rintro e w6 ⟨rfl,p6⟩
     obtain ⟨A6,K6⟩:=A5.pure p6
     have NB6:=bk_pur NB5 p6
     have K16:=K15.trans fun b hb=>K6 b (.inl (.inl hb))
     clear K15 K6 A5 NB5 p6 l5 c55
     obtain ⟨⟨s0,s1⟩,⟨s2,s3⟩,⟨s4,s5⟩,⟨s6,s7⟩⟩:=st4_steps (y:=Va.zero) (x:=⟨3,fx,[],0⟩) NB6
     have R8:=st4_at (y:=Va.zero) (x:=⟨3,fx,[],0⟩) NB6
     obtain ⟨A10,K10⟩:=st4_fin (x:=⟨3,fx,[],0⟩) (K:=K) A6 (.inr rfl) (by omega) (fun k hk=>⟨.inl (.inl hk),by have:=hKl k hk;omega⟩)
     have HF:=Lib.hid (And.intro R8 (And.intro A10 ((K16).trans K10)))
     clear R8 A10 K10 A6 NB6
     simp only [st4,Va.zero,ob] at s0 s1 s2 s3 s4 s5 s6 s7 HF
     go_wp2
     refine bodyPost_ret (results_cell_row rfl _ _ (w.heap.size + 1) 25 _ (0,0) _ rfl HF.out.1 Tryz.underlying25 rfl (by kernel_rfl)) rfl ⟨by rw [HFX.out];rfl,HF.out.2⟩
theorem len_wide:wide8 [108,101,110,103,116,104]=lenKey:=by decide
theorem arrays_pop {w0 w:World} {hh G cb:Nat} {K:Nat→Prop} {c:Int} {l:List Va} {rest:List Ob} {av:Value} (h:At w0 hh G K w (hd c l rest)) (hc:CB w cb hh (ob 1) av []) (hK:K cb) (hKa:∀ b,av.ownBlock=some b→K b) (hn:l.length≤1000) (m:List Va) (x:Va) (hlm:l=m ++ [x]) (hn2:m.length < 190) (hT:HpW w) (hcl:0≤c) :
   Calls Tryz.prog 35 #[.pointer (some ⟨cb,0,none⟩),.int .i64 51] w fun e w'=>e=.returned (x).v∧At w0 hh G K w' (hd (c + 1) m rest)∧Kept K w w':=by
 obtain ⟨W,hW,PA,hsz,B0,NB⟩:=two_own w cb
 have hKl:∀ b,K b→b < w.heap.size:=fun b hb=>by obtain ⟨s,-,-,-,-,h5⟩:=h.ex;exact (h5 b hb).1
 have hw0:=h.pur.size
 have A1:At w0 hh G (fun b=>(K b∨b=w.heap.size)∨b=w.heap.size + 1) W (hd c l rest):=at_other h (Chg.of_pur (S:=[]) PA) (by intro b hb;cases hb) (by intro b hb;cases hb) (fun b hb=>by
   rcases hb with (hb | hb) | hb
   · exact ⟨.inl hb,by have:=hKl b hb;omega⟩
   · exact ⟨.inr (by omega),by omega⟩
   · exact ⟨.inr (by omega),by omega⟩)
 have K1:Kept K w W:=(h.pure PA).2
 have C1:=hc.pur PA
 have l0:=bk_cell B0 0 _ rfl
 have c0:W.cell? ⟨cb,0,none⟩=some (.pointer (some ⟨hh,0,none⟩)):=bk_cell C1.own 0 _ rfl
 have c4:W.cell? ⟨cb,4,none⟩=some (.int .i64 1):=bk_cell C1.own 4 _ rfl
 have IT:=items_st A1 1
 rw [la_items] at IT
 simp only [Option.isSome_some,Option.getD_some] at IT
 have hT1:=hT.pur PA
 clear h hc
 subst hW
 simp only [ob,Va.v,Va.cells]
 go_enter Tryz.func35,Tryz.ntmps35
 go_wp2_with fail
 generalize (w.alloc (.cells #[.pointer (some ⟨cb,0,none⟩)] 70)).alloc (.cells #[.int .i64 0,.float .f64 0,.string ⟨#[]⟩,.int .i64 0] 25)=W at *
 refine IT.mono ?_
 rintro e w1 ⟨lv,rfl,p1,hrow⟩
 obtain ⟨la,lc,rfl⟩:=row_shape hrow
 obtain ⟨A2,K2⟩:=A1.pure p1
 have hKW:∀ b,((K b∨b=w.heap.size)∨b=w.heap.size + 1)→b < W.heap.size:=fun b hb=>by
   rcases hb with (hb | hb) | hb
   · have:=hKl b hb;omega
   · omega
   · omega
 have AG2:=fun (g:Nat) (h1:W.heap.size≤g) (h2:g < w1.heap.size)=>(at_other A1 (K':=fun b=>((K b∨b=w.heap.size)∨b=w.heap.size + 1)∨b=g) (Chg.of_pur (S:=[]) p1) (by intro b hb;cases hb) (by intro b hb;cases hb) (fun b hb=>by
   rcases hb with hb | rfl
   · exact ⟨.inl hb,Nat.lt_of_lt_of_le (hKW b hb) p1.size⟩
   · exact ⟨.inr h1,h2⟩))
 clear hKW
 have C2:=C1.pur p1
 have B2:=bk_pur B0 p1
 have NB2:=bk_pur NB p1
 have K12:=K1.trans fun b hb=>K2 b (.inl (.inl hb))
 clear IT l0 c0 c4 A1 C1 B0 NB K1 K2
 have hll:l.length=m.length + 1:=by rw [hlm,List.length_append];rfl
 obtain ⟨g,lc2,hgs,hg1,hg2,hg3,hg4⟩:=row_at hrow (by omega)
 simp only [Value.slice.injEq] at hgs
 obtain ⟨rfl,-,rfl⟩:=hgs
 have A3:=AG2 g hg1 hg2
 obtain ⟨fx1,fx2,fx3⟩:=f8_ok m.length (by omega)
 have PU:=fun w' (hp:Pur w1 w')=>put_st (A3.pure hp).1 1 lenKey (Va.num' (f8 m.length)) ⟨fx1,by simp [Va.num']⟩ (by decide)
 have hvr:(Va.num' (f8 m.length)).right (2 + rest.length)=true:=by unfold Va.right Va.num';simp
 simp only [la_cut c l rest m.length (Va.num' (f8 m.length)) fx3 hvr hll.symm hcl] at PU
 rw [show l.take m.length=m by rw [hlm];simp] at PU
 have KP:=fun w' (hp:Pur w1 w')=>(A3.pure hp).2
 have hT2:=hT1.pur p1
 have hxl:l[m.length]?=some x:=by rw [hlm];simp
 have xc:∀ (i:Nat) u,x.cells[i]?=some u→w1.cell? ⟨g,m.length * 4 + i,none⟩=some u:=fun i u hu=>(hg4 _ u (va_at l m.length x hxl i u hu)).1
 obtain ⟨xk,xn,xt,xr⟩:=x
 have gb:g < w1.heap.size:=hg2
 have WDz:∀ z:PW w1,Calls Tryz.prog 51 #[.string ⟨#[108,101,110,103,116,104]⟩] z.to fun e w'=>e=.returned (.string ⟨lenKey.toArray⟩)∧Pur z.to w':=fun z=>by
   have:=ewide_b [108,101,110,103,116,104] (by decide) (by decide) ((show UT w1 from hT2.tabs).pur z.pur)
   rw [len_wide] at this
   exact this
 have CK:=fun w=>check_ok w
 have EN:=fun w=>enumber_any (f8 m.length) w
 have CVI:∀ w,(convert 3 23 (.int .i64 (m.length:Int))).run Tryz.prog w=.ok (.float .f64 (f8 m.length)) w:=fun _=>rfl
 have wn1:IntKind.i64.wrap ((m.length:Int) + 1 - 1)=(m.length:Int):=(IntWalk.i64_in _ (by omega)).trans (by omega)
 have wn2:IntKind.i64.wrap (m.length:Int)=(m.length:Int):=IntWalk.i64_in _ (by omega)
 have hl0:¬ (m.length:Int) + 1=0:=by omega
 have hl1:((m.length:Int) + 1 == 0)=false:=beq_eq_false_iff_ne.2 hl0
 have hm1:(0:Int)≤m.length:=by omega
 have hm2:(m.length:Int) < (m.length:Int) + 1:=by omega
 have g0:∀ z:PW w1,z.to.cell? ⟨w.heap.size,0,none⟩=some (.pointer (some ⟨cb,0,none⟩)):=fun z=>bk_cell (bk_pur B2 z.pur) 0 _ rfl
 have g1:∀ z:PW w1,z.to.cell? ⟨cb,0,none⟩=some (.pointer (some ⟨hh,0,none⟩)):=fun z=>bk_cell (bk_pur C2.own z.pur) 0 _ rfl
 generalize f8 m.length=fx at *
 generalize lenKey=key at *
 simp only [Va.v,Va.cells,Va.num'] at PU
 clear hrow hT1 hT fx1 fx2 fx3 hvr AG2 A2 hlm hxl hg4 hn hn2
 go_wp2_with fail
 refine wp_region_pur_tail 10 (by kernel_rfl) (by kernel_rfl) ?_
 simp only [List.take_succ_cons,List.take_zero,List.drop_succ_cons,List.drop_zero]
 repeat (go_big_quiet_step (((first | (go_at_call 51;with_reducible exact quiet_pur (WDz _)) | (go_at_call 52;with_reducible exact quiet_pur (EN _))))))
 refine wpQuiet_nil ?_
 intro w3 h3
 have PU3:=PU _ h3
 have KP3:=KP _ h3
 have hx0:w1.cell? ⟨g,m.length * 4,none⟩=some (.int .i64 xk):=xc 0 _ rfl
 have hx1:=xc 1 _ rfl
 have hx2:=xc 2 _ rfl
 have hx3:=xc 3 _ rfl
 clear g0 g1 WDz PU KP xc
 go_wp2_with fail
 refine PU3.mono ?_
 rintro e w4 ⟨rfl,A4,K4⟩
 have KG:=KP3.trans K4
 have cg:∀ i,w4.cell? ⟨g,i,none⟩=w1.cell? ⟨g,i,none⟩:=fun i=>by
   have:=KG g (.inr rfl)
   simp only [World.cell?,this]
 clear PU3 KP3 K4
 go_wp2_with fail
 refine (CK _).mono ?_
 rintro e w5 ⟨rfl,rfl⟩
 replace hx0:=(cg _).trans hx0
 replace hx1:=(cg _).trans hx1
 replace hx2:=(cg _).trans hx2
 replace hx3:=(cg _).trans hx3
 have NB5:=(KG _ (.inl (.inr rfl))).trans NB2
 have K15:=K12.trans fun b hb=>KG b (.inl (.inl (.inl hb)))
 have A5:=A4.sub (K':=fun b=>(K b∨b=w.heap.size)∨b=w.heap.size + 1) (fun b hb=>.inl hb)
 clear cg KG A4 K12 NB2 CK
 obtain ⟨⟨s0,s1⟩,⟨s2,s3⟩,⟨s4,s5⟩,⟨s6,s7⟩⟩:=st4_steps (y:=Va.zero) (x:=⟨xk,xn,xt,xr⟩) NB5
 have R8:=st4_at (y:=Va.zero) (x:=⟨xk,xn,xt,xr⟩) NB5
 obtain ⟨A10,K10⟩:=st4_fin (x:=⟨xk,xn,xt,xr⟩) (K:=K) A5 (.inr rfl) (by omega) (fun k hk=>⟨.inl (.inl hk),by have:=hKl k hk;omega⟩)
 have HF:=Lib.hid (And.intro R8 (And.intro A10 ((K15).trans K10)))
 clear R8 A10 K10 A5 NB5
 simp only [st4,Va.zero,ob] at s0 s1 s2 s3 s4 s5 s6 s7 HF
 go_wp2
 refine bodyPost_ret (results_cell_row rfl _ _ (w.heap.size + 1) 25 _ (0,0) _ rfl HF.out.1 Tryz.underlying25 rfl (by kernel_rfl)) rfl ⟨rfl,HF.out.2⟩
theorem arrays_reverse {w0 w:World} {hh G cb:Nat} {K:Nat→Prop} {c:Int} {l:List Va} {rest:List Ob} {av:Value} (h:At w0 hh G K w (hd c l rest)) (hc:CB w cb hh (ob 1) av []) (hK:K cb) (hKa:∀ b,av.ownBlock=some b→K b) (hn:l.length≤1000) (hn2:l.length < 200) (hT:HpW w0) (hwf:∀ x∈l,x.wf) (hrr:R (2 + rest.length) l) :
   Calls Tryz.prog 35 #[.pointer (some ⟨cb,0,none⟩),.int .i64 56] w fun e w'=>e=.returned (ob 1).v∧At w0 hh G K w' (hd c l.reverse rest)∧Kept K w w':=by
 obtain ⟨W,hW,PA,hsz,B0,NB⟩:=two_own w cb
 have hKl:∀ b,K b→b < w.heap.size:=fun b hb=>by obtain ⟨s,-,-,-,-,h5⟩:=h.ex;exact (h5 b hb).1
 have hw0:=h.pur.size
 have A1:At w0 hh G (fun b=>(K b∨b=w.heap.size)∨b=w.heap.size + 1) W (hd c l rest):=at_other h (Chg.of_pur (S:=[]) PA) (by intro b hb;cases hb) (by intro b hb;cases hb) (fun b hb=>by
   rcases hb with (hb | hb) | hb
   · exact ⟨.inl hb,by have:=hKl b hb;omega⟩
   · exact ⟨.inr (by omega),by omega⟩
   · exact ⟨.inr (by omega),by omega⟩)
 have K1:Kept K w W:=(h.pure PA).2
 have C1:=hc.pur PA
 have l0:=bk_cell B0 0 _ rfl
 have c0:W.cell? ⟨cb,0,none⟩=some (.pointer (some ⟨hh,0,none⟩)):=bk_cell C1.own 0 _ rfl
 have c4:W.cell? ⟨cb,4,none⟩=some (.int .i64 1):=bk_cell C1.own 4 _ rfl
 have IT:=items_st A1 1
 rw [la_items] at IT
 simp only [Option.isSome_some,Option.getD_some] at IT
 clear h hc
 subst hW
 simp only [ob,Va.v,Va.cells]
 go_enter Tryz.func35,Tryz.ntmps35
 go_wp2_with fail
 generalize (w.alloc (.cells #[.pointer (some ⟨cb,0,none⟩)] 70)).alloc (.cells #[.int .i64 0,.float .f64 0,.string ⟨#[]⟩,.int .i64 0] 25)=W at *
 refine IT.mono ?_
 rintro e w1 ⟨lv,rfl,p1,hrow⟩
 obtain ⟨la,lc,rfl⟩:=row_shape hrow
 obtain ⟨A2,K2⟩:=A1.pure p1
 have hKW:∀ b,((K b∨b=w.heap.size)∨b=w.heap.size + 1)→b < W.heap.size:=fun b hb=>by
   rcases hb with (hb | hb) | hb
   · have:=hKl b hb;omega
   · omega
   · omega
 have AG2:=fun (g:Nat) (h1:W.heap.size≤g) (h2:g < w1.heap.size)=>(at_other A1 (K':=fun b=>((K b∨b=w.heap.size)∨b=w.heap.size + 1)∨b=g) (Chg.of_pur (S:=[]) p1) (by intro b hb;cases hb) (by intro b hb;cases hb) (fun b hb=>by
   rcases hb with hb | rfl
   · exact ⟨.inl hb,Nat.lt_of_lt_of_le (hKW b hb) p1.size⟩
   · exact ⟨.inr h1,h2⟩))
 clear hKW
 have C2:=C1.pur p1
 have B2:=bk_pur B0 p1
 have NB2:=bk_pur NB p1
 have K12:=K1.trans fun b hb=>K2 b (.inl (.inl hb))
 clear IT l0 c0 c4 A1 C1 B0 NB K1 K2
 have l1:=bk_cell B2 0 _ rfl
 have CK:=fun w=>check_ok w
 rcases hrow.2 with ⟨he,h0⟩ | ⟨g,cap,cur,he,hgb,hgh,hnc,hcm,hcs,hcx⟩
 · simp only [Value.slice.injEq] at he
   obtain ⟨rfl,-,rfl⟩:=he
   obtain rfl:l=[]:=List.eq_nil_of_length_eq_zero h0
   have RN:=reverse_nil
   simp only [List.length_nil,Int.natCast_zero]
   clear hrow AG2 CK h0
   go_wp2_with fail
   refine (RN _).mono ?_
   rintro e w2 ⟨rfl,rfl⟩
   clear RN
   go_wp2
   go_loopw [165] (fun v wr=>v=.int .i64 0∧wr=w1) (fun _ _=>1)
   case atStart=>exact ⟨rfl,by first | rfl | trivial⟩
   case round =>
     obtain ⟨rfl,rfl⟩:=hrel
     have C9:=C2.own
     have t1:wr.cell? ⟨cb,1,none⟩=some (.int .i64 5):=bk_cell C9 1 _ rfl
     have t2:wr.cell? ⟨cb,2,none⟩=some (.float .f64 0):=bk_cell C9 2 _ rfl
     have t3:wr.cell? ⟨cb,3,none⟩=some (.string ⟨#[]⟩):=bk_cell C9 3 _ rfl
     have t4:wr.cell? ⟨cb,4,none⟩=some (.int .i64 1):=bk_cell C9 4 _ rfl
     clear C9
     obtain ⟨⟨s0,s1⟩,⟨s2,s3⟩,⟨s4,s5⟩,⟨s6,s7⟩⟩:=st4_steps (y:=Va.zero) (x:=ob 1) NB2
     have R8:=st4_at (y:=Va.zero) (x:=ob 1) NB2
     obtain ⟨A10,K10⟩:=st4_fin (x:=ob 1) (K:=K) A2 (.inr rfl) (by omega) (fun k hk=>⟨.inl (.inl hk),by have:=hKl k hk;omega⟩)
     have HF:=Lib.hid (And.intro R8 (And.intro A10 ((K12).trans K10)))
     clear R8 A10 K10 A2 NB2
     simp only [st4,Va.zero,ob] at s0 s1 s2 s3 s4 s5 s6 s7 HF
     go_wp2
     refine bodyPost_ret (results_cell_row rfl _ _ (w.heap.size + 1) 25 _ (0,0) _ rfl HF.out.1 Tryz.underlying25 rfl (by kernel_rfl)) rfl ⟨rfl,HF.out.2⟩
 · have hg2:g < w1.heap.size:=(Array.getElem?_eq_some_iff.1 hgh).1
   simp only [Value.slice.injEq] at he
   obtain ⟨rfl,-,rfl⟩:=he
   have A3:=AG2 g hgb hg2
   have RV:=reverse_any l hrow rfl hn
   have hgK:∀ b,((K b∨b=w.heap.size)∨b=w.heap.size + 1)→b≠g:=fun b hb e=>by
     have:b < W.heap.size:=by
       rcases hb with (hb | hb) | hb
       · have:=hKl b hb;omega
       · omega
       · omega
     omega
   have hl3:∀ b,(((K b∨b=w.heap.size)∨b=w.heap.size + 1)∨b=g)→b < w1.heap.size:=fun b hb=>by obtain ⟨s,-,-,-,-,h5⟩:=A3.ex;exact (h5 b hb).1
   obtain ⟨n,hln⟩:∃ n,l.length=n:=⟨_,rfl⟩
   rw [hln] at RV hn2
   have HLN:=Lib.hid hln
   simp only [hln]
   clear hrow AG2 hcx hcs hcm hnc hgh hln hn
   go_wp2_with fail
   refine RV.mono ?_
   rintro e w2 ⟨rfl,CR,hr2⟩
   clear RV
   have A4:=at_other A3 CR (K':=fun b=>((K b∨b=w.heap.size)∨b=w.heap.size + 1)∨b=g) (by intro b hb;simp at hb;subst hb;exact .inr rfl) (by intro b hb;simp at hb;subst hb;omega) (fun b hb=>⟨.inl hb,Nat.lt_of_lt_of_le (hl3 b hb) CR.size⟩)
   have KR:Kept (fun b=>(K b∨b=w.heap.size)∨b=w.heap.size + 1) w1 w2:=fun b hb=>CR.block b (hl3 b (.inl hb)) (by simpa using hgK b hb)
   have B4:=(KR _ (.inl (.inr rfl))).trans B2
   have C4:=(KR _ (.inl (.inl hK))).trans C2.own
   have NB4:=(KR _ (.inr rfl)).trans NB2
   have K14:=K12.trans fun b hb=>KR b (.inl (.inl hb))
   clear A3 KR K12 C2 B2 NB2 l1 hl3 A2
   obtain ⟨r,hrl⟩:∃ r,l.reverse=r:=⟨_,rfl⟩
   have hrn:r.length=l.length:=by rw [← hrl,List.length_reverse]
   have hrw:∀ x∈r,x.wf:=fun x hx=>hwf x (by rw [← hrl] at hx;exact List.mem_reverse.1 hx)
   have hrr2:∀ x∈r,x.right (2 + rest.length)=true:=fun x hx=>hrr x (by rw [← hrl] at hx;exact List.mem_reverse.1 hx)
   rw [hrl] at hr2
   have HRL:=Lib.hid hrl
   clear hrl hwf hrr
   have l4:=bk_cell B4 0 _ rfl
   go_wp2
   go_loopw [165] (fun v wr=>∃ k:Nat,k≤n∧v=.int .i64 (k:Int)∧At w0 hh G (fun b=>((K b∨b=w.heap.size)∨b=w.heap.size + 1)∨b=g) wr (hd c (over l r k) rest)∧Kept (fun b=>((K b∨b=w.heap.size)∨b=w.heap.size + 1)∨b=g) w2 wr) (fun v _=>n + 1 - (intOf v).toNat)
   case atStart=>exact ⟨0,by omega,rfl,by rw [over_zero];exact A4,fun _ _=>rfl⟩
   case round =>
     obtain ⟨k,hk,rfl,A5,K5⟩:=hrel
     have B5:=(K5 _ (.inl (.inl (.inr rfl)))).trans B4
     have C5:=(K5 _ (.inl (.inl (.inl hK)))).trans C4
     have NB5:=(K5 _ (.inl (.inr rfl))).trans NB4
     have l5:=bk_cell B5 0 _ rfl
     by_cases hlt:k < n
     · have hkr:k < r.length:=by rw [hrn,HLN.out];exact hlt
       obtain ⟨x,hx⟩:∃ x,r[k]?=some x:=⟨_,List.getElem?_eq_getElem hkr⟩
       have hr5:=row_same hr2 (w':=wr) (fun b hb=>by simp only [Value.ownBlock,Option.some.injEq] at hb;exact K5 b (.inr hb.symm))
       obtain ⟨g',c',hgs,hg1,-,hg3,hg4⟩:=row_at hr5 (by omega)
       simp only [Value.slice.injEq,Option.some.injEq,Addr.mk.injEq,and_true,true_and] at hgs
       obtain ⟨rfl,rfl⟩:=hgs
       have xc:∀ (i:Nat) u,x.cells[i]?=some u→wr.cell? ⟨g,k * 4 + i,none⟩=some u:=fun i u hu=>(hg4 _ u (va_at r k x hx i u hu)).1
       have hxm:=List.mem_of_getElem? hx
       have PU:=fun w' (hp:Pur wr w')=>put_st (A5.pure hp).1 1 (keyOf (k:Int)) x (hrw x hxm) (by have:=key_len k (by omega);omega)
       simp only [la_item c (over l r k) rest k x (by rw [over_len _ _ _ hrn,HLN.out];exact hlt) (by omega) (hrr2 x hxm),over_set l r k x hrn hx] at PU
       have KP:=fun w' (hp:Pur wr w')=>(A5.pure hp).2
       have hT5:=hT.pur A5.pur
       have KY:=fun w (hW:HpW w)=>key_any (k:Int) w hW (by omega) (by omega)
       obtain ⟨xk,xn,xt,xr⟩:=x
       have q0:wr.cell? ⟨g,k * 4,none⟩=some (.int .i64 xk):=xc 0 _ rfl
       have q1:wr.cell? ⟨g,k * 4 + 1,none⟩=some (.float .f64 xn):=xc 1 _ rfl
       have q2:wr.cell? ⟨g,k * 4 + 2,none⟩=some (.string ⟨xt.toArray⟩):=xc 2 _ rfl
       have q3:wr.cell? ⟨g,k * 4 + 3,none⟩=some (.int .i64 xr):=xc 3 _ rfl
       have NX:=bk_new wr (.cells #[.int .i64 xk,.float .f64 xn,.string ⟨xt.toArray⟩,.int .i64 xr] 25)
       have PX:Pur wr (wr.alloc (.cells #[.int .i64 xk,.float .f64 xn,.string ⟨xt.toArray⟩,.int .i64 xr] 25)):=(Pur.refl wr).alloc _
       have BX:=bk_pur B5 PX
       have CX:=bk_pur C5 PX
       have g0:∀ z:PW (wr.alloc (.cells #[.int .i64 xk,.float .f64 xn,.string ⟨xt.toArray⟩,.int .i64 xr] 25)),z.to.cell? ⟨w.heap.size,0,none⟩=some (.pointer (some ⟨cb,0,none⟩)):=fun z=>bk_cell (bk_pur BX z.pur) 0 _ rfl
       have g1:∀ z:PW (wr.alloc (.cells #[.int .i64 xk,.float .f64 xn,.string ⟨xt.toArray⟩,.int .i64 xr] 25)),z.to.cell? ⟨cb,0,none⟩=some (.pointer (some ⟨hh,0,none⟩)):=fun z=>bk_cell (bk_pur CX z.pur) 0 _ rfl
       have y0:∀ z:PW (wr.alloc (.cells #[.int .i64 xk,.float .f64 xn,.string ⟨xt.toArray⟩,.int .i64 xr] 25)),z.to.cell? ⟨wr.heap.size,0,none⟩=some (.int .i64 xk):=fun z=>bk_cell (bk_pur NX z.pur) 0 _ rfl
       have y1:∀ z:PW (wr.alloc (.cells #[.int .i64 xk,.float .f64 xn,.string ⟨xt.toArray⟩,.int .i64 xr] 25)),z.to.cell? ⟨wr.heap.size,1,none⟩=some (.float .f64 xn):=fun z=>bk_cell (bk_pur NX z.pur) 1 _ rfl
       have y2:∀ z:PW (wr.alloc (.cells #[.int .i64 xk,.float .f64 xn,.string ⟨xt.toArray⟩,.int .i64 xr] 25)),z.to.cell? ⟨wr.heap.size,2,none⟩=some (.string ⟨xt.toArray⟩):=fun z=>bk_cell (bk_pur NX z.pur) 2 _ rfl
       have y3:∀ z:PW (wr.alloc (.cells #[.int .i64 xk,.float .f64 xn,.string ⟨xt.toArray⟩,.int .i64 xr] 25)),z.to.cell? ⟨wr.heap.size,3,none⟩=some (.int .i64 xr):=fun z=>bk_cell (bk_pur NX z.pur) 3 _ rfl
       have KYz:∀ z:PW (wr.alloc (.cells #[.int .i64 xk,.float .f64 xn,.string ⟨xt.toArray⟩,.int .i64 xr] 25)),Calls Tryz.prog 73 #[.int .i64 (k:Int)] z.to fun e w'=>e=.returned (.string ⟨(keyOf (k:Int)).toArray⟩)∧Pur z.to w':=fun z=>KY _ ((hT5.pur PX).pur z.pur)
       have d1:decide ((k:Int) < (n:Int))=true:=decide_eq_true (by omega)
       have k0:(0:Int)≤k:=by omega
       have k1:(k:Int) < n:=by omega
       have wk:IntKind.i64.wrap ((k:Int) + 1)=(k:Int) + 1:=IntWalk.i64_in _ (by omega)
       simp only [Va.v,Va.cells] at PU
       generalize keyOf (k:Int)=key at *
       clear NX BX CX KY xc hg4 hx hxm hr5 A4 l4
       go_wp2_with fail
       refine wp_region_pur_tail 8 (by kernel_rfl) (by kernel_rfl) ?_
       simp only [List.take_succ_cons,List.take_zero,List.drop_succ_cons,List.drop_zero]
       repeat (go_big_quiet_step (((go_at_call 73;with_reducible exact quiet_pur (KYz _)))))
       refine wpQuiet_nil ?_
       intro w3 h3
       have PU3:=PU _ (PX.trans h3)
       have KP3:=KP _ (PX.trans h3)
       clear g0 g1 y0 y1 y2 y3 KYz PU KP
       go_wp2_with fail
       refine PU3.mono ?_
       rintro e w4 ⟨rfl,A6,K6⟩
       clear PU3
       go_wp2_with fail
       refine (CK _).mono ?_
       rintro e w5 ⟨rfl,rfl⟩
       have HA:=Lib.hid (And.intro A6 ((K5.trans KP3).trans K6))
       clear A6 K6 KP3 K5
       go_wp2
       go_roundw
       case rel=>exact ⟨k + 1,by omega,by go_num,HA.out.1,HA.out.2⟩
       case measure=>first | (simp [intOf];done) | (simp [intOf];omega)
     · obtain rfl:k=n:=by omega
       have d1:decide ((k:Int) < (k:Int))=false:=decide_eq_false (by omega)
       have e1:over l r k=r:=by
         have:=over_all l r hrn
         rw [hrn,HLN.out] at this
         exact this
       rw [e1] at A5
       have A6:=A5.sub (K':=fun b=>(K b∨b=w.heap.size)∨b=w.heap.size + 1) (fun b hb=>.inl hb)
       have K15:=K14.trans fun b hb=>K5 b (.inl (.inl (.inl hb)))
       clear K14 K5 A5 A4 l4 hr2 e1
       have C9:=C5
       have t1:wr.cell? ⟨cb,1,none⟩=some (.int .i64 5):=bk_cell C9 1 _ rfl
       have t2:wr.cell? ⟨cb,2,none⟩=some (.float .f64 0):=bk_cell C9 2 _ rfl
       have t3:wr.cell? ⟨cb,3,none⟩=some (.string ⟨#[]⟩):=bk_cell C9 3 _ rfl
       have t4:wr.cell? ⟨cb,4,none⟩=some (.int .i64 1):=bk_cell C9 4 _ rfl
       clear C9
       obtain ⟨⟨s0,s1⟩,⟨s2,s3⟩,⟨s4,s5⟩,⟨s6,s7⟩⟩:=st4_steps (y:=Va.zero) (x:=ob 1) NB5
       have R8:=st4_at (y:=Va.zero) (x:=ob 1) NB5
       obtain ⟨A10,K10⟩:=st4_fin (x:=ob 1) (K:=K) A6 (.inr rfl) (by omega) (fun k hk=>⟨.inl (.inl hk),by have:=hKl k hk;omega⟩)
       have HF:=Lib.hid (And.intro R8 (And.intro A10 ((K15).trans K10)))
       clear R8 A10 K10 A6 NB5
       simp only [st4,Va.zero,ob] at s0 s1 s2 s3 s4 s5 s6 s7 HF
       go_wp2
       refine bodyPost_ret (results_cell_row rfl _ _ (w.heap.size + 1) 25 _ (0,0) _ rfl HF.out.1 Tryz.underlying25 rfl (by kernel_rfl)) rfl ⟨rfl,by rw [HRL.out];exact HF.out.2⟩
end Li
namespace Li
abbrev Bl:=List (Nat × Obj)
structure St (w0:World) (hh G:Nat) (L:Bl) (lv:Value) (us:List Va) (w:World) (d:Hd):Prop where
 at_:At w0 hh G (fun b=>(∃ o,(b,o)∈L)∨lv.ownBlock=some b) w d
 bl:∀ p∈L,w.heap[p.1]?=some p.2
 low:∀ p∈L,w0.heap.size≤p.1
 row:∃ B,w.ownsRow B 25 4 lv us.length (us.flatMap Va.cells)
variable {w0 w w':World} {hh G:Nat} {L:Bl} {lv:Value} {us:List Va} {d d':Hd}
theorem St.pure (h:St w0 hh G L lv us w d) (hp:Pur w w'):St w0 hh G L lv us w' d :=
 ⟨(h.at_.pure hp).1,fun p hp2=>bk_pur (h.bl p hp2) hp,h.low,by obtain ⟨B,hr⟩:=h.row;exact ⟨B,row_pur hr hp⟩⟩
theorem St.next (h:St w0 hh G L lv us w d) (hA:At w0 hh G (fun b=>(∃ o,(b,o)∈L)∨lv.ownBlock=some b) w' d') (hK:Kept (fun b=>(∃ o,(b,o)∈L)∨lv.ownBlock=some b) w w'):St w0 hh G L lv us w' d' :=
 ⟨hA,fun p hp=>(hK p.1 (.inl ⟨p.2,hp⟩)).trans (h.bl p hp),h.low,by obtain ⟨B,hr⟩:=h.row;exact ⟨B,row_same hr fun b hb=>hK b (.inr hb)⟩⟩
theorem St.lt (h:St w0 hh G L lv us w d):∀ p∈L,p.1 < w.heap.size:=fun p hp=>bk_lt (h.bl p hp)
theorem St.add (h:St w0 hh G L lv us w d) (o:Obj):St w0 hh G ((w.heap.size,o) :: L) lv us (w.alloc o) d:=by
 have hp:Pur w (w.alloc o):=(Pur.refl w).alloc o
 have nb:=bk_new w o
 refine ⟨(h.at_.keep hp w.heap.size (Nat.le_refl _) (bk_lt nb)).sub fun b hb=>?_,fun p hp2=>?_,fun p hp2=>?_,by obtain ⟨B,hr⟩:=h.row;exact ⟨B,row_pur hr hp⟩⟩
 · rcases hb with ⟨o',hb⟩ | hb
   · rcases List.mem_cons.1 hb with e | hb
     · exact .inr (by injection e)
     · exact .inl (.inl ⟨o',hb⟩)
   · exact .inl (.inr hb)
 · rcases List.mem_cons.1 hp2 with rfl | hp2
   · exact nb
   · exact bk_pur (h.bl p hp2) hp
 · rcases List.mem_cons.1 hp2 with rfl | hp2
   · exact h.at_.pur.size
   · exact h.low p hp2
theorem St.drop {p:Nat × Obj} (h:St w0 hh G (p :: L) lv us w d):St w0 hh G L lv us w d :=
 ⟨h.at_.sub fun b hb=>hb.imp (fun ⟨o,ho⟩=>⟨o,List.mem_cons_of_mem _ ho⟩) id,fun q hq=>h.bl q (List.mem_cons_of_mem _ hq),fun q hq=>h.low q (List.mem_cons_of_mem _ hq),h.row⟩
theorem St.fill {b:Nat} {x:Va} (h:St w0 hh G ((b,.cells Va.zero.cells.toArray 25) :: L) lv us w d) (hne:∀ p∈L,p.1≠b) (hr:lv.ownBlock≠some b):St w0 hh G ((b,.cells x.cells.toArray 25) :: L) lv us (st4 w b x) d:=by
 have hb:=h.bl _ (List.mem_cons_self ..)
 have low:=h.low _ (List.mem_cons_self ..)
 have hl:∀ k,((∃ o,(k,o)∈((b,Obj.cells Va.zero.cells.toArray 25) :: L))∨lv.ownBlock=some k)→k < w.heap.size:=fun k hk=>by obtain ⟨s,-,-,-,-,h5⟩:=h.at_.ex;exact (h5 k hk).1
 have C:Chg [b] w (st4 w b x):=((((Chg.refl [b] w).setCell (a:=⟨b,0,none⟩) (.inl (by simp)) _).setCell (a:=⟨b,1,none⟩) (.inl (by simp)) _).setCell (a:=⟨b,2,none⟩) (.inl (by simp)) _).setCell (a:=⟨b,3,none⟩) (.inl (by simp)) _
 have hm:∀ k,((∃ o,(k,o)∈((b,Obj.cells x.cells.toArray 25) :: L))∨lv.ownBlock=some k)→((∃ o,(k,o)∈((b,Obj.cells Va.zero.cells.toArray 25) :: L))∨lv.ownBlock=some k):=fun k hk=>by
   rcases hk with ⟨o,ho⟩ | hk
   · rcases List.mem_cons.1 ho with e | e
     · obtain ⟨rfl,-⟩:=Prod.mk.inj e
       exact .inl ⟨_,List.mem_cons_self ..⟩
     · exact .inl ⟨o,List.mem_cons_of_mem _ e⟩
   · exact .inr hk
 refine ⟨at_other h.at_ C (by intro k hk;simp at hk;subst hk;exact .inl ⟨_,List.mem_cons_self ..⟩) (by intro k hk;simp at hk;subst hk;exact low) (fun k hk=>⟨.inl (hm k hk),Nat.lt_of_lt_of_le (hl k (hm k hk)) C.size⟩),fun p hp=>?_,fun p hp=>?_,?_⟩
 · rcases List.mem_cons.1 hp with rfl | hp
   · exact st4_at (y:=Va.zero) hb
   · exact bk_chg (h.bl p (List.mem_cons_of_mem _ hp)) C (by simpa using hne p hp)
 · rcases List.mem_cons.1 hp with rfl | hp
   · exact low
   · exact h.low p (List.mem_cons_of_mem _ hp)
 · obtain ⟨B,hrow⟩:=h.row
   exact ⟨B,row_chg hrow C (fun g hg hm=>hr (by simp at hm;rw [hg,hm]))⟩
theorem mem_swap {p q r:Nat × Obj} {L:Bl} (h:r∈p :: q :: L):r∈q :: p :: L:=by
 rcases List.mem_cons.1 h with e | e
 · rw [e];exact List.mem_cons_of_mem _ (List.mem_cons_self ..)
 · rcases List.mem_cons.1 e with e | e
   · rw [e];exact List.mem_cons_self ..
   · exact List.mem_cons_of_mem _ (List.mem_cons_of_mem _ e)
theorem St.swap {p q:Nat × Obj} (h:St w0 hh G (p :: q :: L) lv us w d):St w0 hh G (q :: p :: L) lv us w d :=
 ⟨h.at_.sub fun b hb=>hb.imp (fun ⟨o,ho⟩=>⟨o,mem_swap ho⟩) id,fun r hr=>h.bl r (mem_swap hr),fun r hr=>h.low r (mem_swap hr),h.row⟩
theorem St.fresh (h:St w0 hh G L lv us w d):(∀ p∈L,p.1≠w.heap.size)∧lv.ownBlock≠some w.heap.size:=by
 refine ⟨fun p hp e=>?_,fun e=>?_⟩
 · have:=h.lt p hp;omega
 · obtain ⟨B,hr⟩:=h.row
   have:=(hr.lt _ e).2
   omega
theorem arr_is (c:Int) (l:List Va) (rest:List Ob):isArr (hd c l rest) (ob 1)=true:=rfl
theorem St.concat {c:Int} {l:List Va} {rest:List Ob} (h:St w0 hh G L lv us w (hd c l rest)) (hn:l.length≤1000) (hwf:∀ x∈l,x.wf) {i:Int} (hd':(hd c l rest).array l=((i,0),d')) :
   Calls Tryz.prog 13 #[.pointer (some ⟨hh,0,none⟩),.int .i64 55,(ob 1).v,.slice none 0 0] w fun e w'=>e=.returned (.tuple #[(ob i).v,.int .i64 0])∧St w0 hh G L lv us w' d' :=
 (call_arrays (v:=ob 1) (av:=.slice none 0 0) (vs:=[]) h.at_ (.inl ⟨rfl,rfl⟩) (fun b hb=>by simp [Value.ownBlock] at hb) 55 (ob i) (by decide) (by decide) (arr_is _ _ _) fun K' W cb hcb hka hA hC hp=>arrays_concat hA hC hcb hka hn rfl hwf hd').mono fun e w' ⟨he,hA,hK⟩=>⟨he,h.next hA hK⟩
theorem St.reverse {c:Int} {l:List Va} {rest:List Ob} (h:St w0 hh G L lv us w (hd c l rest)) (hT:HpW w0) (hn:l.length < 200) (hwf:∀ x∈l,x.wf) (hrr:R (2 + rest.length) l) :
   Calls Tryz.prog 13 #[.pointer (some ⟨hh,0,none⟩),.int .i64 56,(ob 1).v,.slice none 0 0] w fun e w'=>e=.returned (.tuple #[(ob 1).v,.int .i64 0])∧St w0 hh G L lv us w' (hd c l.reverse rest) :=
 (call_arrays (v:=ob 1) (av:=.slice none 0 0) (vs:=[]) h.at_ (.inl ⟨rfl,rfl⟩) (fun b hb=>by simp [Value.ownBlock] at hb) 56 (ob 1) (by decide) (by decide) (arr_is _ _ _) fun K' W cb hcb hka hA hC hp=>arrays_reverse hA hC hcb hka (by omega) hn hT hwf hrr).mono fun e w' ⟨he,hA,hK⟩=>⟨he,h.next hA hK⟩
theorem St.pop {c:Int} {l m:List Va} {x:Va} {rest:List Ob} (h:St w0 hh G L lv us w (hd c l rest)) (hT:HpW w0) (hn:m.length < 190) (hlm:l=m ++ [x]) (hc:0≤c) :
   Calls Tryz.prog 13 #[.pointer (some ⟨hh,0,none⟩),.int .i64 51,(ob 1).v,.slice none 0 0] w fun e w'=>e=.returned (.tuple #[x.v,.int .i64 0])∧St w0 hh G L lv us w' (hd (c + 1) m rest) :=
 (call_arrays (v:=ob 1) (av:=.slice none 0 0) (vs:=[]) h.at_ (.inl ⟨rfl,rfl⟩) (fun b hb=>by simp [Value.ownBlock] at hb) 51 x (by decide) (by decide) (arr_is _ _ _) fun K' W cb hcb hka hA hC hp=>arrays_pop hA hC hcb hka (by rw [hlm,List.length_append];simp;omega) m x hlm hn (hT.pur hA.pur) hc).mono fun e w' ⟨he,hA,hK⟩=>⟨he,h.next hA hK⟩
theorem St.push {c:Int} {l:List Va} {x:Va} {rest:List Ob} {ab:Nat} (h:St w0 hh G ((ab,.cells x.cells.toArray 25) :: L) lv us w (hd c l rest)) (hT:HpW w0) (hn:l.length < 190) (hx:x.wf) (hxr:x.right (2 + rest.length)=true) (hc:1≤c) :
   Calls Tryz.prog 13 #[.pointer (some ⟨hh,0,none⟩),.int .i64 50,(ob 1).v,.slice (some ⟨ab,0,none⟩) 1 1] w fun e w'=>e=.returned (.tuple #[(⟨3,f8 (l.length + 1),[],0⟩:Va).v,.int .i64 0])∧St w0 hh G L lv us w' (hd (c - 1) (l ++ [x]) rest) :=
 (call_arrays (v:=ob 1) (av:=.slice (some ⟨ab,0,none⟩) 1 1) (vs:=[x]) h.at_ (.inr ⟨ab,1,(0,0),rfl,by have:=h.bl _ (List.mem_cons_self ..);simpa using this⟩) (fun b hb=>by simp [Value.ownBlock] at hb;subst hb;exact .inl ⟨_,List.mem_cons_self ..⟩) 50 ⟨3,f8 (l.length + 1),[],0⟩ (by decide) (by decide) (arr_is _ _ _) fun K' W cb hcb hka hA hC hp=>arrays_push x hA hC hcb hka (by omega) hn (hT.pur hA.pur) hx hxr hc).mono fun e w' ⟨he,hA,hK⟩=>⟨he,(h.next hA hK).drop⟩
theorem St.slice {c:Int} {l:List Va} {rest:List Ob} {ab:Nat} (h:St w0 hh G ((ab,.cells zz.cells.toArray 25) :: L) lv us w (hd c l rest)) (hn:l.length < 190) (hwf:∀ x∈l,x.wf) {i:Int} (hd':(hd c l rest).array l=((i,0),d')) :
   Calls Tryz.prog 13 #[.pointer (some ⟨hh,0,none⟩),.int .i64 52,(ob 1).v,.slice (some ⟨ab,0,none⟩) 1 1] w fun e w'=>e=.returned (.tuple #[(ob i).v,.int .i64 0])∧St w0 hh G ((ab,.cells zz.cells.toArray 25) :: L) lv us w' d' :=
 (call_arrays (v:=ob 1) (av:=.slice (some ⟨ab,0,none⟩) 1 1) (vs:=[zz]) h.at_ (.inr ⟨ab,1,(0,0),rfl,by have:=h.bl _ (List.mem_cons_self ..);simpa using this⟩) (fun b hb=>by simp [Value.ownBlock] at hb;subst hb;exact .inl ⟨_,List.mem_cons_self ..⟩) 52 (ob i) (by decide) (by decide) (arr_is _ _ _) fun K' W cb hcb hka hA hC hp=>arrays_slice hA hC hcb hka (by omega) (by omega) hwf hd').mono fun e w' ⟨he,hA,hK⟩=>⟨he,h.next hA hK⟩
end Li
end Go.Proofs.YtgdolcoiihagfaaGreatDoor
