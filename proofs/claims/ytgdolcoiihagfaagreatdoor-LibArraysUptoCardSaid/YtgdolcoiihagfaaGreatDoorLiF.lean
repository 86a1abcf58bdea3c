/- Layer 10, in plain words: a text that is split by another one, and joined by it. Layer 10: a call under way: its arguments, their texts and numbers. Layer 10: a call's array; a text that is split. Layer 10: a builtin's call, out of what its part does. Layer 10: builtins of texts: split; a text split by a call; which texts name an array's methods. -/
import Derived.Test.YtgdolcoiihagfaaGreatDoorUtX
import Derived.Test.YtgdolcoiihagfaaGreatDoorLiE
import Derived.Test.YtgdolcoiihagfaaGreatDoorCvC
import Derived.Test.YtgdolcoiihagfaaGreatDoorApX
import Derived.Tactics
import Derived.Tactics2
import Derived.Defers
import Derived.Recover
namespace Go.Proofs.YtgdolcoiihagfaaGreatDoor
open Go Go.RowKit
set_option linter.all false
set_option maxRecDepth 100000
set_option maxHeartbeats 100000000
namespace Li
def splitU (l p:List UInt8):Nat→Nat→List (List UInt8)
 | 0,i=>[sub l (2 * i) l.length]
 | f + 1,i=>if findU l p (p.length / 2) i < 0 then [sub l (2 * i) l.length]
   else sub l (2 * i) (2 * (findU l p (p.length / 2) i).toNat) :: splitU l p f ((findU l p (p.length / 2) i).toNat + p.length / 2)
theorem split_small (l p:List UInt8):∀ f i,∀ y∈splitU l p f i,y.length≤l.length
 | 0,i=>by intro y hy;simp [splitU] at hy;subst hy;exact length_sub_le _ _ _
 | f + 1,i=>by
   intro y hy
   rw [splitU] at hy
   split at hy
   · simp at hy;subst hy;exact length_sub_le _ _ _
   · rcases List.mem_cons.1 hy with rfl | hy
     · exact length_sub_le _ _ _
     · exact split_small l p f _ y hy
end Li
namespace Li
theorem tell_text (hp:Option Addr) (t:List UInt8) (w:World):Calls Tryz.prog 107 #[.pointer hp,(⟨4,0,t,0⟩:Va).v] w fun e w'=>e=.returned (.tuple #[.string ⟨t.toArray⟩,.int .i64 0])∧Pur w w':=by
 simp only [Va.v,Va.cells]
 have TE:∀ (p:Nat) (w:World),Calls Tryz.prog 140 #[.pointer (some ⟨p,0,none⟩),.agg #[.int .i64 4,.float .f64 0,.string ⟨t.toArray⟩,.int .i64 0]] w fun e w'=>e=.returned (.tuple #[.string ⟨t.toArray⟩,.int .i64 0])∧Pur w w':=fun p w=>by
   have P:=(Pur.refl w).alloc (.cells #[.int .i64 4,.float .f64 0,.string ⟨t.toArray⟩,.int .i64 0] 25)
   go_enter Tryz.func140,Tryz.ntmps140
   go_wp2
   refine bodyPost_ret (v:=.tuple #[.string ⟨t.toArray⟩,.int .i64 0]) (by simp [results,Tryz.results140,go_sem]) rfl ⟨rfl,P⟩
 have P:Pur w ((w.alloc (.cells #[.int .i64 4,.float .f64 0,.string ⟨t.toArray⟩,.int .i64 0] 25)).alloc (.cells #[.pointer hp,.slice none 0 0] 170)):=((Pur.refl w).alloc _).alloc _
 go_enter Tryz.func107,Tryz.ntmps107
 go_wp2_with fail
 refine (TE _ _).mono ?_
 rintro e w3 ⟨rfl,h3⟩
 clear TE
 go_wp2
 refine bodyPost_ret (v:=.tuple #[.string ⟨t.toArray⟩,.int .i64 0]) (by simp [results,Tryz.results107,go_sem]) rfl ⟨rfl,P.trans h3⟩
def nanL:Nat:=9221120237041090561
/-- Undefined's number -/
theorem num_und (hp:Option Addr) (w:World) (hT:UT w) (NQ:∀ w',Pur w w'→Calls Tryz.prog 128 #[.string ⟨(wide8 [63]).toArray⟩] w' fun e w''=>e=.returned (.float .f64 nanL)∧Pur w' w'') :
   Calls Tryz.prog 112 #[.pointer hp,Va.zero.v] w fun e w'=>e=.returned (.tuple #[.float .f64 nanL,.int .i64 0])∧Pur w w':=by
 simp only [Va.v,Va.cells,Va.zero]
 have P:=(Pur.refl w).alloc (.cells #[.int .i64 0,.float .f64 0,.string ⟨#[]⟩,.int .i64 0] 25)
 have WD:∀ w',Pur w w'→Calls Tryz.prog 143 #[.string ⟨#[63]⟩] w' fun e w''=>e=.returned (.string ⟨(wide8 [63]).toArray⟩)∧Pur w' w'':=fun w' hp=>by
   have W:=fun w hT=>wide_any [63] w hT (by decide)
   rw [wide_ascii _ (by decide)] at W
   have hT':=hT.pur hp
   go_enter Tryz.func143,Tryz.ntmps143
   go_wp2_with fail
   refine (W _ hT').mono ?_
   rintro e w2 ⟨rfl,h2⟩
   go_wp2
   go_ret
   exact ⟨rfl,h2⟩
 have W1:=WD _ P
 generalize wide8 [63]=q at *
 go_enter Tryz.func112,Tryz.ntmps112
 go_wp2_with fail
 refine W1.mono ?_
 rintro e w1 ⟨rfl,p1⟩
 have N1:=NQ _ (P.trans p1)
 clear W1 WD NQ
 go_wp2_with fail
 refine N1.mono ?_
 rintro e w2 ⟨rfl,p2⟩
 clear N1
 go_wp2
 refine bodyPost_ret (v:=.tuple #[.float .f64 nanL,.int .i64 0]) (by simp [results,Tryz.results112,go_sem]) rfl ⟨rfl,(P.trans p1).trans p2⟩
theorem bk_cellf {w:World} {b:Nat} {cur:Array Value} {e:TypeId} {fr:Nat × Nat} (h:w.heap[b]?=some (.cells cur e fr)) (i:Nat) (v:Value) (hv:cur[i]?=some v):w.cell? ⟨b,i,none⟩=some v:=by
 simp [World.cell?,h,hv]
def AR (w:World) (av:Value) (vs:List Va):Prop:=(av=.slice none 0 0∧vs=[])∨∃ b c fr,av=.slice (some ⟨b,0,none⟩) vs.length c∧w.heap[b]?=some (.cells (vs.flatMap Va.cells).toArray 25 fr)
theorem AR.same {w w':World} {av:Value} {vs:List Va} (h:AR w av vs) (hs:∀ b,av.ownBlock=some b→w'.heap[b]?=w.heap[b]?):AR w' av vs:=by
 rcases h with h | ⟨b,c,fr,rfl,h2⟩
 · exact .inl h
 · exact .inr ⟨b,c,fr,rfl,(hs b rfl).trans h2⟩
theorem AR.lt {w:World} {av:Value} {vs:List Va} (h:AR w av vs):∀ b,av.ownBlock=some b→b < w.heap.size:=by
 rcases h with ⟨rfl,-⟩ | ⟨b,c,fr,rfl,h2⟩
 · intro b hb;simp [Value.ownBlock] at hb
 · intro b' hb
   simp [Value.ownBlock] at hb
   subst hb
   exact bk_lt h2
theorem AR.pur {w w':World} {av:Value} {vs:List Va} (h:AR w av vs) (hp:Pur w w'):AR w' av vs:=h.same fun b hb=>hp.block b (h.lt b hb)
structure CB (w:World) (cb hh:Nat) (v:Va) (av:Value) (vs:List Va):Prop where
 own:w.heap[cb]?=some (.cells #[.pointer (some ⟨hh,0,none⟩),.int .i64 v.kind,.float .f64 v.num,.string ⟨v.text.toArray⟩,.int .i64 v.ref,av] 72 (0,0))
 args:AR w av vs
theorem CB.pur {w w':World} {cb hh:Nat} {v:Va} {av:Value} {vs:List Va} (h:CB w cb hh v av vs) (hp:Pur w w'):CB w' cb hh v av vs:=⟨bk_pur h.own hp,h.args.pur hp⟩
theorem CB.kept {w w':World} {K:Nat→Prop} {cb hh:Nat} {v:Va} {av:Value} {vs:List Va} (h:CB w cb hh v av vs) (hk:Kept K w w') (hc:K cb) (ha:∀ b,av.ownBlock=some b→K b):CB w' cb hh v av vs:=⟨(hk _ hc).trans h.own,h.args.same fun b hb=>hk b (ha b hb)⟩
def argOf (vs:List Va) (i:Nat):Va:=vs[i]?.getD Va.zero
theorem arg_ok {w:World} {cb hh:Nat} {v:Va} {av:Value} {vs:List Va} (h:CB w cb hh v av vs) (i:Nat) (hi:i≤1000) (hn:vs.length≤1000) :
   Calls Tryz.prog 65 #[.pointer (some ⟨cb,0,none⟩),.int .i64 (i:Int)] w fun e w'=>e=.returned (argOf vs i).v∧Pur w w':=by
 have PA:Pur w (w.alloc (.cells #[.int .i64 0,.float .f64 0,.string ⟨#[]⟩,.int .i64 0] 25)):=(Pur.refl w).alloc _
 have h1:=h.pur PA
 have c5:=bk_cell h1.own 5 _ rfl
 by_cases hl:i < vs.length
 · obtain ⟨x,hx⟩:∃ x,vs[i]?=some x:=⟨_,List.getElem?_eq_getElem hl⟩
   have e0:argOf vs i=x:=by unfold argOf;rw [hx];rfl
   rw [e0]
   rcases h1.args with ⟨-,hv⟩ | ⟨b,c,fr,hav,hb⟩
   · rw [hv] at hl;simp at hl
   · have cl:∀ (c:Nat) (u:Value),x.cells[c]?=some u→(w.alloc (.cells #[.int .i64 0,.float .f64 0,.string ⟨#[]⟩,.int .i64 0] 25)).cell? ⟨b,i * 4 + c,none⟩=some u:=fun c u hc=>bk_cellf hb (i * 4 + c) u (by rw [List.getElem?_toArray];exact va_at vs i x hx c u hc)
     have y0:=cl 0 _ rfl
     have y1:=cl 1 _ rfl
     have y2:=cl 2 _ rfl
     have y3:=cl 3 _ rfl
     rw [Nat.add_zero] at y0
     subst hav
     obtain ⟨k,n,t,r⟩:=x
     have d1:decide ((i:Int) < (vs.length:Int))=true:=decide_eq_true (by omega)
     have R8:=bk_new w (.cells #[.int .i64 k,.float .f64 n,.string ⟨t.toArray⟩,.int .i64 r] 25)
     have P8:Pur w (w.alloc (.cells #[.int .i64 k,.float .f64 n,.string ⟨t.toArray⟩,.int .i64 r] 25)):=(Pur.refl w).alloc _
     have HF:=Lib.hid (And.intro R8 P8)
     simp only [Va.v,Va.cells]
     clear h h1 cl R8 P8 PA hb
     go_enter Tryz.func65,Tryz.ntmps65
     go_wp2
     refine bodyPost_ret (results_cell_row rfl _ _ w.heap.size 25 _ (0,0) _ rfl HF.out.1 Tryz.underlying25 rfl (by kernel_rfl)) rfl ⟨rfl,HF.out.2⟩
 · have e0:argOf vs i=Va.zero:=by unfold argOf;rw [List.getElem?_eq_none (by omega)];rfl
   rw [e0]
   simp only [Va.v,Va.cells,Va.zero]
   have d1:decide ((i:Int) < (vs.length:Int))=false:=decide_eq_false (by omega)
   obtain ⟨ao,ac,hav⟩:∃ a c,av=.slice a vs.length c:=by
     rcases h1.args with ⟨e,e2⟩ | ⟨b,c,fr,hav,hb⟩
     · exact ⟨none,0,by rw [e,e2];rfl⟩
     · exact ⟨_,_,hav⟩
   subst hav
   have R8:=bk_new w (.cells #[.int .i64 0,.float .f64 0,.string ⟨#[]⟩,.int .i64 0] 25)
   have P8:=PA
   have HF:=Lib.hid (And.intro R8 P8)
   clear h h1 R8 P8 PA
   go_enter Tryz.func65,Tryz.ntmps65
   go_wp2
   refine bodyPost_ret (results_cell_row rfl _ _ w.heap.size 25 _ (0,0) _ rfl HF.out.1 Tryz.underlying25 rfl (by kernel_rfl)) rfl ⟨rfl,HF.out.2⟩
theorem ctext_ok {w:World} {cb hh:Nat} {v:Va} {av:Value} {vs:List Va} (h:CB w cb hh v av vs) (t:List UInt8) :
   Calls Tryz.prog 64 #[.pointer (some ⟨cb,0,none⟩),(⟨4,0,t,0⟩:Va).v] w fun e w'=>e=.returned (.string ⟨t.toArray⟩)∧Pur w w':=by
 have TT:=fun w=>tell_text (some ⟨hh,0,none⟩) t w
 simp only [Va.v,Va.cells] at TT ⊢
 have PA:Pur w (w.alloc (.cells #[.int .i64 4,.float .f64 0,.string ⟨t.toArray⟩,.int .i64 0] 25)):=(Pur.refl w).alloc _
 have NB:=bk_new w (.cells #[.int .i64 4,.float .f64 0,.string ⟨t.toArray⟩,.int .i64 0] 25)
 have q0:∀ z:PW (w.alloc (.cells #[.int .i64 4,.float .f64 0,.string ⟨t.toArray⟩,.int .i64 0] 25)),z.to.cell? ⟨w.heap.size,0,none⟩=some (.int .i64 4):=fun z=>bk_cell (bk_pur NB z.pur) 0 _ rfl
 have q1:∀ z:PW (w.alloc (.cells #[.int .i64 4,.float .f64 0,.string ⟨t.toArray⟩,.int .i64 0] 25)),z.to.cell? ⟨w.heap.size,1,none⟩=some (.float .f64 0):=fun z=>bk_cell (bk_pur NB z.pur) 1 _ rfl
 have q2:∀ z:PW (w.alloc (.cells #[.int .i64 4,.float .f64 0,.string ⟨t.toArray⟩,.int .i64 0] 25)),z.to.cell? ⟨w.heap.size,2,none⟩=some (.string ⟨t.toArray⟩):=fun z=>bk_cell (bk_pur NB z.pur) 2 _ rfl
 have q3:∀ z:PW (w.alloc (.cells #[.int .i64 4,.float .f64 0,.string ⟨t.toArray⟩,.int .i64 0] 25)),z.to.cell? ⟨w.heap.size,3,none⟩=some (.int .i64 0):=fun z=>bk_cell (bk_pur NB z.pur) 3 _ rfl
 have qc:∀ z:PW (w.alloc (.cells #[.int .i64 4,.float .f64 0,.string ⟨t.toArray⟩,.int .i64 0] 25)),z.to.cell? ⟨cb,0,none⟩=some (.pointer (some ⟨hh,0,none⟩)):=fun z=>bk_cell (bk_pur h.own (PA.trans z.pur)) 0 _ rfl
 clear h NB
 go_enter Tryz.func64,Tryz.ntmps64
 go_wp2_with fail
 refine wp_region_pur (by kernel_rfl) (by kernel_rfl) ?_
 repeat (go_big_quiet_step (((go_at_call 107;with_reducible exact quiet_pur (TT _)))))
 refine wpQuiet_nil ?_
 intro w1 h1
 have CK:=check_ok w1
 clear q0 q1 q2 q3 qc TT
 go_wp2_with fail
 refine CK.mono ?_
 rintro e w2 ⟨rfl,rfl⟩
 clear CK
 go_wp2
 go_ret
 exact ⟨rfl,PA.trans h1⟩
end Li
namespace Li
theorem st4_fin {w0 w:World} {hh G b:Nat} {K K':Nat→Prop} {d:Hd} {x:Va} (h:At w0 hh G K' w d) (hb:K' b) (low:w0.heap.size≤b) (hK:∀ k,K k→K' k∧k≠b):At w0 hh G K (st4 w b x) d∧Kept K w (st4 w b x):=by
 have hl:∀ k,K' k→k < w.heap.size:=fun k hk=>by obtain ⟨s,-,-,-,-,h5⟩:=h.ex;exact (h5 k hk).1
 have C:Chg [b] w (st4 w b x):=((((Chg.refl [b] w).setCell (a:=⟨b,0,none⟩) (.inl (by simp)) _).setCell (a:=⟨b,1,none⟩) (.inl (by simp)) _).setCell (a:=⟨b,2,none⟩) (.inl (by simp)) _).setCell (a:=⟨b,3,none⟩) (.inl (by simp)) _
 exact ⟨at_other h C (by intro k hk;simp at hk;subst hk;exact hb) (by intro k hk;simp at hk;subst hk;exact low) (fun k hk=>⟨.inl (hK k hk).1,Nat.lt_of_lt_of_le (hl k (hK k hk).1) C.size⟩),fun k hk=>C.block k (hl k (hK k hk).1) (by simpa using (hK k hk).2)⟩
theorem fd_kind (k r:Int) (n:Nat) (s:ByteArray) (w:World):(Instr.field 25 (.agg #[.int .i64 k,.float .f64 n,.string s,.int .i64 r]) 0).run Tryz.prog w=.ok (.int .i64 k) w:=by kernel_rfl
def ob (i:Int):Va:=⟨5,0,[],i⟩
def tx (t:List UInt8):Va:=⟨4,0,t,0⟩
theorem carray_ok {w0 w:World} {hh G cb:Nat} {K:Nat→Prop} {d d':Hd} {v:Va} {av:Value} {vs:List Va} (h:At w0 hh G K w d) (hc:CB w cb hh v av vs) (us:List Va) (vv:Value) (hv:VRead2 w vv us) (hwf:∀ x∈us,x.wf) (hn:us.length≤1000000) {i:Int} (hd:d.array us=((i,0),d')) :
   Calls Tryz.prog 74 #[.pointer (some ⟨cb,0,none⟩),vv] w fun e w'=>e=.returned (ob i).v∧At w0 hh G K w' d'∧Kept K w w':=by
 have PA:Pur w (w.alloc (.cells #[.int .i64 0,.float .f64 0,.string ⟨#[]⟩,.int .i64 0] 25)):=(Pur.refl w).alloc _
 have NB:=bk_new w (.cells #[.int .i64 0,.float .f64 0,.string ⟨#[]⟩,.int .i64 0] 25)
 have A1:=h.keep PA w.heap.size (Nat.le_refl _) (bk_lt NB)
 have K1:=(h.pure PA).2
 have c0:=bk_cell (hc.pur PA).own 0 _ rfl
 have hKl:∀ b,K b→b < w.heap.size:=fun b hb=>by obtain ⟨s,-,-,-,-,h5⟩:=h.ex;exact (h5 b hb).1
 have hw0:=h.pur.size
 have AR:=array2_st A1 vv us (hv.pur PA) hwf hn
 rw [hd] at AR
 have CK:=fun w=>check_ok w
 have EO:=fun i w=>eobject_any i w
 simp only [ob,Va.v,Va.cells]
 clear h hc hv hwf hd
 go_enter Tryz.func74,Tryz.ntmps74
 go_wp2_with fail
 refine AR.mono ?_
 rintro e w1 ⟨rfl,A2,K2⟩
 clear AR A1
 go_wp2_with fail
 refine (CK _).mono ?_
 rintro e w2 ⟨rfl,rfl⟩
 go_wp2_with fail
 refine (EO _ _).mono ?_
 rintro e w3 ⟨rfl,p3⟩
 obtain ⟨A3,K3⟩:=A2.pure p3
 have NB3:=bk_pur ((K2 _ (.inr rfl)).trans NB) p3
 obtain ⟨⟨s0,s1⟩,⟨s2,s3⟩,⟨s4,s5⟩,⟨s6,s7⟩⟩:=st4_steps (y:=Va.zero) (x:=ob i) NB3
 have R8:=st4_at (y:=Va.zero) (x:=ob i) NB3
 obtain ⟨A4,K4⟩:=st4_fin (x:=ob i) (K:=K) A3 (.inr rfl) hw0 (fun k hk=>⟨.inl hk,by have:=hKl k hk;omega⟩)
 have HF:=Lib.hid (And.intro R8 (And.intro A4 (((K1.trans fun b hb=>K2 b (.inl hb)).trans fun b hb=>K3 b (.inl hb)).trans K4)))
 clear R8 A4 K4 A3 A2 K1 K2 K3 NB NB3 CK EO p3 PA
 simp only [st4,Va.zero,ob] at s0 s1 s2 s3 s4 s5 s6 s7 HF
 go_wp2
 refine bodyPost_ret (results_cell_row rfl _ _ w.heap.size 25 _ (0,0) _ rfl HF.out.1 Tryz.underlying25 rfl (by kernel_rfl)) rfl ⟨rfl,HF.out.2⟩
theorem sub_full (l:List UInt8):sub l 0 l.length=l:=by simp [sub]
theorem tx_snoc (L:List (List UInt8)) (t:List UInt8):((L ++ [t]).map tx).flatMap Va.cells=(L.map tx).flatMap Va.cells ++ [.int .i64 4,.float .f64 0,.string ⟨t.toArray⟩,.int .i64 0]:=by
 rw [List.map_append,List.flatMap_append]
 simp [tx,Va.cells]
theorem csplit_ok {w0 w:World} {hh G cb:Nat} {K:Nat→Prop} {d d':Hd} {v:Va} {av:Value} (l p:List UInt8) (h:At w0 hh G K w d) (hc:CB w cb hh v av [tx p]) (hK:K cb) (hKa:∀ b,av.ownBlock=some b→K b) (hl:l.length≤4000) (hp:p.length≤4000) (hl2:l.length % 2=0) (hp2:p.length % 2=0) (hp0:0 < p.length)
   {i:Int} (hd:d.array ((splitU l p (l.length / 2 + 1) 0).map tx)=((i,0),d')) :
   Calls Tryz.prog 70 #[.pointer (some ⟨cb,0,none⟩),.string ⟨l.toArray⟩] w fun e w'=>e=.returned (ob i).v∧At w0 hh G K w' d'∧Kept K w w':=by
 obtain ⟨i0,hi,hz⟩:=Option.map_eq_some_iff.1 va_info
 simp only [Prod.mk.injEq] at hz
 obtain ⟨hz0,hz1,hz2⟩:=hz
 obtain ⟨z0,hz0,hzs⟩:=Option.map_eq_some_iff.1 hz0
 have PA:Pur w (w.alloc (.cells #[.int .i64 0,.float .f64 0,.string ⟨#[]⟩,.int .i64 0] 25)):=(Pur.refl w).alloc _
 have NB:=bk_new w (.cells #[.int .i64 0,.float .f64 0,.string ⟨#[]⟩,.int .i64 0] 25)
 have A1:=h.keep PA w.heap.size (Nat.le_refl _) (bk_lt NB)
 have K1:=(h.pure PA).2
 have C1:=hc.pur PA
 have hKl:∀ b,K b→b < w.heap.size:=fun b hb=>by obtain ⟨s,-,-,-,-,h5⟩:=h.ex;exact (h5 b hb).1
 have hw0:=h.pur.size
 have AG:=fun w' (hp:Pur (w.alloc (.cells #[.int .i64 0,.float .f64 0,.string ⟨#[]⟩,.int .i64 0] 25)) w')=>arg_ok (C1.pur hp) 0 (by decide) (show 1≤1000 by decide)
 have TT:=fun w' (hp:Pur (w.alloc (.cells #[.int .i64 0,.float .f64 0,.string ⟨#[]⟩,.int .i64 0] 25)) w')=>ctext_ok (C1.pur hp) p
 simp only [show argOf [tx p] 0=tx p from rfl] at AG
 simp only [tx,Va.v,Va.cells,Int.natCast_zero] at AG TT
 replace AG:∀ w',Pur (w.alloc (.cells #[.int .i64 0,.float .f64 0,.string ⟨#[]⟩,.int .i64 0] 25)) w'→Calls Tryz.prog 65 #[.pointer (some ⟨cb,0,none⟩),.int .i64 0] w' fun e w''=>e=.returned (.agg #[.int .i64 4,.float .f64 0,.string ⟨p.toArray⟩,.int .i64 0])∧Pur w' w'':=AG
 have LE:=fun (x:List UInt8) (hx:x.length≤9223372036854775807) w=>length_any x w hx
 have FI:=fun (i:Int) w=>find_any l p i w (by omega) (by omega)
 rw [show sub p 0 (2 * (p.length / 2))=p by rw [show 2 * (p.length / 2)=p.length by omega];exact sub_full p] at FI
 have CU:=fun (i j:Int) w=>cut_any l i j w (by omega)
 have TE:=fun x w=>etext_any x w
 have hfd:=fd_kind
 have hpe:p.isEmpty=false:=by cases p with
   | nil=>simp at hp0
   | cons a b=>rfl
 clear h hc
 simp only [ob,Va.v,Va.cells]
 go_enter Tryz.func70,Tryz.ntmps70
 go_wp2_with fail
 generalize w.alloc (.cells #[.int .i64 0,.float .f64 0,.string ⟨#[]⟩,.int .i64 0] 25)=wA at *
 refine (AG _ (Pur.refl _)).mono ?_
 rintro e w1 ⟨rfl,p1⟩
 go_wp2_with fail
 refine (AG _ p1).mono ?_
 rintro e w2 ⟨rfl,p2⟩
 go_wp2_with fail
 refine (TT _ (p1.trans p2)).mono ?_
 rintro e w3 ⟨rfl,p3⟩
 have P3:=(p1.trans p2).trans p3
 obtain ⟨A3,K3⟩:=A1.pure P3
 have NB3:=bk_pur NB P3
 have C3:=C1.pur P3
 have K13:=K1.trans fun b hb=>K3 b (.inl hb)
 clear AG TT A1 K1 C1 NB P3 p1 p2 p3 K3
 go_wp2_with fail
 refine (LE l (by omega) _).mono ?_
 rintro e w4 ⟨rfl,rfl⟩
 go_wp2
 go_loopw [6,9] (fun lv fv wr=>∃ (L:List (List UInt8)) (n:Nat),fv=.int .i64 (n:Int)∧n≤l.length / 2∧L.length≤n∧Pur w3 wr∧wr.ownsRow w3.heap.size 25 4 lv L.length ((L.map tx).flatMap Va.cells)∧Hid (∃ f,l.length / 2 + 1 - n≤f∧splitU l p (l.length / 2 + 1) 0=L ++ splitU l p f n)) (fun _ fv _=>l.length / 2 + 1 - (intOf fv).toNat)
 case atStart=>exact ⟨[],0,rfl,by omega,by simp,Pur.refl _,World.ownsRow_nil _ _ _ _,Lib.hid ⟨_,Nat.le_refl _,rfl⟩⟩
 case round =>
   obtain ⟨L,n,rfl,hn,hLn,hpr,hr,HS⟩:=hrel
   obtain ⟨la,lc,hlv⟩:=row_shape hr
   subst hlv
   have FIn:=FI (n:Int)
   rw [show (max (n:Int) 0).toNat=n by omega] at FIn
   have HFn:Hid (_):=Lib.hid (findU_spec l p (p.length / 2) (l.length / 2 + 1) n (by omega))
   obtain ⟨q,hq⟩:∃ q,findU l p (p.length / 2) n=q:=⟨_,rfl⟩
   rw [hq] at FIn
   have HQ:=Lib.hid hq
   clear hq
   go_wp2_with fail
   refine (FIn _).mono ?_
   rintro e w5 ⟨rfl,p5⟩
   clear FIn FI
   by_cases hneg:q < 0
   · have d1:decide (q < 0)=true:=decide_eq_true hneg
     have e1:sub l (2 * n) (2 * (l.length / 2))=sub l (2 * n) l.length:=by rw [show 2 * (l.length / 2)=l.length by omega]
     have CUn:=CU (n:Int) ((l.length / 2:Nat):Int)
     rw [cutU_in l n (l.length / 2) (Nat.le_refl _) hn] at CUn
     obtain ⟨t,ht⟩:∃ t,sub l (2 * n) (2 * (l.length / 2))=t:=⟨_,rfl⟩
     rw [ht] at CUn e1
     have htl:t.length≤4000:=by rw [← ht];exact Nat.le_trans (length_sub_le _ _ _) hl
     have hspl:Hid (splitU l p (l.length / 2 + 1) 0=L ++ [t]):=by
       refine Lib.hid ?_
       obtain ⟨f,hf,e⟩:=HS.out
       rw [e]
       congr 1
       obtain ⟨g,rfl⟩:∃ g,f=g + 1:=⟨f - 1,by omega⟩
       rw [splitU,HQ.out,if_pos hneg,e1]
     clear ht e1 CU HFn HS HQ
     have hr5:=row_pur hr p5
     have hp5:=hpr.trans p5
     clear hr hpr p5
     go_wp2_with fail
     refine (CUn _).mono ?_
     rintro e w6 ⟨rfl,p6⟩
     clear CUn
     go_wp2_with fail
     refine (TE _ _).mono ?_
     rintro e w7 ⟨rfl,p7⟩
     have hr7:=row_pur hr5 (p6.trans p7)
     have PX:Pur w3 (w7.alloc (.cells #[.int .i64 4,.float .f64 0,.string ⟨t.toArray⟩,.int .i64 0] 25)):=((hp5.trans p6).trans p7).alloc _
     have HRow:=Lib.hid (hr7.alloc (.cells #[.int .i64 4,.float .f64 0,.string ⟨t.toArray⟩,.int .i64 0] 25))
     have NBX:=bk_new w7 (.cells #[.int .i64 4,.float .f64 0,.string ⟨t.toArray⟩,.int .i64 0] 25)
     have HFe:Hid (Feeds (w7.alloc (.cells #[.int .i64 4,.float .f64 0,.string ⟨t.toArray⟩,.int .i64 0] 25)) 4 (some ⟨w7.heap.size,0,none⟩) 1 [.int .i64 4,.float .f64 0,.string ⟨t.toArray⟩,.int .i64 0]):=Lib.hid ⟨rfl,fun _=>⟨_,rfl,World.news_of_block (cs:=#[.int .i64 4,.float .f64 0,.string ⟨t.toArray⟩,.int .i64 0]) (t:=25) (fr:=(0,0)) NBX⟩⟩
     have HLT:=Lib.hid hr7.lt
     clear hr5 hr7 NBX p6 p7 hp5
     go_wp2_with (at_builtin;refine wpList_append_feeds rfl _ _ 22 rfl w3.heap.size 25 i0 z0 4 40 Tryz.underlying22 hi hz0 hz1 hz2 hzs (by decide) _ _ _ rfl HRow.out _ _ _ [.int .i64 4,.float .f64 0,.string ⟨t.toArray⟩,.int .i64 0] rfl HFe.out (by simp [Value.oneCell']) ?c3 ?c4 PX.size ?_)
     case c3=>unfold maxLen;omega
     case c4=>omega
     intro v5 w8 hown5 hgrow
     have hp8:Pur w3 w8:=Below.grown PX hgrow PX.size (fun k hk=>(HLT.out k hk).1)
     rw [← tx_snoc] at hown5
     obtain ⟨A8,K8⟩:=A3.pure hp8
     have hlen:(splitU l p (l.length / 2 + 1) 0).length=L.length + 1:=by rw [hspl.out,List.length_append];rfl
     have AR:=carray_ok A8 (C3.pur hp8) ((splitU l p (l.length / 2 + 1) 0).map tx) v5 (.inl (VRead.of_own (by rw [List.length_map,hlen,hspl.out];exact hown5))) (by
       rw [hspl.out]
       intro x hx
       obtain ⟨y,hy,rfl⟩:=List.mem_map.1 hx
       have:y.length≤4000:=by
         rcases List.mem_append.1 hy with hy | hy
         · have hm:=split_small l p (l.length / 2 + 1) 0 y (by rw [hspl.out];exact List.mem_append_left _ hy)
           omega
         · simp at hy;subst hy;exact htl
       exact ⟨show (0:Nat) < 18446744073709551616 by decide,by show y.length≤1000000000;omega⟩) (by rw [List.length_map,hlen];omega) hd
     clear hown5 hgrow HRow HFe HLT PX C3
     simp only [ob,Va.v,Va.cells] at AR
     go_wp2_with fail
     refine AR.mono ?_
     rintro e w9 ⟨rfl,A9,K9⟩
     have NB9:=(K9 _ (.inr rfl)).trans (bk_pur NB3 hp8)
     obtain ⟨⟨s0,s1⟩,⟨s2,s3⟩,⟨s4,s5⟩,⟨s6,s7⟩⟩:=st4_steps (y:=Va.zero) (x:=ob i) NB9
     have R8:=st4_at (y:=Va.zero) (x:=ob i) NB9
     obtain ⟨A10,K10⟩:=st4_fin (x:=ob i) (K:=K) A9 (.inr rfl) hw0 (fun k hk=>⟨.inl hk,by have:=hKl k hk;omega⟩)
     have HF:=Lib.hid (And.intro R8 (And.intro A10 ((((K13.trans fun b hb=>K8 b (.inl hb)).trans fun b hb=>K9 b (.inl hb))).trans K10)))
     clear R8 A10 K10 A9 A8 A3 K13 K8 K9 NB9 NB3 AR
     simp only [st4,Va.zero,ob] at s0 s1 s2 s3 s4 s5 s6 s7 HF
     go_wp2
     refine bodyPost_ret (results_cell_row rfl _ _ w.heap.size 25 _ (0,0) _ rfl HF.out.1 Tryz.underlying25 rfl (by kernel_rfl)) rfl ⟨rfl,HF.out.2⟩
   · obtain ⟨m,hqm,hnm,hml⟩:∃ m:Nat,q=(m:Int)∧n≤m∧m + p.length / 2≤l.length / 2:=by
       have e:=HQ.out
       rcases HFn.out with ⟨e1,-⟩ | ⟨m,e1,h1,h2,-⟩
       · exact absurd (show q < 0 by rw [← e,e1];decide) hneg
       · exact ⟨m,by rw [← e,e1],h1,h2⟩
     subst hqm
     have d1:decide ((m:Int) < 0)=false:=decide_eq_false hneg
     have CUn:=CU (n:Int) (m:Int)
     rw [cutU_in l n m (by omega) hnm] at CUn
     obtain ⟨t,ht⟩:∃ t,sub l (2 * n) (2 * m)=t:=⟨_,rfl⟩
     rw [ht] at CUn
     have hnew:Hid (∃ f,l.length / 2 + 1 - (m + p.length / 2)≤f∧splitU l p (l.length / 2 + 1) 0=(L ++ [t]) ++ splitU l p f (m + p.length / 2)):=by
       refine Lib.hid ?_
       obtain ⟨f,hf,e⟩:=HS.out
       obtain ⟨g,rfl⟩:∃ g,f=g + 1:=⟨f - 1,by omega⟩
       refine ⟨g,by omega,?_⟩
       rw [e,splitU,HQ.out,if_neg (by omega),Int.toNat_natCast,ht]
       simp
     clear ht CU HFn HS HQ
     have hr5:=row_pur hr p5
     have hp5:=hpr.trans p5
     clear hr hpr p5
     go_wp2_with fail
     refine (CUn _).mono ?_
     rintro e w6 ⟨rfl,p6⟩
     clear CUn
     go_wp2_with fail
     refine (TE _ _).mono ?_
     rintro e w7 ⟨rfl,p7⟩
     have hr7:=row_pur hr5 (p6.trans p7)
     have PX:Pur w3 (w7.alloc (.cells #[.int .i64 4,.float .f64 0,.string ⟨t.toArray⟩,.int .i64 0] 25)):=((hp5.trans p6).trans p7).alloc _
     have HRow:=Lib.hid (hr7.alloc (.cells #[.int .i64 4,.float .f64 0,.string ⟨t.toArray⟩,.int .i64 0] 25))
     have NBX:=bk_new w7 (.cells #[.int .i64 4,.float .f64 0,.string ⟨t.toArray⟩,.int .i64 0] 25)
     have HFe:Hid (Feeds (w7.alloc (.cells #[.int .i64 4,.float .f64 0,.string ⟨t.toArray⟩,.int .i64 0] 25)) 4 (some ⟨w7.heap.size,0,none⟩) 1 [.int .i64 4,.float .f64 0,.string ⟨t.toArray⟩,.int .i64 0]):=Lib.hid ⟨rfl,fun _=>⟨_,rfl,World.news_of_block (cs:=#[.int .i64 4,.float .f64 0,.string ⟨t.toArray⟩,.int .i64 0]) (t:=25) (fr:=(0,0)) NBX⟩⟩
     have HLT:=Lib.hid hr7.lt
     clear hr5 hr7 NBX p6 p7 hp5
     go_wp2_with (at_builtin;refine wpList_append_feeds rfl _ _ 22 rfl w3.heap.size 25 i0 z0 4 40 Tryz.underlying22 hi hz0 hz1 hz2 hzs (by decide) _ _ _ rfl HRow.out _ _ _ [.int .i64 4,.float .f64 0,.string ⟨t.toArray⟩,.int .i64 0] rfl HFe.out (by simp [Value.oneCell']) ?c3 ?c4 PX.size ?_)
     case c3=>unfold maxLen;omega
     case c4=>omega
     intro v5 w8 hown5 hgrow
     have hp8:Pur w3 w8:=Below.grown PX hgrow PX.size (fun k hk=>(HLT.out k hk).1)
     rw [← tx_snoc] at hown5
     have HO:=Lib.hid (show w8.ownsRow w3.heap.size 25 4 v5 (L ++ [t]).length (((L ++ [t]).map tx).flatMap Va.cells) by rw [List.length_append];exact hown5)
     have wr1:IntKind.i64.wrap ((m:Int) + ((p.length / 2:Nat):Int))=((m + p.length / 2:Nat):Int):=IntWalk.i64_in _ (by omega)
     clear hown5 hgrow HRow HFe HLT PX
     go_wp2_with fail
     refine (LE p (by omega) _).mono ?_
     rintro e w9 ⟨rfl,rfl⟩
     clear LE TE
     go_wp2
     go_roundw
     case rel=>exact ⟨L ++ [t],m + p.length / 2,by go_num,hml,by simp;omega,hp8,HO.out,hnew⟩
     case measure=>simp [intOf];omega
end Li
namespace Li
theorem call_idle (p q:Nat) (w:World) :
   CallsD Tryz.prog 32 #[.pointer (some ⟨p,0,none⟩),.pointer (some ⟨q,0,none⟩)] .returning w fun e u' w'=>e=.returned (.tuple #[])∧u'=.returning∧w'=w:=by
 refine callsD_of_wpS Tryz.func32 rfl fun c₀ cs hu=>?_
 apply wpS_seq
 apply wpS_region
 simp [wpOpsS,go_sem,recoverD,hu,Tryz.ntmps32,Exit.thenS]
 apply wpS_seq
 apply wpS_region
 simp [wpOpsS,go_sem,Exit.thenS,Act.eval,Array.replicate]
 refine wpS_cond (t:=false) (by simp [Act.eval,Array.replicate]) ?_
 simp only [Bool.false_eq_true,if_false]
 refine wpS_of_wp (wp_skip ?_)
 cases c₀
 simp_all [bodyPostS,results,Tryz.results32]
theorem AR.shape {w:World} {av:Value} {vs:List Va} (h:AR w av vs):∃ a m c,av=.slice a m c:=by
 rcases h with ⟨rfl,-⟩ | ⟨b,c,fr,rfl,-⟩
 · exact ⟨_,_,_,rfl⟩
 · exact ⟨_,_,_,rfl⟩
theorem call_blocks (w:World) (hh:Nat) (v:Va) (av:Value):∃ W0,W0=(((w.alloc (.cells #[.int .i64 v.kind,.float .f64 v.num,.string ⟨v.text.toArray⟩,.int .i64 v.ref] 25)).alloc (.cells #[.int .i64 0,.float .f64 0,.string ⟨#[]⟩,.int .i64 0] 25)).alloc (.cells #[.int .i64 0] 29)).alloc (.cells #[.pointer (some ⟨hh,0,none⟩),.int .i64 v.kind,.float .f64 v.num,.string ⟨v.text.toArray⟩,.int .i64 v.ref,av] 72) ∧
   Pur w W0∧W0.heap.size=w.heap.size + 1 + 1 + 1 + 1 ∧
   W0.heap[w.heap.size]?=some (.cells #[.int .i64 v.kind,.float .f64 v.num,.string ⟨v.text.toArray⟩,.int .i64 v.ref] 25 (0,0)) ∧
   W0.heap[w.heap.size + 1]?=some (.cells Va.zero.cells.toArray 25 (0,0))∧W0.heap[w.heap.size + 1 + 1]?=some (.cells #[.int .i64 0] 29 (0,0)) ∧
   W0.heap[w.heap.size + 1 + 1 + 1]?=some (.cells #[.pointer (some ⟨hh,0,none⟩),.int .i64 v.kind,.float .f64 v.num,.string ⟨v.text.toArray⟩,.int .i64 v.ref,av] 72 (0,0)):=by
 obtain ⟨Wa,hWa⟩:∃ Wa,Wa=w.alloc (.cells #[.int .i64 v.kind,.float .f64 v.num,.string ⟨v.text.toArray⟩,.int .i64 v.ref] 25):=⟨_,rfl⟩
 obtain ⟨Wb,hWb⟩:∃ Wb,Wb=Wa.alloc (.cells #[.int .i64 0,.float .f64 0,.string ⟨#[]⟩,.int .i64 0] 25):=⟨_,rfl⟩
 obtain ⟨Wc,hWc⟩:∃ Wc,Wc=Wb.alloc (.cells #[.int .i64 0] 29):=⟨_,rfl⟩
 obtain ⟨Wd,hWd⟩:∃ Wd,Wd=Wc.alloc (.cells #[.pointer (some ⟨hh,0,none⟩),.int .i64 v.kind,.float .f64 v.num,.string ⟨v.text.toArray⟩,.int .i64 v.ref,av] 72):=⟨_,rfl⟩
 have sa:Wa.heap.size=w.heap.size + 1:=by rw [hWa];exact Array.size_push _
 have sb:Wb.heap.size=w.heap.size + 1 + 1:=by rw [← sa,hWb];exact Array.size_push _
 have sc:Wc.heap.size=w.heap.size + 1 + 1 + 1:=by rw [← sb,hWc];exact Array.size_push _
 have sd:Wd.heap.size=w.heap.size + 1 + 1 + 1 + 1:=by rw [← sc,hWd];exact Array.size_push _
 refine ⟨Wd,by rw [hWd,hWc,hWb,hWa],?_,sd,?_,?_,?_,?_⟩
 · rw [hWd,hWc,hWb,hWa];exact ((((Pur.refl w).alloc _).alloc _).alloc _).alloc _
 · rw [hWd,hWc,hWb,hWa];exact bk_alloc (bk_alloc (bk_alloc (bk_new w _) _) _) _
 · rw [hWd,hWc,hWb,← sa];exact bk_alloc (bk_alloc (bk_new Wa _) _) _
 · rw [hWd,hWc,← sb];exact bk_alloc (bk_new Wb _) _
 · rw [hWd,← sc];exact bk_new Wc _
theorem call_fin {w0 w4 W5:World} {hh G s:Nat} {K K':Nat→Prop} {d:Hd} (x:Va) (en:Int) (h:At w0 hh G K' w4 d) (hb:K' (s + 1)) (hb':K' (s + 1 + 1)) (low:w0.heap.size≤s) (hK:∀ k,K k→K' k∧k < s) (hW5:W5=(st4 w4 (s + 1) x).setCell ⟨s + 1 + 1,0,none⟩ (.int .i64 en)) :
   At w0 hh G K W5 d∧Kept K w4 W5:=by
 have hl:∀ k,K' k→k < w4.heap.size:=fun k hk=>by obtain ⟨s,-,-,-,-,h5⟩:=h.ex;exact (h5 k hk).1
 have C:Chg [s + 1,s + 1 + 1] w4 W5:=by
   rw [hW5]
   exact (((((Chg.refl [s + 1,s + 1 + 1] w4).setCell (a:=⟨s + 1,0,none⟩) (.inl (by simp)) _).setCell (a:=⟨s + 1,1,none⟩) (.inl (by simp)) _).setCell (a:=⟨s + 1,2,none⟩) (.inl (by simp)) _).setCell (a:=⟨s + 1,3,none⟩) (.inl (by simp)) _).setCell (a:=⟨s + 1 + 1,0,none⟩) (.inl (by simp)) _
 refine ⟨at_other h C (by intro k hk;simp at hk;rcases hk with rfl | rfl <;> assumption) (by intro k hk;simp at hk;omega) (fun k hk=>⟨.inl (hK k hk).1,Nat.lt_of_lt_of_le (hl k (hK k hk).1) C.size⟩),fun k hk=>C.block k (hl k (hK k hk).1) ?_⟩
 have:=(hK k hk).2
 simp
 omega
theorem call_texts {w0 w:World} {hh G:Nat} {K:Nat→Prop} {d d':Hd} {v:Va} {av:Value} {vs:List Va} (h:At w0 hh G K w d) (har:AR w av vs) (hKa:∀ b,av.ownBlock=some b→K b) (id:Int) (x:Va) (h70:70≤id) (hv4:v.kind=4)
   (C:∀ (K':Nat→Prop) (W:World) (cb:Nat),K' cb→(∀ b,av.ownBlock=some b→K' b)→At w0 hh G K' W d→CB W cb hh v av vs→Pur w W→Calls Tryz.prog 33 #[.pointer (some ⟨cb,0,none⟩),.int .i64 id] W fun e w'=>e=.returned x.v∧At w0 hh G K' w' d'∧Kept K' W w') :
   Calls Tryz.prog 13 #[.pointer (some ⟨hh,0,none⟩),.int .i64 id,v.v,av] w fun e w'=>e=.returned (.tuple #[x.v,.int .i64 0])∧At w0 hh G K w' d'∧Kept K w w':=by
 have hmf:∀ (fn:Fn) (first cap:Array Value) (w:World),(Instr.makeFunc fn first cap).run Tryz.prog w=.ok (.func fn first cap) w:=fun _ _ _ _=>rfl
 obtain ⟨aa,am,ac,rfl⟩:=har.shape
 obtain ⟨W0,hW0,hP,hsz,ba,bb,bc,bd⟩:=call_blocks w hh v (.slice aa am ac)
 have hKl:∀ b,K b→b < w.heap.size:=fun b hb=>by obtain ⟨s,-,-,-,-,h5⟩:=h.ex;exact (h5 b hb).1
 have hw0:=h.pur.size
 have A0:At w0 hh G (fun b=>((K b∨b=w.heap.size + 1)∨b=w.heap.size + 1 + 1)∨b=w.heap.size + 1 + 1 + 1) W0 d:=at_other h (Chg.of_pur (S:=[]) hP) (by intro b hb;cases hb) (by intro b hb;cases hb) (fun b hb=>by
   rcases hb with ((hb | hb) | hb) | hb
   · exact ⟨.inl hb,by have:=hKl b hb;omega⟩
   · exact ⟨.inr (by omega),by omega⟩
   · exact ⟨.inr (by omega),by omega⟩
   · exact ⟨.inr (by omega),by omega⟩)
 have K0:Kept K w W0:=(h.pure hP).2
 have HC:CB W0 (w.heap.size + 1 + 1 + 1) hh v (.slice aa am ac) vs:=⟨bd,har.pur hP⟩
 have d1:decide (70≤id)=true:=decide_eq_true h70
 have CC:=C _ W0 _ (.inr rfl) (fun b hb=>.inl (.inl (.inl (hKa b hb)))) A0 HC hP
 have Q1:Pur W0 W0:=Pur.refl _
 have KQ:Kept (fun b=>((K b∨b=w.heap.size + 1)∨b=w.heap.size + 1 + 1)∨b=w.heap.size + 1 + 1 + 1) W0 W0:=fun _ _=>rfl
 clear C HC
 have r0:=bk_cell ba 0 _ rfl
 have r1:=bk_cell ba 1 _ rfl
 have r2:=bk_cell ba 2 _ rfl
 have r3:=bk_cell ba 3 _ rfl
 obtain ⟨k,n,t,r⟩:=v
 obtain ⟨xk,xn,xt,xr⟩:=x
 obtain rfl:k=4:=hv4
 simp only [Va.v,Va.cells] at *
 clear h har bd
 go_enter_defers Tryz.func13,Tryz.ntmps13
 go_wp2_with fail
 rw [← hW0]
 refine CC.mono ?_
 rintro e w4 ⟨rfl,A4,K4⟩
 have c0:=(K4 _ (.inl (.inl (.inr rfl)))).trans (bk_pur bb Q1)
 have c1:=(K4 _ (.inl (.inr rfl))).trans (bk_pur bc Q1)
 obtain ⟨⟨s0,s1⟩,⟨s2,s3⟩,⟨s4,s5⟩,⟨s6,s7⟩⟩:=st4_steps (y:=Va.zero) (x:=⟨xk,xn,xt,xr⟩) c0
 have R8:=st4_at (y:=Va.zero) (x:=⟨xk,xn,xt,xr⟩) c0
 have c1':=st4_other (x:=⟨xk,xn,xt,xr⟩) c1 (show w.heap.size + 1 + 1≠w.heap.size + 1 by omega)
 have e1:=bk_cell c1' 0 _ rfl
 have f1:=bk_free c1' 0
 obtain ⟨W5,hW5⟩:∃ W5,W5=(st4 w4 (w.heap.size + 1) ⟨xk,xn,xt,xr⟩).setCell ⟨w.heap.size + 1 + 1,0,none⟩ (.int .i64 0):=⟨_,rfl⟩
 obtain ⟨A5,K5⟩:=call_fin (K:=K) ⟨xk,xn,xt,xr⟩ 0 A4 (.inl (.inl (.inr rfl))) (.inl (.inr rfl)) hw0 (fun k hk=>⟨.inl (.inl (.inl hk)),hKl k hk⟩) hW5
 have z0:W5.heap[w.heap.size + 1]?=some (.cells (⟨xk,xn,xt,xr⟩:Va).cells.toArray 25 (0,0)):=by rw [hW5];exact bk_other R8 (a:=⟨w.heap.size + 1 + 1,0,none⟩) (by simp) _
 have z1:W5.heap[w.heap.size + 1 + 1]?=some (.cells #[.int .i64 0] 29 (0,0)):=by rw [hW5];exact bk_set c1' 0 _
 have HF:=Lib.hid (And.intro A5 (((K0.trans fun b hb=>KQ b (.inl (.inl (.inl hb)))).trans fun b hb=>K4 b (.inl (.inl (.inl hb)))).trans K5))
 have HW:=Lib.hid hW5
 clear A5 K5 A4 K4 K0 KQ A0 hW5 R8 ba bb bc CC
 simp only [st4,Va.zero] at s0 s1 s2 s3 s4 s5 s6 s7 e1 f1 HW
 go_wp2
 rw [← HW.out]
 have y0:=bk_cell z0 0 _ rfl
 have y1:=bk_cell z0 1 _ rfl
 have y2:=bk_cell z0 2 _ rfl
 have y3:=bk_cell z0 3 _ rfl
 have y4:=bk_cell z1 0 _ rfl
 have hend:=HF.out
 clear HW s0 s1 s2 s3 s4 s5 s6 s7 e1 f1 c0 c1 c1' z0 z1
 refine leaves_cons (f:=32) (args:=#[.pointer (some ⟨w.heap.size + 1,0,none⟩),.pointer (some ⟨w.heap.size + 1 + 1,0,none⟩)]) (by simp) (by simp [go_sem]) ?_
 refine (call_idle _ _ W5).mono ?_
 rintro e u' w3 ⟨rfl,rfl,rfl⟩
 simp [Leaves,settle,results,Tryz.results13,go_sem,y0,y1,y2,y3,y4,hend]
 exact ⟨rfl,rfl,rfl,rfl⟩
theorem call_arrays {w0 w:World} {hh G:Nat} {K:Nat→Prop} {d d':Hd} {v:Va} {av:Value} {vs:List Va} (h:At w0 hh G K w d) (har:AR w av vs) (hKa:∀ b,av.ownBlock=some b→K b) (id:Int) (x:Va) (h50:50≤id) (h70:id < 70) (hva:isArr d v=true)
   (C:∀ (K':Nat→Prop) (W:World) (cb:Nat),K' cb→(∀ b,av.ownBlock=some b→K' b)→At w0 hh G K' W d→CB W cb hh v av vs→Pur w W→Calls Tryz.prog 35 #[.pointer (some ⟨cb,0,none⟩),.int .i64 id] W fun e w'=>e=.returned x.v∧At w0 hh G K' w' d'∧Kept K' W w') :
   Calls Tryz.prog 13 #[.pointer (some ⟨hh,0,none⟩),.int .i64 id,v.v,av] w fun e w'=>e=.returned (.tuple #[x.v,.int .i64 0])∧At w0 hh G K w' d'∧Kept K w w':=by
 have hmf:∀ (fn:Fn) (first cap:Array Value) (w:World),(Instr.makeFunc fn first cap).run Tryz.prog w=.ok (.func fn first cap) w:=fun _ _ _ _=>rfl
 obtain ⟨aa,am,ac,rfl⟩:=har.shape
 obtain ⟨W0,hW0,hP,hsz,ba,bb,bc,bd⟩:=call_blocks w hh v (.slice aa am ac)
 have hKl:∀ b,K b→b < w.heap.size:=fun b hb=>by obtain ⟨s,-,-,-,-,h5⟩:=h.ex;exact (h5 b hb).1
 have hw0:=h.pur.size
 have A0:At w0 hh G (fun b=>((K b∨b=w.heap.size + 1)∨b=w.heap.size + 1 + 1)∨b=w.heap.size + 1 + 1 + 1) W0 d:=at_other h (Chg.of_pur (S:=[]) hP) (by intro b hb;cases hb) (by intro b hb;cases hb) (fun b hb=>by
   rcases hb with ((hb | hb) | hb) | hb
   · exact ⟨.inl hb,by have:=hKl b hb;omega⟩
   · exact ⟨.inr (by omega),by omega⟩
   · exact ⟨.inr (by omega),by omega⟩
   · exact ⟨.inr (by omega),by omega⟩)
 have K0:Kept K w W0:=(h.pure hP).2
 have HC:CB W0 (w.heap.size + 1 + 1 + 1) hh v (.slice aa am ac) vs:=⟨bd,har.pur hP⟩
 have d1:decide (70≤id)=false:=decide_eq_false (by omega)
 have d2:decide (50≤id)=true:=decide_eq_true h50
 have IA:∀ w',Pur W0 w'→Calls Tryz.prog 34 #[.pointer (some ⟨hh,0,none⟩),v.v] w' fun e w''=>e=.returned (.bool true)∧Pur w' w'':=fun w' hp=>by
   obtain ⟨s,g1,g2,g3,-,-⟩:=(A0.pure hp).1.ex
   have:=isArray_any v g1
   rw [g2,g3,hva] at this
   exact this
 have r0:=bk_cell ba 0 _ rfl
 have r1:=bk_cell ba 1 _ rfl
 have r2:=bk_cell ba 2 _ rfl
 have r3:=bk_cell ba 3 _ rfl
 obtain ⟨k,n,t,r⟩:=v
 obtain ⟨xk,xn,xt,xr⟩:=x
 simp only [Va.v,Va.cells] at *
 clear h har bd
 go_enter_defers Tryz.func13,Tryz.ntmps13
 go_wp2_with fail
 rw [← hW0]
 refine (IA _ (Pur.refl _)).mono ?_
 rintro e w1 ⟨rfl,Q1⟩
 obtain ⟨A1,KQ⟩:=A0.pure Q1
 have CC:=C _ w1 _ (.inr rfl) (fun b hb=>.inl (.inl (.inl (hKa b hb)))) A1 (HC.pur Q1) (hP.trans Q1)
 clear r0 r1 r2 r3 IA C hP HC
 go_wp2_with fail
 refine CC.mono ?_
 rintro e w4 ⟨rfl,A4,K4⟩
 have c0:=(K4 _ (.inl (.inl (.inr rfl)))).trans (bk_pur bb Q1)
 have c1:=(K4 _ (.inl (.inr rfl))).trans (bk_pur bc Q1)
 obtain ⟨⟨s0,s1⟩,⟨s2,s3⟩,⟨s4,s5⟩,⟨s6,s7⟩⟩:=st4_steps (y:=Va.zero) (x:=⟨xk,xn,xt,xr⟩) c0
 have R8:=st4_at (y:=Va.zero) (x:=⟨xk,xn,xt,xr⟩) c0
 have c1':=st4_other (x:=⟨xk,xn,xt,xr⟩) c1 (show w.heap.size + 1 + 1≠w.heap.size + 1 by omega)
 have e1:=bk_cell c1' 0 _ rfl
 have f1:=bk_free c1' 0
 obtain ⟨W5,hW5⟩:∃ W5,W5=(st4 w4 (w.heap.size + 1) ⟨xk,xn,xt,xr⟩).setCell ⟨w.heap.size + 1 + 1,0,none⟩ (.int .i64 0):=⟨_,rfl⟩
 obtain ⟨A5,K5⟩:=call_fin (K:=K) ⟨xk,xn,xt,xr⟩ 0 A4 (.inl (.inl (.inr rfl))) (.inl (.inr rfl)) hw0 (fun k hk=>⟨.inl (.inl (.inl hk)),hKl k hk⟩) hW5
 have z0:W5.heap[w.heap.size + 1]?=some (.cells (⟨xk,xn,xt,xr⟩:Va).cells.toArray 25 (0,0)):=by rw [hW5];exact bk_other R8 (a:=⟨w.heap.size + 1 + 1,0,none⟩) (by simp) _
 have z1:W5.heap[w.heap.size + 1 + 1]?=some (.cells #[.int .i64 0] 29 (0,0)):=by rw [hW5];exact bk_set c1' 0 _
 have HF:=Lib.hid (And.intro A5 (((K0.trans fun b hb=>KQ b (.inl (.inl (.inl hb)))).trans fun b hb=>K4 b (.inl (.inl (.inl hb)))).trans K5))
 have HW:=Lib.hid hW5
 clear A5 K5 A4 K4 K0 KQ A0 hW5 R8 ba bb bc CC
 simp only [st4,Va.zero] at s0 s1 s2 s3 s4 s5 s6 s7 e1 f1 HW
 go_wp2
 rw [← HW.out]
 have y0:=bk_cell z0 0 _ rfl
 have y1:=bk_cell z0 1 _ rfl
 have y2:=bk_cell z0 2 _ rfl
 have y3:=bk_cell z0 3 _ rfl
 have y4:=bk_cell z1 0 _ rfl
 have hend:=HF.out
 clear HW s0 s1 s2 s3 s4 s5 s6 s7 e1 f1 c0 c1 c1' z0 z1
 refine leaves_cons (f:=32) (args:=#[.pointer (some ⟨w.heap.size + 1,0,none⟩),.pointer (some ⟨w.heap.size + 1 + 1,0,none⟩)]) (by simp) (by simp [go_sem]) ?_
 refine (call_idle _ _ W5).mono ?_
 rintro e u' w3 ⟨rfl,rfl,rfl⟩
 simp [Leaves,settle,results,Tryz.results13,go_sem,y0,y1,y2,y3,y4,hend]
 exact ⟨rfl,rfl,rfl,rfl⟩
theorem call_plain {w0 w:World} {hh G:Nat} {K:Nat→Prop} {d d':Hd} {v:Va} {av:Value} {vs:List Va} (h:At w0 hh G K w d) (har:AR w av vs) (hKa:∀ b,av.ownBlock=some b→K b) (id:Int) (x:Va) (h50:id < 50)
   (C:∀ (K':Nat→Prop) (W:World) (cb:Nat),K' cb→(∀ b,av.ownBlock=some b→K' b)→At w0 hh G K' W d→CB W cb hh v av vs→Pur w W→Calls Tryz.prog 36 #[.pointer (some ⟨cb,0,none⟩),.int .i64 id] W fun e w'=>e=.returned x.v∧At w0 hh G K' w' d'∧Kept K' W w') :
   Calls Tryz.prog 13 #[.pointer (some ⟨hh,0,none⟩),.int .i64 id,v.v,av] w fun e w'=>e=.returned (.tuple #[x.v,.int .i64 0])∧At w0 hh G K w' d'∧Kept K w w':=by
 have hmf:∀ (fn:Fn) (first cap:Array Value) (w:World),(Instr.makeFunc fn first cap).run Tryz.prog w=.ok (.func fn first cap) w:=fun _ _ _ _=>rfl
 obtain ⟨aa,am,ac,rfl⟩:=har.shape
 obtain ⟨W0,hW0,hP,hsz,ba,bb,bc,bd⟩:=call_blocks w hh v (.slice aa am ac)
 have hKl:∀ b,K b→b < w.heap.size:=fun b hb=>by obtain ⟨s,-,-,-,-,h5⟩:=h.ex;exact (h5 b hb).1
 have hw0:=h.pur.size
 have A0:At w0 hh G (fun b=>((K b∨b=w.heap.size + 1)∨b=w.heap.size + 1 + 1)∨b=w.heap.size + 1 + 1 + 1) W0 d:=at_other h (Chg.of_pur (S:=[]) hP) (by intro b hb;cases hb) (by intro b hb;cases hb) (fun b hb=>by
   rcases hb with ((hb | hb) | hb) | hb
   · exact ⟨.inl hb,by have:=hKl b hb;omega⟩
   · exact ⟨.inr (by omega),by omega⟩
   · exact ⟨.inr (by omega),by omega⟩
   · exact ⟨.inr (by omega),by omega⟩)
 have K0:Kept K w W0:=(h.pure hP).2
 have HC:CB W0 (w.heap.size + 1 + 1 + 1) hh v (.slice aa am ac) vs:=⟨bd,har.pur hP⟩
 have d1:decide (70≤id)=false:=decide_eq_false (by omega)
 have d2:decide (50≤id)=false:=decide_eq_false (by omega)
 have CC:=C _ W0 _ (.inr rfl) (fun b hb=>.inl (.inl (.inl (hKa b hb)))) A0 HC hP
 have Q1:Pur W0 W0:=Pur.refl _
 have KQ:Kept (fun b=>((K b∨b=w.heap.size + 1)∨b=w.heap.size + 1 + 1)∨b=w.heap.size + 1 + 1 + 1) W0 W0:=fun _ _=>rfl
 clear C HC
 have r0:=bk_cell ba 0 _ rfl
 have r1:=bk_cell ba 1 _ rfl
 have r2:=bk_cell ba 2 _ rfl
 have r3:=bk_cell ba 3 _ rfl
 obtain ⟨k,n,t,r⟩:=v
 obtain ⟨xk,xn,xt,xr⟩:=x
 simp only [Va.v,Va.cells] at *
 clear h har bd
 go_enter_defers Tryz.func13,Tryz.ntmps13
 go_wp2_with fail
 rw [← hW0]
 refine CC.mono ?_
 rintro e w4 ⟨rfl,A4,K4⟩
 have c0:=(K4 _ (.inl (.inl (.inr rfl)))).trans (bk_pur bb Q1)
 have c1:=(K4 _ (.inl (.inr rfl))).trans (bk_pur bc Q1)
 obtain ⟨⟨s0,s1⟩,⟨s2,s3⟩,⟨s4,s5⟩,⟨s6,s7⟩⟩:=st4_steps (y:=Va.zero) (x:=⟨xk,xn,xt,xr⟩) c0
 have R8:=st4_at (y:=Va.zero) (x:=⟨xk,xn,xt,xr⟩) c0
 have c1':=st4_other (x:=⟨xk,xn,xt,xr⟩) c1 (show w.heap.size + 1 + 1≠w.heap.size + 1 by omega)
 have e1:=bk_cell c1' 0 _ rfl
 have f1:=bk_free c1' 0
 obtain ⟨W5,hW5⟩:∃ W5,W5=(st4 w4 (w.heap.size + 1) ⟨xk,xn,xt,xr⟩).setCell ⟨w.heap.size + 1 + 1,0,none⟩ (.int .i64 0):=⟨_,rfl⟩
 obtain ⟨A5,K5⟩:=call_fin (K:=K) ⟨xk,xn,xt,xr⟩ 0 A4 (.inl (.inl (.inr rfl))) (.inl (.inr rfl)) hw0 (fun k hk=>⟨.inl (.inl (.inl hk)),hKl k hk⟩) hW5
 have z0:W5.heap[w.heap.size + 1]?=some (.cells (⟨xk,xn,xt,xr⟩:Va).cells.toArray 25 (0,0)):=by rw [hW5];exact bk_other R8 (a:=⟨w.heap.size + 1 + 1,0,none⟩) (by simp) _
 have z1:W5.heap[w.heap.size + 1 + 1]?=some (.cells #[.int .i64 0] 29 (0,0)):=by rw [hW5];exact bk_set c1' 0 _
 have HF:=Lib.hid (And.intro A5 (((K0.trans fun b hb=>KQ b (.inl (.inl (.inl hb)))).trans fun b hb=>K4 b (.inl (.inl (.inl hb)))).trans K5))
 have HW:=Lib.hid hW5
 clear A5 K5 A4 K4 K0 KQ A0 hW5 R8 ba bb bc CC
 simp only [st4,Va.zero] at s0 s1 s2 s3 s4 s5 s6 s7 e1 f1 HW
 go_wp2
 rw [← HW.out]
 have y0:=bk_cell z0 0 _ rfl
 have y1:=bk_cell z0 1 _ rfl
 have y2:=bk_cell z0 2 _ rfl
 have y3:=bk_cell z0 3 _ rfl
 have y4:=bk_cell z1 0 _ rfl
 have hend:=HF.out
 clear HW s0 s1 s2 s3 s4 s5 s6 s7 e1 f1 c0 c1 c1' z0 z1
 refine leaves_cons (f:=32) (args:=#[.pointer (some ⟨w.heap.size + 1,0,none⟩),.pointer (some ⟨w.heap.size + 1 + 1,0,none⟩)]) (by simp) (by simp [go_sem]) ?_
 refine (call_idle _ _ W5).mono ?_
 rintro e u' w3 ⟨rfl,rfl,rfl⟩
 simp [Leaves,settle,results,Tryz.results13,go_sem,y0,y1,y2,y3,y4,hend]
 exact ⟨rfl,rfl,rfl,rfl⟩
theorem call_thrown {w0 w:World} {hh G:Nat} {K:Nat→Prop} {d:Hd} {v:Va} (aa:Option Addr) (am ac:Nat) (h:At w0 hh G K w d) (id:Int) (h50:50≤id) (h70:id < 70) (hva:isArr d v=false) :
   Calls Tryz.prog 13 #[.pointer (some ⟨hh,0,none⟩),.int .i64 id,v.v,.slice aa am ac] w fun e w'=>e=.returned (.tuple #[Va.zero.v,.int .i64 110])∧At w0 hh G K w' d∧Kept K w w':=by
 have hmf:∀ (fn:Fn) (first cap:Array Value) (w:World),(Instr.makeFunc fn first cap).run Tryz.prog w=.ok (.func fn first cap) w:=fun _ _ _ _=>rfl
 obtain ⟨W0,hW0,hP,hsz,ba,bb,bc,bd⟩:=call_blocks w hh v (.slice aa am ac)
 have hKl:∀ b,K b→b < w.heap.size:=fun b hb=>by obtain ⟨s,-,-,-,-,h5⟩:=h.ex;exact (h5 b hb).1
 have hw0:=h.pur.size
 have A0:At w0 hh G (fun b=>(K b∨b=w.heap.size + 1)∨b=w.heap.size + 1 + 1) W0 d:=at_other h (Chg.of_pur (S:=[]) hP) (by intro b hb;cases hb) (by intro b hb;cases hb) (fun b hb=>by
   rcases hb with (hb | hb) | hb
   · exact ⟨.inl hb,by have:=hKl b hb;omega⟩
   · exact ⟨.inr (by omega),by omega⟩
   · exact ⟨.inr (by omega),by omega⟩)
 have K0:Kept K w W0:=(h.pure hP).2
 have d1:decide (70≤id)=false:=decide_eq_false (by omega)
 have d2:decide (50≤id)=true:=decide_eq_true h50
 have IA:∀ w',Pur W0 w'→Calls Tryz.prog 34 #[.pointer (some ⟨hh,0,none⟩),v.v] w' fun e w''=>e=.returned (.bool false)∧Pur w' w'':=fun w' hp=>by
   obtain ⟨s,g1,g2,g3,-,-⟩:=(A0.pure hp).1.ex
   have:=isArray_any v g1
   rw [g2,g3,hva] at this
   exact this
 have r0:=bk_cell ba 0 _ rfl
 have r1:=bk_cell ba 1 _ rfl
 have r2:=bk_cell ba 2 _ rfl
 have r3:=bk_cell ba 3 _ rfl
 obtain ⟨k,n,t,r⟩:=v
 simp only [Va.v,Va.cells,Va.zero] at *
 clear h bd hva
 go_enter_defers Tryz.func13,Tryz.ntmps13
 go_wp2_with fail
 rw [← hW0]
 refine (IA _ (Pur.refl _)).mono ?_
 rintro e w4 ⟨rfl,Q1⟩
 obtain ⟨A4,K4⟩:=A0.pure Q1
 have c0:=bk_pur bb Q1
 have c1:=bk_pur bc Q1
 obtain ⟨⟨s0,s1⟩,⟨s2,s3⟩,⟨s4,s5⟩,⟨s6,s7⟩⟩:=st4_steps (y:=Va.zero) (x:=Va.zero) c0
 have R8:=st4_at (y:=Va.zero) (x:=Va.zero) c0
 have c1':=st4_other (x:=Va.zero) c1 (show w.heap.size + 1 + 1≠w.heap.size + 1 by omega)
 have e1:=bk_cell c1' 0 _ rfl
 have f1:=bk_free c1' 0
 obtain ⟨W5,hW5⟩:∃ W5,W5=(st4 w4 (w.heap.size + 1) Va.zero).setCell ⟨w.heap.size + 1 + 1,0,none⟩ (.int .i64 110):=⟨_,rfl⟩
 obtain ⟨A5,K5⟩:=call_fin (K:=K) Va.zero 110 A4 (.inl (.inr rfl)) (.inr rfl) hw0 (fun k hk=>⟨.inl (.inl hk),hKl k hk⟩) hW5
 have z0:W5.heap[w.heap.size + 1]?=some (.cells Va.zero.cells.toArray 25 (0,0)):=by rw [hW5];exact bk_other R8 (a:=⟨w.heap.size + 1 + 1,0,none⟩) (by simp) _
 have z1:W5.heap[w.heap.size + 1 + 1]?=some (.cells #[.int .i64 110] 29 (0,0)):=by rw [hW5];exact bk_set c1' 0 _
 have HF:=Lib.hid (And.intro A5 ((K0.trans fun b hb=>K4 b (.inl (.inl hb))).trans K5))
 have HW:=Lib.hid hW5
 clear A5 K5 A4 K4 K0 A0 hW5 R8 ba bb bc IA hP r0 r1 r2 r3
 simp only [st4,Va.zero] at s0 s1 s2 s3 s4 s5 s6 s7 e1 f1 HW
 go_wp2
 rw [← HW.out]
 have y0:=bk_cell z0 0 _ rfl
 have y1:=bk_cell z0 1 _ rfl
 have y2:=bk_cell z0 2 _ rfl
 have y3:=bk_cell z0 3 _ rfl
 have y4:=bk_cell z1 0 _ rfl
 have hend:=HF.out
 clear HW s0 s1 s2 s3 s4 s5 s6 s7 e1 f1 c0 c1 c1' z0 z1
 refine leaves_cons (f:=32) (args:=#[.pointer (some ⟨w.heap.size + 1,0,none⟩),.pointer (some ⟨w.heap.size + 1 + 1,0,none⟩)]) (by simp) (by simp [go_sem]) ?_
 refine (call_idle _ _ W5).mono ?_
 rintro e u' w3 ⟨rfl,rfl,rfl⟩
 simp [Leaves,settle,results,Tryz.results13,go_sem,y0,y1,y2,y3,y4,hend]
 exact ⟨rfl,rfl,rfl,rfl⟩
end Li
namespace Li
theorem texts_split {w0 w:World} {hh G cb:Nat} {K:Nat→Prop} {d d':Hd} {av:Value} (n r i:Int) (l p:List UInt8) (fl:Nat) (h:At w0 hh G K w d) (hc:CB w cb hh ⟨4,fl,l,r⟩ av [tx p]) (hK:K cb) (hKa:∀ b,av.ownBlock=some b→K b) (hl:l.length≤4000) (hp:p.length≤4000) (hl2:l.length % 2=0) (hp2:p.length % 2=0) (hp0:0 < p.length)
   (hd:d.array ((splitU l p (l.length / 2 + 1) 0).map tx)=((i,0),d')) :
   Calls Tryz.prog 33 #[.pointer (some ⟨cb,0,none⟩),.int .i64 77] w fun e w'=>e=.returned (ob i).v∧At w0 hh G K w' d'∧Kept K w w':=by
 have PA:Pur w (w.alloc (.cells #[.int .i64 0,.float .f64 0,.string ⟨#[]⟩,.int .i64 0] 25)):=(Pur.refl w).alloc _
 have NB:=bk_new w (.cells #[.int .i64 0,.float .f64 0,.string ⟨#[]⟩,.int .i64 0] 25)
 have A1:=h.keep PA w.heap.size (Nat.le_refl _) (bk_lt NB)
 have K1:=(h.pure PA).2
 have C1:=hc.pur PA
 have hKl:∀ b,K b→b < w.heap.size:=fun b hb=>by obtain ⟨s,-,-,-,-,h5⟩:=h.ex;exact (h5 b hb).1
 have hw0:=h.pur.size
 have SP:=csplit_ok l p A1 C1 (.inl hK) (fun b hb=>.inl (hKa b hb)) hl hp hl2 hp2 hp0 hd
 have c3:=bk_cell C1.own 3 _ rfl
 have LE:=fun w=>length_any l w (by omega)
 clear h hc
 simp only [ob,Va.v,Va.cells] at *
 go_enter Tryz.func33,Tryz.ntmps33
 go_wp2_with fail
 refine (LE _).mono ?_
 rintro e w1 ⟨rfl,rfl⟩
 clear LE
 go_wp2_with fail
 refine SP.mono ?_
 rintro e w9 ⟨rfl,A9,K9⟩
 have NB9:=(K9 _ (.inr rfl)).trans NB
 obtain ⟨⟨s0,s1⟩,⟨s2,s3⟩,⟨s4,s5⟩,⟨s6,s7⟩⟩:=st4_steps (y:=Va.zero) (x:=ob i) NB9
 have R8:=st4_at (y:=Va.zero) (x:=ob i) NB9
 obtain ⟨A10,K10⟩:=st4_fin (x:=ob i) (K:=K) A9 (.inr rfl) hw0 (fun k hk=>⟨.inl hk,by have:=hKl k hk;omega⟩)
 have HF:=Lib.hid (And.intro R8 (And.intro A10 ((K1.trans fun b hb=>K9 b (.inl hb)).trans K10)))
 clear R8 A10 K10 A9 K9 NB9 NB SP c3
 simp only [st4,Va.zero,ob] at s0 s1 s2 s3 s4 s5 s6 s7 HF
 go_wp2
 refine bodyPost_ret (results_cell_row rfl _ _ w.heap.size 25 _ (0,0) _ rfl HF.out.1 Tryz.underlying25 rfl (by kernel_rfl)) rfl ⟨rfl,HF.out.2⟩
theorem call_split {w0 w:World} {hh G:Nat} {K:Nat→Prop} {d d':Hd} {av:Value} (r i:Int) (l p:List UInt8) (fl:Nat) (h:At w0 hh G K w d) (har:AR w av [tx p]) (hKa:∀ b,av.ownBlock=some b→K b) (hl:l.length≤4000) (hp:p.length≤4000) (hl2:l.length % 2=0) (hp2:p.length % 2=0) (hp0:0 < p.length)
   (hd:d.array ((splitU l p (l.length / 2 + 1) 0).map tx)=((i,0),d')) :
   Calls Tryz.prog 13 #[.pointer (some ⟨hh,0,none⟩),.int .i64 77,(⟨4,fl,l,r⟩:Va).v,av] w fun e w'=>e=.returned (.tuple #[(ob i).v,.int .i64 0])∧At w0 hh G K w' d'∧Kept K w w' :=
 call_texts h har hKa 77 (ob i) (by decide) rfl fun K' W cb hcb hka hA hC _=>texts_split 0 r i l p fl hA hC hcb hka hl hp hl2 hp2 hp0 hd
theorem find_push {w0 w:World} (hT:UT w0) (hL:LW w0) (hp:Pur w0 w) :
   Calls Tryz.prog 57 #[.slice (some ⟨2,0,none⟩) 7 7,.string ⟨(wide8 [112,117,115,104]).toArray⟩] w fun e w'=>e=.returned (.tuple #[(⟨6,0,[],50⟩:Va).v,.bool true])∧Pur w w':=by
 have LA:=(hL.pur hp).a
 have PA:Pur w (w.alloc (.cells #[.int .i64 0,.float .f64 0,.string ⟨#[]⟩,.int .i64 0] 25)):=(Pur.refl w).alloc _
 have NB:=bk_new w (.cells #[.int .i64 0,.float .f64 0,.string ⟨#[]⟩,.int .i64 0] 25)
 have g0:=cellp (LA 0 _ rfl) PA
 have g1:=cellp (LA 1 _ rfl) PA
 have WD:=fun w' (h:Pur w w')=>ewide_b [112,117,115,104] (by decide) (by decide) (hT.pur (hp.trans h))
 have EB:=fun i w=>ebuiltin_any i w
 simp only [Va.v,Va.cells]
 clear LA
 generalize wide8 [112,117,115,104]=q at *
 go_enter Tryz.func57,Tryz.ntmps57
 go_wp2
 go_loopw [10] (fun iv wr=>iv=.int .i64 0∧wr=w.alloc (.cells #[.int .i64 0,.float .f64 0,.string ⟨#[]⟩,.int .i64 0] 25)) (fun _ _=>1)
 case atStart=>exact ⟨rfl,rfl⟩
 case round =>
   obtain ⟨rfl,rfl⟩:=hrel
   have hs:(w.alloc (.cells #[.int .i64 0,.float .f64 0,.string ⟨#[]⟩,.int .i64 0] 25)).heap.size=w.heap.size + 1:=Array.size_push _
   generalize w.alloc (.cells #[.int .i64 0,.float .f64 0,.string ⟨#[]⟩,.int .i64 0] 25)=wA at *
   go_wp2_with fail
   refine (WD _ (PA.trans ((Pur.refl wA).alloc _))).mono ?_
   rintro e w2 ⟨rfl,p2⟩
   have NB2:=bk_new wA (.cells #[.string ⟨#[112,117,115,104]⟩,.int .i64 50] 101)
   have m1:=bk_cell (bk_pur NB2 p2) 1 _ rfl
   rw [hs] at m1
   have P2:=((Pur.refl wA).alloc (.cells #[.string ⟨#[112,117,115,104]⟩,.int .i64 50] 101)).trans p2
   go_wp2_with fail
   refine (EB _ _).mono ?_
   rintro e w3 ⟨rfl,p3⟩
   have NB3:=bk_pur NB (P2.trans p3)
   obtain ⟨⟨s0,s1⟩,⟨s2,s3⟩,⟨s4,s5⟩,⟨s6,s7⟩⟩:=st4_steps (y:=Va.zero) (x:=⟨6,0,[],50⟩) NB3
   have R8:=st4_at (y:=Va.zero) (x:=⟨6,0,[],50⟩) NB3
   have P8:=st4_pur (b:=w.heap.size) (x:=⟨6,0,[],50⟩) (PA.trans (P2.trans p3)) (Nat.le_refl _)
   have HF:=Lib.hid (And.intro R8 P8)
   have HC:=Lib.hid (bk_cell R8 0 _ rfl)
   have HC1:=Lib.hid (bk_cell R8 1 _ rfl)
   have HC2:=Lib.hid (bk_cell R8 2 _ rfl)
   have HC3:=Lib.hid (bk_cell R8 3 _ rfl)
   clear R8 P8 NB3 NB2 m1 P2 p2 p3 EB WD PA NB
   simp only [st4,Va.zero] at s0 s1 s2 s3 s4 s5 s6 s7 HF HC HC1 HC2 HC3
   go_wp2
   refine bodyPost_ret (v:=.tuple #[.agg #[.int .i64 6,.float .f64 0,.string ⟨#[]⟩,.int .i64 50],.bool true]) (by simp [results,Tryz.results57,go_sem,HC.out,HC1.out,HC2.out,HC3.out,Va.cells]) rfl ⟨rfl,HF.out.2⟩
theorem method_push {w0 w1 w:World} {hh G:Nat} {K:Nat→Prop} {d:Hd} (hT:UT w0) (hL:LW w0) (hp:Pur w0 w) (h:At w1 hh G K w d) (i:Int) (hva:isArr d (ob i)=true) :
   Calls Tryz.prog 27 #[.pointer (some ⟨hh,0,none⟩),(ob i).v,.string ⟨(wide8 [112,117,115,104]).toArray⟩] w fun e w'=>e=.returned (.tuple #[(⟨6,0,[],50⟩:Va).v,.bool true])∧Pur w w':=by
 have PA:Pur w ((w.alloc (.cells #[.int .i64 5,.float .f64 0,.string ⟨#[]⟩,.int .i64 i] 25)).alloc (.cells #[.int .i64 0,.float .f64 0,.string ⟨#[]⟩,.int .i64 0] 25)):=((Pur.refl w).alloc _).alloc _
 have B0:=bk_alloc (bk_new w (.cells #[.int .i64 5,.float .f64 0,.string ⟨#[]⟩,.int .i64 i] 25)) (.cells #[.int .i64 0,.float .f64 0,.string ⟨#[]⟩,.int .i64 0] 25)
 have hs:(w.alloc (.cells #[.int .i64 5,.float .f64 0,.string ⟨#[]⟩,.int .i64 i] 25)).heap.size=w.heap.size + 1:=Array.size_push _
 have NB:=bk_new (w.alloc (.cells #[.int .i64 5,.float .f64 0,.string ⟨#[]⟩,.int .i64 i] 25)) (.cells #[.int .i64 0,.float .f64 0,.string ⟨#[]⟩,.int .i64 0] 25)
 rw [hs] at NB
 have IA:∀ w',Pur w w'→Calls Tryz.prog 34 #[.pointer (some ⟨hh,0,none⟩),(ob i).v] w' fun e w''=>e=.returned (.bool true)∧Pur w' w'':=fun w' hp=>by
   obtain ⟨s,g1,g2,g3,-,-⟩:=(h.pure hp).1.ex
   have:=isArray_any (ob i) g1
   rw [g2,g3,hva] at this
   exact this
 have FP:=fun w' (h2:Pur w w')=>find_push hT hL (hp.trans h2)
 simp only [ob,Va.v,Va.cells] at *
 have r0:=bk_cell B0 0 _ rfl
 have r1:=bk_cell B0 1 _ rfl
 have r2:=bk_cell B0 2 _ rfl
 have r3:=bk_cell B0 3 _ rfl
 clear B0 h hs
 generalize wide8 [112,117,115,104]=q at *
 go_enter Tryz.func27,Tryz.ntmps27
 go_wp2_with fail
 generalize (w.alloc (.cells #[.int .i64 5,.float .f64 0,.string ⟨#[]⟩,.int .i64 i] 25)).alloc (.cells #[.int .i64 0,.float .f64 0,.string ⟨#[]⟩,.int .i64 0] 25)=wA at *
 refine (IA _ PA).mono ?_
 rintro e w2 ⟨rfl,p2⟩
 have FP2:=FP _ (PA.trans p2)
 clear IA FP r0 r1 r2 r3
 go_wp2_with fail
 refine FP2.mono ?_
 rintro e w3 ⟨rfl,p3⟩
 have NB3:=bk_pur NB (p2.trans p3)
 obtain ⟨⟨s0,s1⟩,⟨s2,s3⟩,⟨s4,s5⟩,⟨s6,s7⟩⟩:=st4_steps (y:=Va.zero) (x:=⟨6,0,[],50⟩) NB3
 have R8:=st4_at (y:=Va.zero) (x:=⟨6,0,[],50⟩) NB3
 have P8:=st4_pur (b:=w.heap.size + 1) (x:=⟨6,0,[],50⟩) (PA.trans (p2.trans p3)) (by omega)
 have HF:=Lib.hid (And.intro R8 P8)
 have HC:=Lib.hid (bk_cell R8 0 _ rfl)
 have HC1:=Lib.hid (bk_cell R8 1 _ rfl)
 have HC2:=Lib.hid (bk_cell R8 2 _ rfl)
 have HC3:=Lib.hid (bk_cell R8 3 _ rfl)
 clear R8 P8 NB3 NB FP2 PA p2 p3
 simp only [st4,Va.zero] at s0 s1 s2 s3 s4 s5 s6 s7 HF HC HC1 HC2 HC3
 go_wp2
 refine bodyPost_ret (v:=.tuple #[.agg #[.int .i64 6,.float .f64 0,.string ⟨#[]⟩,.int .i64 50],.bool true]) (by simp [results,Tryz.results27,go_sem,HC.out,HC1.out,HC2.out,HC3.out,Va.cells]) rfl ⟨rfl,HF.out.2⟩
end Li
end Go.Proofs.YtgdolcoiihagfaaGreatDoor
