/- What the cards of layer 4 take: the library's tables out of the row's list. The witness's world of the cards of layer 4: the great tables laid, its shape seen in one pass. A float as an argument. -/
import Derived.Test.YtgdolcoiihagfaaGreatDoorCvB
import Derived.Test.YtgdolcoiihagfaaGreatDoorLfB
import Derived.Clock
import Derived.Lib.LaidU8
import Derived.Lib.LaidTab
import Derived.Stop.LaidErr
import Derived.Deep.DeepWitnessRowRef
import Derived.Lay
import Derived.Deep.DeepWitnessRef
namespace Go.Proofs.YtgdolcoiihagfaaGreatDoor
open Go Go.RowKit Go.ChangeShapes Go.WideShapes Go.ChangeAt
set_option linter.all false
set_option maxRecDepth 100000
section
variable {H:Type} {enc:TypeId × Value→H} {P:Program} {w:World} {base:Nat} {sp:Nat→Bool} {held:Bool}
theorem take_one {cs:List Value} {k:Nat} {v:Value} (h:(cs.drop k).take 1=[v]):cs[k]?=some v:=by
 have:=congrArg (·[0]?) h
 simpa [List.getElem?_take,List.getElem?_drop] using this
theorem field_int {fuel:Nat} {t:TypeId} {fs:Array Field} {cs:List Value} {ds:List (DataW H)} {p:List MemPlace} (ht:P.underlying t=some (.struct fs)) (h:DataW.trod enc P w base sp held fuel t cs=some (.agg ds,p))
   (i:Nat) (f:Field) (k:IntKind) (z:Int) (hf:fs[i]?=some f) (hu:P.underlying f.type=some (.int k)) (hc:P.cellsOf f.type=1) (hd:ds[i]?=some (.lit (.int k z))):cs[f.offset]?=some (.int k z):=by
 obtain ⟨xs,n,rfl,hx,hl,hxl,hall⟩:=DataW.trod_struct ht h
 have h1:=hall i f hf
 have hds:ds=xs.map (·.1):=by
   have:=congrArg Prod.fst hx
   simpa using this
 rw [hds,List.getElem?_map] at hd
 obtain ⟨b,hb,hb1⟩:=Option.map_eq_some_iff.1 hd
 rw [hb,hc] at h1
 obtain ⟨y,hy,rfl,_⟩:=DataW.trod_int hu h1
 simp only [DataW.lit.injEq,Lit.int.injEq,true_and] at hb1
 rw [← hb1]
 exact take_one hy
end
section
variable {H:Type} {enc:TypeId × Value→H} {P:Program} {w:World} {base:Nat} {sp:Nat→Bool} {held:Bool}
theorem trod_float {fuel:Nat} {t:TypeId} {k:FloatKind} {cs:List Value} {x:DataW H × List MemPlace} (ht:P.underlying t=some (.float k)) (h:DataW.trod enc P w base sp held fuel t cs=some x):∃ n,cs=[.float k n]∧x=(.lit (.float k n),[]):=by
 cases fuel with
 | zero=>simp [DataW.trod] at h
 | succ n =>
   unfold DataW.trod at h
   rw [ht] at h
   split at h <;> simp_all
theorem field_string {fuel:Nat} {t:TypeId} {fs:Array Field} {cs:List Value} {ds:List (DataW H)} {p:List MemPlace} (ht:P.underlying t=some (.struct fs)) (h:DataW.trod enc P w base sp held fuel t cs=some (.agg ds,p))
   (i:Nat) (f:Field) (s:List UInt8) (hf:fs[i]?=some f) (hu:P.underlying f.type=some .string) (hc:P.cellsOf f.type=1) (hd:ds[i]?=some (.lit (.string s))):cs[f.offset]?=some (.string ⟨s.toArray⟩):=by
 obtain ⟨xs,n,rfl,hx,hl,hxl,hall⟩:=DataW.trod_struct ht h
 have h1:=hall i f hf
 have hds:ds=xs.map (·.1):=by
   have:=congrArg Prod.fst hx
   simpa using this
 rw [hds,List.getElem?_map] at hd
 obtain ⟨b,hb,hb1⟩:=Option.map_eq_some_iff.1 hd
 rw [hb,hc] at h1
 obtain ⟨y,hy,rfl,_⟩:=DataW.trod_string hu h1
 simp only [DataW.lit.injEq,Lit.string.injEq] at hb1
 have:=take_one hy
 rw [this,← hb1]
theorem slice_reads {name:String} {g:Nat} {t e:TypeId} {ds:List (DataW Unit)} (hn:P.globalNamed name=some g) (hy:(P.globals[g]?).map (·.type)=some t) (ht:P.underlying t=some (.slice e)) (hl:0 < ds.length) (hc0:0 < P.cellsOf e)
   (h:Lib.VarReads P w name (.slice ds [])):∃ R o c,w.cell? ⟨g,0,none⟩=some (.slice (some ⟨R,o,none⟩) ds.length c)∧∀ (i:Nat) (d:DataW Unit),ds[i]?=some d →
     ∃ fuel ce q,DataW.trod (fun _=>()) P w 0 (fun _=>true) false fuel e ce=some (d,q)∧∀ j,j < P.cellsOf e→w.cell? ⟨R,o + i * P.cellsOf e + j,none⟩=ce[j]?:=by
 obtain ⟨g',t',cs,fuel,p,hg,hty,hvar,hd⟩:=h
 obtain rfl:=Option.some.inj (hn.symm.trans hg)
 obtain rfl:=Option.some.inj (hy.symm.trans hty)
 rcases DataW.trod_slice ht hd with ⟨_,hx⟩ | ⟨a,len,cap,el,rs,m,rfl,hcs,hx,_,hlc,_,hel,helem,hsp,_⟩
 · cases hx
 have e0:=congrArg Prod.fst hx
 simp only [DataW.slice.injEq] at e0
 obtain ⟨eE,eR⟩:=e0
 have hlen:len=ds.length:=by
   have:=congrArg List.length eE
   simp at this
   omega
 have hcell:∀ (i:Nat) (d:DataW Unit),ds[i]?=some d→∃ ce q,DataW.trod (fun _=>()) P w 0 (fun _=>true) false m e ce=some (d,q)∧ce.length=P.cellsOf e∧∀ j,j < P.cellsOf e→w.cell? ((a.add (i * P.cellsOf e)).add j)=ce[j]?:=by
   intro i d hi
   have hil:=(List.getElem?_eq_some_iff.1 hi).1
   have h1:=helem i (by omega)
   obtain ⟨b,hb⟩:∃ b,el[i]?=some b:=⟨el[i]'(by omega),List.getElem?_eq_getElem (by omega)⟩
   rw [hb] at h1
   obtain ⟨ce,hce,hte⟩:=Option.bind_eq_some_iff.1 h1
   obtain ⟨_,hcl,hcc⟩:=World.cells?_some hce
   have hb1:b.1=d:=by
     rw [eE,List.getElem?_map,hb] at hi
     simpa using hi
   exact ⟨ce,b.2,by rw [hte,← hb1],hcl,hcc⟩
 obtain ⟨R,o,sR⟩:=a
 obtain rfl:sR=none:=by
   obtain ⟨d0,hd0⟩:∃ d,ds[0]?=some d:=⟨_,List.getElem?_eq_getElem hl⟩
   obtain ⟨ce,q,h1,h2,h3⟩:=hcell 0 d0 hd0
   have h4:=h3 0 hc0
   rw [List.getElem?_eq_getElem (by omega)] at h4
   have:((Addr.add ⟨R,o,sR⟩ (0 * P.cellsOf e)).add 0)=⟨R,o,sR⟩:=by rw [Nat.zero_mul];simp [Addr.add]
   rw [this] at h4
   exact Go.Proofs.cell_spot h4
 refine ⟨R,o,cap,?_,fun i d hi=>?_⟩
 · rw [World.var?_cell hg hvar 0,← Array.getElem?_toList,hcs,hlen]
   rfl
 · obtain ⟨ce,q,h1,h2,h3⟩:=hcell i d hi
   refine ⟨m,ce,q,h1,fun j hj=>?_⟩
   have:=h3 j hj
   rwa [Addr.add_lit,Addr.add_lit] at this
end
namespace Ft
open P10
theorem f64_of {W:World} (hS:W.ShapedOpen Tryz.prog) (h:laidMetH Tryz.prog Rows.libSplitUptoRow.laid W):Rf.F64 W:=by
 rw [MakeChecks.laidMetH_plain _ _ _ (by kernel_rfl)] at h
 unfold Rows.libSplitUptoRow at h
 have R:=Lib.laidMet.reads h (n := "internal/strconv.float64info") (d:=Rows.laid_internal_strconv_float64info) (by simp)
 obtain ⟨g,t,cs,fuel,p,h1,h2,h3,h4⟩:=R
 obtain rfl:=Option.some.inj ((show Tryz.prog.globalNamed "internal/strconv.float64info" = some 13 by kernel_rfl).symm.trans h1)
 obtain rfl:=Option.some.inj ((show (Tryz.prog.globals[13]?).map (·.type)=some 250 by kernel_rfl).symm.trans h2)
 unfold Rows.laid_internal_strconv_float64info at h4
 have c:=fun i=>World.var?_cell h1 h3 i
 refine ⟨?_,?_,?_,?_,?_⟩
 · rw [c 0,← Array.getElem?_toList];exact field_int Tryz.underlying250 h4 0 _ .u64 52 rfl (by kernel_rfl) (by kernel_rfl) rfl
 · rw [c 1,← Array.getElem?_toList];exact field_int Tryz.underlying250 h4 1 _ .u64 11 rfl (by kernel_rfl) (by kernel_rfl) rfl
 · rw [c 2,← Array.getElem?_toList];exact field_int Tryz.underlying250 h4 2 _ .i64 (-1023) rfl (by kernel_rfl) (by kernel_rfl) rfl
 · obtain ⟨cs',hcs,_⟩:=hS.1 13 #[.int .u64 0,.int .u64 0,.int .i64 0] 250 (of_decide_eq_true (by kernel_rfl)) (by kernel_rfl)
   exact ⟨_,_,hcs⟩
 · obtain ⟨cs',hcs,_⟩:=hS.1 12 #[.int .u64 0,.int .u64 0,.int .i64 0] 250 (of_decide_eq_true (by kernel_rfl)) (by kernel_rfl)
   exact ⟨_,_,hcs⟩
theorem cheats:Go.Pinned.cheatRows=(List.range 61).map fun k=>(Dc.dlt k,Dc.cutB k):=by decide +kernel
theorem floatEq:(Rows.laid_internal_strconv_float64pow10:DataW Unit)=.slice (Fl.pows.map fun x=>.lit (.float .f64 x)) []:=by kernel_rfl
theorem powtEq:(Rows.laid_internal_strconv_powtab:DataW Unit)=.slice (Dc.powt.map fun (x:Nat)=>.lit (.int .i64 (x:Int))) []:=by kernel_rfl
theorem errRow (u:TypeId) (h:Tryz.prog.typeName? 3 u=some "*errors.errorString"):u=263 :=
 typeName_ptr_named (nm := "errors.errorString") (by rw [show "*" ++ "errors.errorString" = "*errors.errorString" by decide];kernel_rfl) (by kernel_rfl) (by decide) u (by rw [show "*" ++ "errors.errorString" = "*errors.errorString" by decide];exact h)
theorem powEq:(Rows.laid_internal_strconv_uint64pow10:DataW Unit)=Lib.tabData .u64 Lib.pow10Tab:=by kernel_rfl
theorem ak_of {W:World} (hS:W.ShapedOpen Tryz.prog) (hh:laidMetH Tryz.prog Rows.libSplitUptoRow.laid W):AK W:=by
 have hF:=f64_of hS hh
 have hMX:∃ m,W.cell? ⟨5,0,none⟩=some (.int .i64 m):=Go.Proofs.cell_of_shapedOpen_int (zero:=#[.int .i64 0]) (t:=3) hS (of_decide_eq_true (by kernel_rfl)) (by kernel_rfl) rfl (by kernel_rfl) (by kernel_rfl) Tryz.underlying3
 have h:=hh
 rw [MakeChecks.laidMetH_plain _ _ _ (by kernel_rfl)] at h
 unfold Rows.libSplitUptoRow at h
 have RO:=Lib.laidMet.reads h (n := "internal/strconv.optimize") (d:=Rows.laid_internal_strconv_optimize) (by simp)
 have RP:=Lib.laidMet.reads h (n := "internal/strconv.powtab") (d:=Rows.laid_internal_strconv_powtab) (by simp)
 have RF:=Lib.laidMet.reads h (n := "internal/strconv.float64pow10") (d:=Rows.laid_internal_strconv_float64pow10) (by simp)
 have RC:=Lib.laidMet.reads h (n := "internal/strconv.leftcheats") (d:=Rows.laid_internal_strconv_leftcheats) (by simp)
 have RT:=Lib.laidMet.reads h (n := "internal/strconv.pow10Tab") (d:=Rows.laid_internal_strconv_pow10Tab) (by simp)
 have hU:laidMet Tryz.prog (("internal/strconv.uint64pow10",Rows.laid_internal_strconv_uint64pow10) :: _) W:=h.tail.tail.tail.tail.tail.tail.tail.tail
 rw [powEq] at hU
 have hTB:Lib.TabIs Tryz.prog W "internal/strconv.uint64pow10" .u64 Lib.pow10Tab:=Lib.tabIs_of_head (g:=11) (t:=240) (e:=76) (n:=20) (by kernel_rfl) (by kernel_rfl) (by kernel_rfl) (by kernel_rfl) (by kernel_rfl) (by kernel_rfl) hU
 have hE:=h.tail.tail.tail.tail.tail.tail.tail.tail.tail.tail
 clear h hh hS
 rw [floatEq] at RF
 rw [powtEq] at RP
 have hop:W.cell? ⟨8,0,none⟩=some (.bool true):=by
   obtain ⟨g,t,cs,fuel,p,h1,h2,h3,h4⟩:=RO
   obtain rfl:=Option.some.inj ((show Tryz.prog.globalNamed "internal/strconv.optimize" = some 8 by kernel_rfl).symm.trans h1)
   obtain rfl:=Option.some.inj ((show (Tryz.prog.globals[8]?).map (·.type)=some 4 by kernel_rfl).symm.trans h2)
   unfold Rows.laid_internal_strconv_optimize at h4
   obtain ⟨b,hb,hx⟩:=DataW.trod_bool Tryz.underlying4 h4
   have hb2:b=true:=by
     have:=congrArg Prod.fst hx
     simpa using this.symm
   rw [World.var?_cell h1 h3 0,← Array.getElem?_toList,hb,hb2]
   rfl
 have hpw:Dc.PWT W:=by
   obtain ⟨R,o,c,h1,h2⟩:=slice_reads (g:=15) (t:=91) (e:=3) (by kernel_rfl) (by kernel_rfl) Tryz.underlying91 (by decide) (by rw [show Tryz.prog.cellsOf 3=1 by kernel_rfl];decide) RP
   refine ⟨R,o,c,h1,fun k hk=>?_⟩
   obtain ⟨fuel,ce,q,t1,t2⟩:=h2 k (.lit (.int .i64 ((Dc.powt.getD k 0:Nat):Int))) (by
     rw [List.getElem?_map,List.getElem?_eq_getElem (show k < Dc.powt.length from hk)]
     rw [List.getD_eq_getElem?_getD,List.getElem?_eq_getElem (show k < Dc.powt.length from hk)]
     rfl)
   obtain ⟨z,hz,hx,_⟩:=DataW.trod_int Tryz.underlying3 t1
   have hz2:z=((Dc.powt.getD k 0:Nat):Int):=by
     have:=congrArg Prod.fst hx
     simpa using this.symm
   have h3:=t2 0 (by rw [show Tryz.prog.cellsOf 3=1 by kernel_rfl];decide)
   rw [show Tryz.prog.cellsOf 3=1 by kernel_rfl,hz,hz2,Nat.mul_one,Nat.add_zero] at h3
   exact h3
 have hft:Us.FT T0 W:=by
   obtain ⟨R,o,c,h1,h2⟩:=slice_reads (g:=16) (t:=153) (e:=23) (by kernel_rfl) (by kernel_rfl) Tryz.underlying153 (by decide) (by rw [show Tryz.prog.cellsOf 23=1 by kernel_rfl];decide) RF
   refine ⟨R,o,c,h1,fun k hk=>?_⟩
   obtain ⟨fuel,ce,q,t1,t2⟩:=h2 k (.lit (.float .f64 (T0 k))) (by
     rw [List.getElem?_map,List.getElem?_eq_getElem (show k < Fl.pows.length from hk)]
     unfold T0
     rw [List.getD_eq_getElem?_getD,List.getElem?_eq_getElem (show k < Fl.pows.length from hk)]
     rfl)
   obtain ⟨z,hz,hx⟩:=trod_float Tryz.underlying23 t1
   have hz2:z=T0 k:=by
     have:=congrArg Prod.fst hx
     simpa using this.symm
   have h3:=t2 0 (by rw [show Tryz.prog.cellsOf 23=1 by kernel_rfl];decide)
   rw [show Tryz.prog.cellsOf 23=1 by kernel_rfl,hz,hz2,Nat.mul_one,Nat.add_zero] at h3
   exact h3
 have hlc:Dc.LCT W:=by
   unfold Rows.laid_internal_strconv_leftcheats Go.Pinned.leftcheats at RC
   rw [cheats] at RC
   obtain ⟨R,o,c,h1,h2⟩:=slice_reads (g:=18) (t:=292) (e:=291) (by kernel_rfl) (by kernel_rfl) Tryz.underlying292 (by simp) (by rw [show Tryz.prog.cellsOf 291=2 by kernel_rfl];decide) RC
   refine ⟨R,o,c,by simpa using h1,fun k hk=>?_⟩
   obtain ⟨fuel,ce,q,t1,t2⟩:=h2 k (.agg [.lit (.int .i64 (Dc.dlt k:Int)),.lit (.string (Dc.cutB k))]) (by
     rw [List.getElem?_map,List.getElem?_map,List.getElem?_range hk]
     rfl)
   have a0:=field_int Tryz.underlying291 t1 0 _ .i64 (Dc.dlt k:Int) rfl (by kernel_rfl) (by kernel_rfl) rfl
   have a1:=field_string Tryz.underlying291 t1 1 _ (Dc.cutB k) rfl (by kernel_rfl) (by kernel_rfl) rfl
   have b0:=t2 0 (by rw [show Tryz.prog.cellsOf 291=2 by kernel_rfl];decide)
   have b1:=t2 1 (by rw [show Tryz.prog.cellsOf 291=2 by kernel_rfl];decide)
   rw [show Tryz.prog.cellsOf 291=2 by kernel_rfl] at b0 b1
   exact ⟨b0.trans a0,b1.trans a1⟩
 have hpt:Us.PT Hi0 Lo0 W:=by
   obtain ⟨g,t,cs,fuel,p,h1,h2,h3,h4⟩:=RT
   obtain rfl:=Option.some.inj ((show Tryz.prog.globalNamed "internal/strconv.pow10Tab" = some 17 by kernel_rfl).symm.trans h1)
   obtain rfl:=Option.some.inj ((show (Tryz.prog.globals[17]?).map (·.type)=some 288 by kernel_rfl).symm.trans h2)
   unfold Rows.laid_internal_strconv_pow10Tab Go.Pinned.pow10Tab at h4
   have key:∀ k,k < 696→cs[k * 2]?=some (.int .u64 (Hi0 k:Int))∧cs[k * 2 + 1]?=some (.int .u64 (Lo0 k:Int)):=fun k hk=>by
     obtain ⟨fuel',d,q,e1,e2⟩:=Lib.array_elem Tryz.underlying288 h4 k hk
     rw [List.getElem?_map,(pow_at hk).1] at e1
     cases e1
     rw [show Tryz.prog.cellsOf 287=2 by kernel_rfl] at e2
     have a0:=field_int Tryz.underlying287 e2 0 _ .u64 (Hi0 k:Int) rfl (by kernel_rfl) (by kernel_rfl) rfl
     have a1:=field_int Tryz.underlying287 e2 1 _ .u64 (Lo0 k:Int) rfl (by kernel_rfl) (by kernel_rfl) rfl
     rw [List.getElem?_take_of_lt (by decide),List.getElem?_drop,Array.getElem?_toList] at a0 a1
     exact ⟨a0,a1⟩
   exact ⟨fun k hk=>⟨by rw [World.var?_cell h1 h3];exact (key k hk).1,(pow_at hk).2.2.1⟩,fun k hk=>⟨by rw [World.var?_cell h1 h3];exact (key k hk).2,(pow_at hk).2.2.2⟩⟩
 have her:∃ ev,W.cell? ⟨7,0,none⟩=some ev∧(ev=.nilIface∨∃ te pe,ev=.iface te pe):=by
   obtain ⟨a1,s1,hv1,-,-,-⟩:=laid_sentinel (g:=7) (ti:=150) (te:=265) hE (by kernel_rfl) (by kernel_rfl) Tryz.underlying150 errRow (by kernel_rfl) Tryz.underlying265 rfl rfl Tryz.underlying9 (by kernel_rfl) (by kernel_rfl)
   exact ⟨_,by have h0:=World.var?_cell (P:=Tryz.prog) (g:=7) (by kernel_rfl) hv1 0;simpa using h0,.inr ⟨_,_,rfl⟩⟩
 exact ⟨⟨hpt,big,World.block_lt_of_cell? W _ (hpt.hi 0 (by decide)).1,hTB,hMX⟩,⟨⟨hF,⟨hF,hlc,hpw⟩,hpt,hft,hop⟩,her⟩⟩
theorem firstEq:(Rows.laid_unicode_utf8_first:DataW Unit)=Lib.firstData:=by kernel_rfl
theorem acceptEq:(Rows.laid_unicode_utf8_acceptRanges:DataW Unit)=Lib.acceptData:=by kernel_rfl
theorem cw_of {W:World} (hS:W.ShapedOpen Tryz.prog) (hh:laidMetH Tryz.prog Rows.libSplitUptoRow.laid W):Cv.CW W:=by
 have hA:=ak_of hS hh
 refine ⟨hA,⟨?_,hA.x.tab⟩⟩
 have h:=hh
 rw [MakeChecks.laidMetH_plain _ _ _ (by kernel_rfl)] at h
 unfold Rows.libSplitUptoRow at h
 rw [firstEq,acceptEq] at h
 exact utf8Tabs_of_reads Tryz.lays260 ⟨by kernel_rfl,by kernel_rfl,by kernel_rfl,by kernel_rfl,by kernel_rfl,by kernel_rfl,by kernel_rfl⟩ (Lib.laidMet.reads h (by simp)) (Lib.laidMet.reads h (by simp))
end Ft
noncomputable def layWorld (os:Os):World:=World.laidAll Tryz.prog os Rows.libSplitUptoRow.laid
theorem layWorld_os (os:Os):(layWorld os).os=os:=World.laidAll_os _ _ _
theorem w_fits (os:Os):(World.holding Tryz.prog os ⟨#[],#[],[]⟩).layFits Tryz.prog Rows.libSplitUptoRow.laid []=true:=by kernel_rfl
theorem w_ifaces (os:Os):(World.holding Tryz.prog os ⟨#[],#[],[]⟩).layIfaces Tryz.prog Rows.libSplitUptoRow.laid (World.laidAll Tryz.prog os Rows.libSplitUptoRow.laid)=true:=by kernel_rfl
theorem layWorld_met (os:Os) (args:Array Value):laidMetH Tryz.prog Rows.libSplitUptoRow.laid ((layWorld os).forCall (fun _ _=>0) ⟨#[],args,[]⟩).memory:=laidMet_laidAll args (w_fits os) (w_ifaces os)
theorem w_rest (os:Os) (args:Array Value):((((layWorld os).forCall (fun _ _=>0) ⟨#[],args,[]⟩).heap.toList.drop Tryz.prog.globals.size).take ((begin Tryz.prog (fun _ _=>0) default).world.heap.size - Tryz.prog.globals.size) =
     (begin Tryz.prog (fun _ _=>0) default).world.heap.toList.drop Tryz.prog.globals.size):=by kernel_rfl
theorem w_zip (os:Os) (args:Array Value):((layWorld os).forCall (fun _ _=>0) ⟨#[],args,[]⟩).variablesZipB Tryz.prog=true:=by kernel_rfl
theorem w_shape (os:Os) (args:Array Value):((layWorld os).forCall (fun _ _=>0) ⟨#[],args,[]⟩).Shaped Tryz.prog:=World.shaped_of_ZipB (w_zip os args) (w_rest os args)
section
variable {H:Type} {enc:TypeId × Value→H}
theorem witness_shape {C:Checked} {os:Os} {f:FuncId} {fn:Func} {s:OpenSpec} {conds:List PathCond} {apart:Bool} {laid:List (String × DataW Unit)} (modest:Bool) (w0:World) (args:Array Value) (hos:w0.os=os)
   (hsh:(w0.forCall (fun _ _=>0) ⟨#[],args,[]⟩).Shaped C.prog)
   (hok:Input.okWideB C.prog (w0.forCall (fun _ _=>0) ⟨#[],args,[]⟩) f ⟨#[],args,[]⟩=true)
   (hrow:s.preRow enc C.prog fn conds apart laid (w0.forCall (fun _ _=>0) ⟨#[],args,[]⟩).memory args) :
   ∃ (w:World) (tape:Tape) (i:Input),w.os=os∧(w.forCall tape i).Shaped C.prog∧i.vars=[]∧Input.okWide C.prog (w.forCall tape i) .any w.heap.size f i ∧
     s.preRow enc C.prog fn conds apart laid (w.forCall tape i).memory i.args∧({ modest:=modest }:Assume).holds C.prog (lone (Frame.enter C.prog f i.args .normal) [] (w.forCall tape i)):=by
 let F:Stop.Interp:=fun _ _ _=>0
 refine ⟨w0,F.over fun _ _=>0,⟨#[],args,[]⟩,hos,hsh,(Input.okWide_of_okWideB (base:=0) hok).1,(Input.okWide_of_okWideB hok).2,hrow,?_⟩
 simp only [Assume.holds]
 exact ⟨by simp,by simp,fun _=>F.over_modest Modest.zero,by simp,by simp⟩
end
variable {H:Type} {enc:TypeId × Value→H} {P:Program} {w:World} {base:Nat} {spare:Nat→Bool} {held:Bool}
end Go.Proofs.YtgdolcoiihagfaaGreatDoor
