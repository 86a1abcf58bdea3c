/- strconv's number in the form d.ddde+dd: ftoa64 at a finite float above 0. strconv.FormatFloat at a finite float above 0, in the form d.ddde+dd. esnum.layout: digits laid out about their point. esnum.Text: comparisons of floats ahead of it. esnum.Text in plain words: what is cut out of d.ddde+dd, and read. esnum.Text at a finite float above 0. esnum.Text at every float. -/
import Derived.Test.YtgdolcoiihagfaaGreatDoorFtA
import Derived.Test.YtgdolcoiihagfaaGreatDoorTbE
import Derived.Shelf.Unicode.PredsPay
import Derived.Lib.AppendIntMem
import Derived.Lib.ItoaLen
import Derived.Test.YtgdolcoiihagfaaGreatDoorIeX
namespace Go.Proofs.YtgdolcoiihagfaaGreatDoor
open Go Go.RowKit Go.Sort Go.Lib
set_option linter.all false
set_option maxRecDepth 100000
set_option maxHeartbeats 100000000
namespace Ft
open Us
/-- a float's digits and power -/
def dO (Hi Lo:Nat→Nat) (b:Nat):Nat × Int:=sh Hi Lo (mO b) (EO b)
/-- its text of the form d.ddde+dd -/
def fo (Hi Lo:Nat→Nat) (b:Nat):List UInt8:=sci (dgT (dO Hi Lo b).1) ((nDigits (dO Hi Lo b).1:Int) + (dO Hi Lo b).2)
theorem own_pur {w w':World} {base:Nat} {e:TypeId} {size:Nat} {v:Value} {n:Nat} {xs:List Value} (h:w.ownsRow base e size v n xs) (hp:Pur w w'):w'.ownsRow base e size v n xs :=
 h.kept (row:=none) ⟨hp.os,hp.tape,hp.output,hp.size,fun k hk _=>hp.block k hk⟩ (by cases v.ownBlock <;> simp)
theorem ftoa_any {Hi Lo:Nat→Nat} {B:Nat} {w:World} {v:Value} (b:Nat) (hT:PT Hi Lo w) (hB:Big Hi Lo) (hg:17 < w.heap.size) (htab:Lib.TabIs Tryz.prog w "internal/strconv.uint64pow10" .u64 Lib.pow10Tab)
   (h0:0 < b) (h1:b < 9218868437227405312) (hown:w.ownsRow B 5 1 v 0 []) (hBw:B≤w.heap.size) (hv:∀ g,v.ownBlock=some g→B≤g∧g < w.heap.size) :
   Calls Tryz.prog 181 #[v,.float .f64 b,.int .u8 101,.int .i64 (-1)] w fun e w'=>∃ v',e=.returned v'∧w'.ownsRow B 5 1 v' (fo Hi Lo b).length (byteCells (fo Hi Lo b))∧Below B w w':=by
 have h6:=@run_callFunc_extern Tryz.prog 200 _ Go.Extern.MathFloatBits.float64bits Tryz.func200 (by kernel_rfl) (by kernel_rfl) (by kernel_rfl) (by kernel_rfl)
 have fb:∀ (n:Nat) (w:World),(Go.Extern.MathFloatBits.float64bits #[.float .f64 n]).run Tryz.prog w=.ok (.int .u64 (n:Int)) w:=fun n w=>rfl
 obtain ⟨hV,hbl1,hbl2⟩:=v_of h0 h1
 have hmp:=maO_pos h0
 have hml:=maO_lt b
 obtain ⟨M,hM⟩:∃ M,maO b=M:=⟨_,rfl⟩
 obtain ⟨x,hx⟩:∃ x,exO b=x:=⟨_,rfl⟩
 obtain ⟨f,hf⟩:∃ f,b % 4503599627370496=f:=⟨_,rfl⟩
 have hxl:x≤2046:=by rw [← hx];unfold exO;omega
 have e1:(b:Int) / 9223372036854775808=0:=by omega
 have e2:(b:Int) / 4503599627370496=(x:Int):=by rw [← hx];unfold exO;omega
 have w2:IntKind.i64.wrap (x:Int)=(x:Int):=IntWalk.i64_in _ (by omega)
 have e3:bits .and .i64 (x:Int) 2047=(x:Int):=by
   have:=bits_mask .i64 63 (by decide) wraps_i64 11 (by decide) (x:Int) (by omega) (by omega)
   rw [show ((2:Int) ^ 11 - 1)=2047 from rfl] at this
   rw [this];omega
 have e4:bits .and .u64 (b:Int) 4503599627370495=(f:Int):=by
   have:=u64_and_nat b 4503599627370495 (by omega) (by decide)
   rw [show ((4503599627370495:Nat):Int)=4503599627370495 from rfl] at this
   rw [this,show b &&& 4503599627370495=f from by rw [← hf];exact Nat.and_two_pow_sub_one_eq_mod b 52]
 have x1:((x:Int) == 2047)=false:=by rw [beq_eq_false_iff_ne];omega
 have m0:((M:Int) == 0)=false:=by rw [beq_eq_false_iff_ne];omega
 obtain ⟨y,hy⟩:∃ y:Nat,y=(if x=0 then 1 else x):=⟨_,rfl⟩
 have hyl:1≤y∧y≤2046:=by rw [hy];split <;> omega
 have hMf:M=if x=0 then f else f + 4503599627370496:=by rw [← hM,← hx,← hf];rfl
 have e5:bits .or .u64 (f:Int) 4503599627370496=((f + 4503599627370496:Nat):Int):=by
   have:=u64_or_nat f 4503599627370496 (by omega) (by decide)
   rw [show ((4503599627370496:Nat):Int)=4503599627370496 from rfl] at this
   rw [this,Nat.or_comm]
   have h:=Nat.two_pow_add_eq_or_of_lt (i:=52) (show f < 2 ^ 52 from by omega) 1
   rw [Nat.mul_one] at h
   rw [show (4503599627370496:Nat) ||| f=4503599627370496 + f from h.symm]
   omega
 have wx1:IntKind.i64.wrap ((x:Int) + 1)=(x:Int) + 1:=IntWalk.i64_in _ (by omega)
 obtain ⟨s,hs⟩:∃ s,shO b=s:=⟨_,rfl⟩
 have hsl0:s≤63∧(s:Int)=64 - (Lib.bitLen M:Int):=by rw [← hs];unfold shO;rw [hM] at hbl1 hbl2 ⊢;omega
 obtain ⟨m,hm⟩:∃ m,mO b=m:=⟨_,rfl⟩
 have hmM:m=M * 2 ^ s:=by rw [← hm];unfold mO;rw [hM,hs]
 obtain ⟨E,hE⟩:∃ E,EO b=E:=⟨_,rfl⟩
 have hEy:E=(y:Int) - 1023 - (s:Int) - 52:=by
   rw [← hE];unfold EO;rw [hs,hx,hy]
   split <;> rfl
 obtain ⟨D,hD⟩:∃ D,dO Hi Lo b=D:=⟨_,rfl⟩
 have hDs:sh Hi Lo m E=D:=by rw [← hD];unfold dO;rw [hm,hE]
 rw [hm,hE] at hV
 have hpos:=sh_pos hV hB
 rw [hDs] at hpos
 obtain ⟨cc,R,hTf,-,hRl⟩:=dgT_form hpos.1
 have hn20:nDigits D.1≤20:=by have:=numDigits_eq D.1 hpos.1 (by omega);split at this <;> omega
 have hfo:=Lib.hid (show fo Hi Lo b=sci (cc :: R) ((nDigits D.1:Int) + D.2) by unfold fo;rw [hD,hTf])
 have BL:=fun w=>Tryz.bits_Len64 (M:Int) w (by omega) (by omega)
 simp only [Int.toNat_natCast] at BL
 have wy:IntKind.i64.wrap ((y:Int) + -1023)=(y:Int) - 1023:=by rw [show (y:Int) + -1023=(y:Int) - 1023 by omega];exact IntWalk.i64_in _ (by omega)
 have wy2:IntKind.i64.wrap ((y:Int) - 1023)=(y:Int) - 1023:=IntWalk.i64_in _ (by omega)
 obtain ⟨bl,hbl⟩:∃ bl,Lib.bitLen M=bl:=⟨_,rfl⟩
 rw [hbl] at BL hsl0
 have hs64:s=64 - bl:=by omega
 have ws:IntKind.i64.wrap (64 - (bl:Int))=64 - (bl:Int):=IntWalk.i64_in _ (by omega)
 have wm:IntKind.u64.wrap ((M:Int) * 2 ^ (64 - bl))=(m:Int):=by
   rw [show (M:Int) * 2 ^ (64 - bl)=(m:Int) by rw [hmM,hs64,Int.natCast_mul,Int.natCast_pow];rfl]
   exact IntWalk.u64_in _ (by have:=hV.m1;omega)
 have we:IntKind.i64.wrap ((y:Int) - 1023 - (64 - (bl:Int)))=(y:Int) - 1023 - (64 - (bl:Int)):=IntWalk.i64_in _ (by omega)
 have hEy2:(y:Int) - 1023 - (64 - (bl:Int)) - 52=E:=by omega
 have we2:IntKind.i64.wrap ((y:Int) - 1023 - (64 - (bl:Int)) - 52)=E:=by rw [hEy2];exact IntWalk.i64_in _ (by have:=hV.e0;have:=hV.e1;omega)
 have b64:(bl:Int)≤64:=by omega
 have b64':bl≤64:=by omega
 have b1':1≤bl:=by omega
 have s0:(0:Int)≤(s:Int):=by omega
 have s64:s < 64:=by omega
 go_enter Tryz.func181,Tryz.ntmps181
 go_upto_region 14 with (fail)
 refine wp_region_pur (by kernel_rfl) (by kernel_rfl) ?_
 repeat (go_big_quiet_step (fail))
 refine wpQuiet_nil ?_
 intro wa pa
 go_upto_if 78 with (fail)
 go_cut [14,15] from 77 to 84 (fun p q wx=>p=.int .i64 (y:Int)∧q=.int .u64 (M:Int)∧wx=wa)
 case first =>
   by_cases hx0:x=0
   · subst hx0
     have hy1:y=1:=by rw [hy];rfl
     have hM1:M=f:=by rw [hMf];rfl
     go_wp2
     go_meet
     exact ⟨by rw [hy1];rfl,by rw [hM1],rfl⟩
   · have hx1:((x:Int) == 0)=false:=by rw [beq_eq_false_iff_ne];omega
     have hy1:y=x:=by rw [hy,if_neg hx0]
     have hM1:M=f + 4503599627370496:=by rw [hMf,if_neg hx0]
     go_wp2
     go_meet
     exact ⟨by rw [hy1],by rw [hM1,Int.natCast_add];rfl,rfl⟩
 case rest =>
   obtain ⟨rfl,rfl,rfl⟩:=hcut
   clear e1 e2 w2 e3 e4 x1 e5 wx1 hy hMf hx hf hM hs hm hE hD hmM hEy hbl1 hbl2 hmp hml hbl hs64 hsl0 s0 s64
   go_wp2_with fail
   refine (BL _).mono ?_
   rintro e w1 ⟨rfl,rfl⟩
   have SH:=fun (W:World) (hW:Pur w W)=>short_any (w:=W) m E (hT.pur hW) hB (Nat.lt_of_lt_of_le hg hW.size) hV
   rw [hDs] at SH
   go_wp2_with fail
   obtain ⟨W1,hW1⟩:∃ W1,W1=wc.alloc (.cells z32 217):=⟨_,rfl⟩
   have P1:Pur wc W1:=by rw [hW1];exact (Pur.refl _).alloc _
   have Q1:W1.heap[wc.heap.size]?=some (.cells z32 217 (0,0)):=by rw [hW1];exact bk_new _ _
   refine (SH (wc.alloc (.cells z32 217)) (by rw [← hW1];exact pa.trans P1)).mono ?_
   rw [← hW1]
   rintro e w2 ⟨rfl,p2⟩
   have Q2:=bk_pur Q1 p2
   have hq:w.heap.size≤wc.heap.size:=pa.size
   have hP0:Pur w w2:=pa.trans (P1.trans p2)
   clear hW1 Q1 SH
   obtain ⟨q,hqe⟩:∃ q,wc.heap.size=q:=⟨_,rfl⟩
   rw [hqe] at Q2 hq ⊢
   clear hqe P1 p2 pa
   have hsl:∀ W,(Instr.sliceAt 217 (.pointer (some ⟨q,0,none⟩)) none none none).run Tryz.prog W=.ok (.slice (some ⟨q,0,none⟩) 32 32) W:=fun W=>by
     rw [run_sliceAt_array_all W 217 ⟨q,0,none⟩ (by simp [Program.arrayLen,Program.elem,Tryz.underlying217])]
     simp [Program.arrayLen,Program.elem,Tryz.underlying217,slicedAt]
     go_simp
   go_upto_region 38 with (fail)
   go_cut [22,23] from 139 to 147 (fun dp nd wx=>dp=.int .i64 ((nDigits D.1:Int) + D.2)∧nd=.int .i64 ((dgT D.1).length:Int)∧Chg [q] w2 wx∧∀ j c,(decDigits D.1)[j]?=some c→wx.cell? ⟨q,j,none⟩=some (.int .u8 (c.toNat:Int)))
   case first =>
     refine wp_region_until (T:=fun w'=>0≤w'.heap.size) 10 (by kernel_rfl) (Nat.zero_le _) (fun hT=>?_)
     refine wpAnyU_take (i:=0) (v:=?vu1) rfl (by kernel_rfl) (by kernel_rfl) (by kernel_rfl) (by kernel_rfl) (by kernel_rfl) (fun _ _ _ h=>h) (Or.inl ⟨by rfl,?hu1⟩) (by assumption) ?ru1
     case hu1=>(intro w9 hSw;(try dsimp only at hSw);go_simp;(try with_reducible rfl))
     simp only [Act.put,List.setIfInBounds_toArray,List.set_cons_zero,List.set_cons_succ]
     refine wpAnyU_take (i:=1) (v:=?vu2) rfl (by kernel_rfl) (by kernel_rfl) (by kernel_rfl) (by kernel_rfl) (by kernel_rfl) (fun _ _ _ h=>h) (Or.inl ⟨by rfl,?hu2⟩) (by assumption) ?ru2
     case hu2=>(intro w9 hSw;(try dsimp only at hSw);go_simp;(try with_reducible rfl))
     simp only [Act.put,List.setIfInBounds_toArray,List.set_cons_zero,List.set_cons_succ]
     refine wpAnyU_take (i:=2) (v:=?vu3) rfl (by kernel_rfl) (by kernel_rfl) (by kernel_rfl) (by kernel_rfl) (by kernel_rfl) (fun _ _ _ h=>h) (Or.inl ⟨by rfl,?hu3⟩) (by assumption) ?ru3
     case hu3=>(intro w9 hSw;(try dsimp only at hSw);go_simp;(try with_reducible rfl))
     simp only [Act.put,List.setIfInBounds_toArray,List.set_cons_zero,List.set_cons_succ]
     refine wpAnyU_take (i:=3) (v:=?vu4) rfl (by kernel_rfl) (by kernel_rfl) (by kernel_rfl) (by kernel_rfl) (by kernel_rfl) (fun _ _ _ h=>h) (Or.inl ⟨by rfl,?hu4⟩) (by assumption) ?ru4
     case hu4=>(intro w9 hSw;(try dsimp only at hSw);go_simp;(try with_reducible rfl))
     simp only [Act.put,List.setIfInBounds_toArray,List.set_cons_zero,List.set_cons_succ]
     refine wpAnyU_next (i:=4) (by kernel_rfl) rfl (fun K hK=>?_)
     go_simp
     have hw2:Pur w w2.drew:=hP0.trans ((Pur.refl w2).drew)
     refine (Tryz.internal_strconv_numDigits D.1 hpos.1 (by omega) w2.drew (TabIs_below (g:=11) (by kernel_rfl) htab hw2)).mono ?_
     rintro e w3 ⟨rfl,rfl⟩
     refine hK.out _ _ ?_ (fun hT=>?_)
     clear hK K
     try simp only [Act.put,List.setIfInBounds_toArray,List.set_cons_zero,List.set_cons_succ]
     · exact Nat.zero_le _
     refine wpAnyU_next (i:=5) (by kernel_rfl) rfl (fun K hK=>?_)
     go_simp
     refine (set_any D.1 D.2 (bk_pur Q2 ((Pur.refl w2).drew)) hpos.1 hpos.2.1 (by omega)).mono ?_
     rintro e w4 ⟨rfl,c4,hc4⟩
     refine hK.out _ _ ?_ (fun hT=>?_)
     clear hK K
     try simp only [Act.put,List.setIfInBounds_toArray,List.set_cons_zero,List.set_cons_succ]
     · exact Nat.zero_le _
     refine wpAnyU_take (i:=6) (v:=?vu5) rfl (by kernel_rfl) (by kernel_rfl) (by kernel_rfl) (by kernel_rfl) (by kernel_rfl) (fun _ _ _ h=>h) (Or.inl ⟨by rfl,?hu5⟩) (by assumption) ?ru5
     case hu5=>(intro w9 hSw;(try dsimp only at hSw);go_simp;(try with_reducible rfl))
     simp only [Act.put,List.setIfInBounds_toArray,List.set_cons_zero,List.set_cons_succ]
     refine wpAnyU_take (i:=7) (v:=?vu6) rfl (by kernel_rfl) (by kernel_rfl) (by kernel_rfl) (by kernel_rfl) (by kernel_rfl) (fun _ _ _ h=>h) (Or.inl ⟨by rfl,?hu6⟩) (by assumption) ?ru6
     case hu6=>(intro w9 hSw;(try dsimp only at hSw);go_simp;(try with_reducible rfl))
     simp only [Act.put,List.setIfInBounds_toArray,List.set_cons_zero,List.set_cons_succ]
     refine wpAnyU_take (i:=8) (v:=?vu7) rfl (by kernel_rfl) (by kernel_rfl) (by kernel_rfl) (by kernel_rfl) (by kernel_rfl) (fun _ _ _ h=>h) (Or.inl ⟨by rfl,?hu7⟩) (by assumption) ?ru7
     case hu7=>(intro w9 hSw;(try dsimp only at hSw);go_simp;(try with_reducible rfl))
     simp only [Act.put,List.setIfInBounds_toArray,List.set_cons_zero,List.set_cons_succ]
     refine wpAnyU_next (i:=9) (by kernel_rfl) rfl (fun K hK=>?_)
     go_simp
     refine hK.out _ _ ?_ (fun hT=>?_)
     clear hK K
     try simp only [Act.put,List.setIfInBounds_toArray,List.set_cons_zero,List.set_cons_succ]
     · exact Nat.zero_le _
     refine wpAnyU_tail 10 (by kernel_rfl) ?_
     simp only [List.drop_succ_cons,List.drop_zero]
     go_wp2
     go_meet
     exact ⟨rfl,rfl,(Chg.of_pur ((Pur.refl w2).drew)).trans c4,hc4⟩
   case rest =>
     obtain ⟨rfl,rfl,hC,hcell⟩:=hcut
     have hP:Pur w wc:=((Chg.of_pur hP0).trans hC).to_pur (fun k hk=>by simp only [List.mem_singleton] at hk;omega)
     have hsz:q < wc.heap.size:=Nat.lt_of_lt_of_le (bk_lt Q2) hC.size
     have H:Ds B q (cc :: R) w wc v []:=by
       refine ⟨own_pur hown hP,fun e=>?_,hsz,fun j c hj=>hcell j c ?_,hBw,hP.size,fun g hg=>(hv g hg).1,Below.mono hP hBw⟩
       · have:=(hv _ e).2;omega
       · have h7:=cutz_take (decDigits D.1)
         rw [← hTf] at hj
         unfold dgT at hj
         rw [h7,List.getElem?_take] at hj
         split at hj
         · exact hj
         · cases hj
     have EF:=efg_any cc R ((nDigits D.1:Int) + D.2) H (by omega) (by omega)
     rw [hTf,List.length_cons]
     obtain ⟨N,hN⟩:∃ N,R.length + 1=N:=⟨_,rfl⟩
     obtain ⟨n,hn⟩:∃ n,R.length=n:=⟨_,rfl⟩
     rw [hN,hn] at EF
     rw [hN]
     have wn:IntKind.i64.wrap ((N:Int) - 1)=(n:Int):=by rw [show (N:Int) - 1=(n:Int) by omega];exact IntWalk.i64_in _ (by omega)
     have mx:max (n:Int) 0=(n:Int):=by omega
     clear H hC hcell hsz hP hq Q2 hN hn hTf hV hB hpos hT htab hDs
     go_wp2_with fail
     refine EF.mono ?_
     rintro e w5 ⟨v',rfl,D5⟩
     go_wp2
     go_ret
     rw [hfo.out]
     exact ⟨v',rfl,D5.own,D5.pur⟩
end Ft
namespace Ft
open Us
/-- an owned row of bytes, as a text -/
theorem str_of_own {w:World} {B g cap:Nat} (l:List UInt8) (h:w.ownsRow B 5 1 (.slice (some ⟨g,0,none⟩) l.length cap) l.length (byteCells l)) :
   (convert 75 9 (.slice (some ⟨g,0,none⟩) l.length cap)).run Tryz.prog w=.ok (.string ⟨l.toArray⟩) w:=by
 have hm:(l.map fun b=>((b.toNat:Nat):Int)).map B8=l:=by
   rw [List.map_map]
   conv=>rhs;rw [← List.map_id l]
   exact List.map_congr_left fun b _=>B8_toNat b
 rw [run_str_of_cells w 75 9 5 ⟨g,0,none⟩ l.length cap (l.map fun b=>((b.toNat:Nat):Int)) (by simp) Tryz.underlying75 Tryz.underlying5 Tryz.underlying9 fun j hj=>?_,hm]
 rw [add_plain,Nat.zero_add,h.cellAt j (by omega)]
 unfold byteCells
 simp [hj]
theorem fo_pos (Hi Lo:Nat→Nat) (b:Nat):0 < (fo Hi Lo b).length:=by
 unfold fo sci
 simp
 omega
theorem fmt_any {Hi Lo:Nat→Nat} {w:World} (b:Nat) (hT:PT Hi Lo w) (hB:Big Hi Lo) (hg:17 < w.heap.size) (htab:Lib.TabIs Tryz.prog w "internal/strconv.uint64pow10" .u64 Lib.pow10Tab)
   (h0:0 < b) (h1:b < 9218868437227405312) :
   Calls Tryz.prog 155 #[.float .f64 b,.int .u8 101,.int .i64 (-1),.int .i64 64] w fun e w'=>e=.returned (.string ⟨(fo Hi Lo b).toArray⟩)∧Pur w w':=by
 obtain ⟨i0,hi,hz0,hz1,hz2⟩:=info_parts u8i
 have mx:max (3:Int) 24=24:=by decide
 obtain ⟨CS,hCS,hmk⟩:∃ CS:Array Value,CS.size=24 * 1∧∀ w:World,(Instr.makeSlice 75 (.int .i64 0) (.int .i64 24)).run Tryz.prog w=.ok (.slice (some ⟨w.heap.size,0,none⟩) 0 24) (w.alloc (.cells CS 5)):=by
   refine ⟨madeCells (Value.int .u8 0).cells (24 * 1),?_,fun w=>?_⟩
   · unfold madeCells;simp
   · have:=run_makeSlice (P:=Tryz.prog) w 75 5 i0 (.int .u8 0) Tryz.underlying75 hi hz0 .i64 .i64 0 24 (by omega) (by omega) (by rw [hz1];omega) (by rw [hz2];omega) (by omega)
     rw [this,hz1]
     rfl
 obtain ⟨W1,hW1⟩:∃ W1,W1=w.alloc (.cells CS 5):=⟨_,rfl⟩
 have P1:Pur w W1:=by rw [hW1];exact (Pur.refl _).alloc _
 have O1:W1.ownsRow w.heap.size 5 1 (.slice (some ⟨w.heap.size,0,none⟩) 0 24) 0 []:=by
   rw [hW1];exact World.ownsRow_made (base:=w.heap.size) (e:=5) (size:=1) w CS 24 (Nat.le_refl _) (by decide) hCS
 have hs1:w.heap.size < W1.heap.size:=by rw [hW1];show _ < (w.heap.push _).size;rw [Array.size_push];omega
 have FA:=ftoa_any (B:=w.heap.size) (w:=W1) b (hT.pur P1) hB (Nat.lt_trans hg hs1) (TabIs_below (g:=11) (by kernel_rfl) htab P1) h0 h1 O1 (Nat.le_of_lt hs1) (fun g hg=>by
   simp only [Value.ownBlock,Option.some.injEq] at hg
   omega)
 clear hT hB hg htab
 go_enter Tryz.func155,Tryz.ntmps155
 go_wp2_with fail
 rw [← hW1]
 refine FA.mono ?_
 rintro e w2 ⟨v',rfl,O2,b2⟩
 obtain ⟨g,cap,rfl,-,-⟩:=O2.form (fo_pos Hi Lo b)
 have SC:=str_of_own (fo Hi Lo b) O2
 have P2:Pur w w2:=Below.trans P1 b2
 clear O2 b2 FA
 obtain ⟨F,hF⟩:∃ F,fo Hi Lo b=F:=⟨_,rfl⟩
 rw [hF] at SC ⊢
 have hF:=Lib.hid hF
 go_wp2
 go_ret
 rw [hF.out]
 exact ⟨rfl,P2⟩
theorem format_any {Hi Lo:Nat→Nat} {w:World} (b:Nat) (hT:PT Hi Lo w) (hB:Big Hi Lo) (hg:17 < w.heap.size) (htab:Lib.TabIs Tryz.prog w "internal/strconv.uint64pow10" .u64 Lib.pow10Tab)
   (h0:0 < b) (h1:b < 9218868437227405312) :
   Calls Tryz.prog 132 #[.float .f64 b,.int .u8 101,.int .i64 (-1),.int .i64 64] w fun e w'=>e=.returned (.string ⟨(fo Hi Lo b).toArray⟩)∧Pur w w':=by
 have FM:=fmt_any b hT hB hg htab h0 h1
 clear hT hB htab
 go_enter Tryz.func132,Tryz.ntmps132
 go_wp2_with fail
 refine FM.mono ?_
 rintro e w2 ⟨rfl,p2⟩
 go_wp2
 go_ret
 exact ⟨rfl,p2⟩
end Ft
namespace Ft
open Us
/-- digits whose point stands behind n of them -/
def lay (T:List UInt8) (n:Int):List UInt8 :=
 if (T.length:Int)≤n∧n≤21 then T ++ Lib.repeatL [48] (n - T.length).toNat
 else if 0 < n∧n≤21 then Go.Proofs.YtgdolcoiihagfaaGreatDoor.sub T 0 n.toNat ++ (46 :: Go.Proofs.YtgdolcoiihagfaaGreatDoor.sub T n.toNat T.length)
 else if -6 < n∧n≤0 then 48 :: 46 :: (Lib.repeatL [48] (-n).toNat ++ T)
 else (Go.Proofs.YtgdolcoiihagfaaGreatDoor.sub T 0 1 ++ if 1 < T.length then 46 :: Go.Proofs.YtgdolcoiihagfaaGreatDoor.sub T 1 T.length else []) ++ (if n - 1 < 0 then 101 :: 45 :: Lib.itoa (1 - n) else 101 :: 43 :: Lib.itoa (n - 1))
theorem rep_len (c:UInt8):∀ k,(Lib.repeatL [c] k).length=k
 | 0=>rfl
 | k + 1=>by rw [Lib.repeatL,List.length_append,rep_len c k];simp;omega
theorem layA {w:World} (T:List UInt8) (n:Nat) (h1:T.length≤n) (h2:n≤21) :
   Calls Tryz.prog 134 #[.string ⟨T.toArray⟩,.int .i64 (n:Int)] w fun e w'=>e=.returned (.string ⟨(lay T n).toArray⟩)∧Pur w w':=by
 have hl:=Lib.hid (show lay T n=T ++ Lib.repeatL [48] (n - T.length) by unfold lay;rw [if_pos ⟨by omega,by omega⟩];congr 2;omega)
 obtain ⟨k,hk⟩:∃ k,n - T.length=k:=⟨_,rfl⟩
 have RP:=fun w=>Tryz.strings_Repeat ⟨#[48]⟩ k w (by omega) (by show 1 * k≤_;omega)
 have wk:IntKind.i64.wrap ((n:Int) - (T.length:Int))=(k:Int):=by rw [show (n:Int) - (T.length:Int)=(k:Int) by omega];exact IntWalk.i64_in _ (by omega)
 have d1:decide ((T.length:Int)≤(n:Int))=true:=by rw [decide_eq_true_eq];omega
 have d2:decide ((n:Int)≤21)=true:=by rw [decide_eq_true_eq];omega
 rw [hk] at hl
 have hrl:(Lib.repeatL [48] k).length≤1000:=by rw [rep_len];omega
 have z1:¬ 9223372036854775807 < T.length + (Lib.repeatL [48] k).length:=by omega
 clear hk hrl
 go_enter Tryz.func134,Tryz.ntmps134
 go_wp2_with fail
 refine (RP _).mono ?_
 rintro e w1 ⟨rfl,p1⟩
 go_wp2
 go_ret
 rw [hl.out]
 exact ⟨rfl,p1⟩
theorem layB {w:World} (T:List UInt8) (n:Nat) (h1:n < T.length) (h2:n≤21) (h0:0 < n) (h3:T.length≤1000) :
   Calls Tryz.prog 134 #[.string ⟨T.toArray⟩,.int .i64 (n:Int)] w fun e w'=>e=.returned (.string ⟨(lay T n).toArray⟩)∧Pur w w':=by
 have hl:=Lib.hid (show lay T n=Go.Proofs.YtgdolcoiihagfaaGreatDoor.sub T 0 n ++ (46 :: Go.Proofs.YtgdolcoiihagfaaGreatDoor.sub T n T.length) by unfold lay;rw [if_neg (by omega),if_pos ⟨by omega,by omega⟩];rfl)
 have d1:decide ((T.length:Int)≤(n:Int))=false:=by rw [decide_eq_false_iff_not];omega
 have d1':¬ T.length≤n:=by omega
 have d2:decide ((n:Int)≤21)=true:=by rw [decide_eq_true_eq];omega
 have d3:decide ((0:Int) < (n:Int))=true:=by rw [decide_eq_true_eq];omega
 have d3':¬ n=0:=by omega
 have a1:(0:Int)≤(n:Int):=by omega
 have a2:(n:Int)≤(T.length:Int):=by omega
 have a3:n≤T.length:=by omega
 go_enter Tryz.func134,Tryz.ntmps134
 go_wp2
 refine wp_region_pur (by kernel_rfl) (by kernel_rfl) ?_
 repeat (first | (quiet_step (fail)) | (refine wpQuiet_step (fun K hK=>?_);go_simp;apply Exists.intro;refine ⟨fun _=>?_,hK _ ?_⟩;(rw [if_neg (by omega)];exact ⟨rfl,rfl⟩);clear hK K))
 refine wpQuiet_nil ?_
 intro wq hq
 go_wp2
 go_ret
 rw [hl.out]
 exact ⟨rfl,hq⟩
theorem layC {w:World} (T:List UInt8) (k:Nat) (h1:1≤T.length) (h2:T.length≤1000) (h3:k≤5) :
   Calls Tryz.prog 134 #[.string ⟨T.toArray⟩,.int .i64 (-(k:Int))] w fun e w'=>e=.returned (.string ⟨(lay T (-(k:Int))).toArray⟩)∧Pur w w':=by
 have hl:=Lib.hid (show lay T (-(k:Int))=48 :: 46 :: (Lib.repeatL [48] k ++ T) by
   unfold lay
   rw [if_neg (by omega),if_neg (by omega),if_pos ⟨by omega,by omega⟩,Int.neg_neg,Int.toNat_natCast])
 have RP:=fun w=>Tryz.strings_Repeat ⟨#[48]⟩ k w (by omega) (by show 1 * k≤_;omega)
 have hrl:=rep_len 48 k
 have d1:decide ((T.length:Int)≤-(k:Int))=false:=by rw [decide_eq_false_iff_not];omega
 have d2:decide (-(k:Int)≤21)=true:=by rw [decide_eq_true_eq];omega
 have d3:decide ((0:Int) < -(k:Int))=false:=by rw [decide_eq_false_iff_not];omega
 have d4:decide ((-6:Int) < -(k:Int))=true:=by rw [decide_eq_true_eq];omega
 have d5:decide (-(k:Int)≤0)=true:=by rw [decide_eq_true_eq];omega
 have w1:IntKind.i64.wrap (k:Int)=(k:Int):=IntWalk.i64_in _ (by omega)
 have w2:IntKind.i64.wrap (-(-(k:Int)))=(k:Int):=by rw [Int.neg_neg];exact w1
 have hrl2:=Lib.hid hrl
 have z1:¬ 9223372036854775807 < 2 + (Lib.repeatL [48] k).length:=by omega
 have z2:¬ 9223372036854775807 < (Lib.repeatL [48] k).length + 1 + 1:=by omega
 have z3:¬ 9223372036854775807 < (Lib.repeatL [48] k).length + 1 + 1 + T.length:=by omega
 have z4:¬ 9223372036854775807 < 2 + (Lib.repeatL [48] k).length + T.length:=by omega
 clear hrl
 go_enter Tryz.func134,Tryz.ntmps134
 go_wp2_with fail
 refine (RP _).mono ?_
 rintro e w1 ⟨rfl,p1⟩
 go_wp2
 go_ret
 rw [hl.out]
 exact ⟨rfl,p1⟩
theorem layD {w:World} (T:List UInt8) (n:Int) (h1:1≤T.length) (h2:T.length≤21) (h3:21 < n∧n≤1000) (htab:Lib.TabIs Tryz.prog w "internal/strconv.uint64pow10" .u64 Lib.pow10Tab) :
   Calls Tryz.prog 134 #[.string ⟨T.toArray⟩,.int .i64 n] w fun e w'=>e=.returned (.string ⟨(lay T n).toArray⟩)∧Pur w w':=by
 have IT:=Tryz.strconv_Itoa (n - 1) (by omega) (by omega) w htab
 have hit:(Lib.itoa (n - 1)).length≤21:=by
   have h9:=Lib.itoa_length_le (n - 1) (by omega) (by omega)
   omega
 have d1:decide ((T.length:Int)≤n)=true:=by rw [decide_eq_true_eq];omega
 have d2:decide (n≤21)=false:=by rw [decide_eq_false_iff_not];omega
 have d3:decide ((0:Int) < n)=true:=by rw [decide_eq_true_eq];omega
 have d4:decide ((-6:Int) < n)=true:=by rw [decide_eq_true_eq];omega
 have d5:decide (n≤0)=false:=by rw [decide_eq_false_iff_not];omega
 have w1:IntKind.i64.wrap (n - 1)=n - 1:=IntWalk.i64_in _ (by omega)
 have w2:IntKind.i64.wrap (1 - n)=1 - n:=IntWalk.i64_in _ (by omega)
 have d6:decide (n - 1 < 0)=false:=by rw [decide_eq_false_iff_not];omega
 have a1:(1:Int)≤(T.length:Int):=by omega
 have hl:=Lib.hid (show lay T n=(Go.Proofs.YtgdolcoiihagfaaGreatDoor.sub T 0 1 ++ if 1 < T.length then 46 :: Go.Proofs.YtgdolcoiihagfaaGreatDoor.sub T 1 T.length else []) ++ (101 :: 43 :: Lib.itoa (n - 1)) by
   unfold lay
   rw [if_neg (by omega),if_neg (by omega),if_neg (by omega),if_neg (show ¬ n - 1 < 0 by omega)])
 have hsl:(Go.Proofs.YtgdolcoiihagfaaGreatDoor.sub T 0 1).length≤21∧(Go.Proofs.YtgdolcoiihagfaaGreatDoor.sub T 1 T.length).length≤21:=by
   unfold Go.Proofs.YtgdolcoiihagfaaGreatDoor.sub
   rw [List.length_take,List.length_take,List.length_drop,List.length_drop]
   omega
 by_cases hT:1 < T.length
 · have hl2:=Lib.hid (hl.out.trans (by rw [if_pos hT]))
   have t1:decide ((1:Int) < (T.length:Int))=true:=by rw [decide_eq_true_eq];omega
   clear hl
   have z1:¬ 9223372036854775807 < T.length - 1 + 1:=by omega
   have z2:¬ 9223372036854775807 < 1 + (T.length - 1 + 1):=by omega
   have z3:¬ 9223372036854775807 < 1 + (T.length - 1 + 1) + 2:=by omega
   go_enter Tryz.func134,Tryz.ntmps134
   go_wp2_with fail
   refine IT.mono ?_
   rintro e w5 ⟨rfl,k,os,rfl⟩
   have PG:Pur w (grow (w.drewN k) os):=Lib.below_grow w.heap.size w (Nat.le_refl _) k os
   go_wp2
   go_ret
   rw [hl2.out]
   exact ⟨by simp,PG⟩
 · have hl2:=Lib.hid (hl.out.trans (by rw [if_neg hT]))
   have t1:decide ((1:Int) < (T.length:Int))=false:=by rw [decide_eq_false_iff_not];omega
   clear hl
   go_enter Tryz.func134,Tryz.ntmps134
   go_wp2_with fail
   refine IT.mono ?_
   rintro e w5 ⟨rfl,k,os,rfl⟩
   have PG:Pur w (grow (w.drewN k) os):=Lib.below_grow w.heap.size w (Nat.le_refl _) k os
   go_wp2
   go_ret
   rw [hl2.out]
   exact ⟨by simp,PG⟩
theorem layE {w:World} (T:List UInt8) (n:Int) (h1:1≤T.length) (h2:T.length≤21) (h3:n≤-6∧-1000≤n) (htab:Lib.TabIs Tryz.prog w "internal/strconv.uint64pow10" .u64 Lib.pow10Tab) :
   Calls Tryz.prog 134 #[.string ⟨T.toArray⟩,.int .i64 n] w fun e w'=>e=.returned (.string ⟨(lay T n).toArray⟩)∧Pur w w':=by
 have IT:=Tryz.strconv_Itoa (1 - n) (by omega) (by omega) w htab
 have hit:(Lib.itoa (1 - n)).length≤21:=by
   have h9:=Lib.itoa_length_le (1 - n) (by omega) (by omega)
   omega
 have d1:decide ((T.length:Int)≤n)=false:=by rw [decide_eq_false_iff_not];omega
 have d2:decide (n≤21)=true:=by rw [decide_eq_true_eq];omega
 have d3:decide ((0:Int) < n)=false:=by rw [decide_eq_false_iff_not];omega
 have d4:decide ((-6:Int) < n)=false:=by rw [decide_eq_false_iff_not];omega
 have d5:decide (n≤0)=true:=by rw [decide_eq_true_eq];omega
 have w1:IntKind.i64.wrap (n - 1)=n - 1:=IntWalk.i64_in _ (by omega)
 have w2:IntKind.i64.wrap (1 - n)=1 - n:=IntWalk.i64_in _ (by omega)
 have d6:decide (n - 1 < 0)=true:=by rw [decide_eq_true_eq];omega
 have a1:(1:Int)≤(T.length:Int):=by omega
 have hl:=Lib.hid (show lay T n=(Go.Proofs.YtgdolcoiihagfaaGreatDoor.sub T 0 1 ++ if 1 < T.length then 46 :: Go.Proofs.YtgdolcoiihagfaaGreatDoor.sub T 1 T.length else []) ++ (101 :: 45 :: Lib.itoa (1 - n)) by
   unfold lay
   rw [if_neg (by omega),if_neg (by omega),if_neg (by omega),if_pos (show n - 1 < 0 by omega)])
 have hsl:(Go.Proofs.YtgdolcoiihagfaaGreatDoor.sub T 0 1).length≤21∧(Go.Proofs.YtgdolcoiihagfaaGreatDoor.sub T 1 T.length).length≤21:=by
   unfold Go.Proofs.YtgdolcoiihagfaaGreatDoor.sub
   rw [List.length_take,List.length_take,List.length_drop,List.length_drop]
   omega
 by_cases hT:1 < T.length
 · have hl2:=Lib.hid (hl.out.trans (by rw [if_pos hT]))
   have t1:decide ((1:Int) < (T.length:Int))=true:=by rw [decide_eq_true_eq];omega
   clear hl
   have z1:¬ 9223372036854775807 < T.length - 1 + 1:=by omega
   have z2:¬ 9223372036854775807 < 1 + (T.length - 1 + 1):=by omega
   have z3:¬ 9223372036854775807 < 1 + (T.length - 1 + 1) + 2:=by omega
   go_enter Tryz.func134,Tryz.ntmps134
   go_wp2_with fail
   refine IT.mono ?_
   rintro e w5 ⟨rfl,k,os,rfl⟩
   have PG:Pur w (grow (w.drewN k) os):=Lib.below_grow w.heap.size w (Nat.le_refl _) k os
   go_wp2
   go_ret
   rw [hl2.out]
   exact ⟨by simp,PG⟩
 · have hl2:=Lib.hid (hl.out.trans (by rw [if_neg hT]))
   have t1:decide ((1:Int) < (T.length:Int))=false:=by rw [decide_eq_false_iff_not];omega
   clear hl
   go_enter Tryz.func134,Tryz.ntmps134
   go_wp2_with fail
   refine IT.mono ?_
   rintro e w5 ⟨rfl,k,os,rfl⟩
   have PG:Pur w (grow (w.drewN k) os):=Lib.below_grow w.heap.size w (Nat.le_refl _) k os
   go_wp2
   go_ret
   rw [hl2.out]
   exact ⟨by simp,PG⟩
/-- layout, whole -/
theorem lay_any {w:World} (T:List UInt8) (n:Int) (h1:1≤T.length) (h2:T.length≤21) (h3:-1000≤n∧n≤1000) (htab:Lib.TabIs Tryz.prog w "internal/strconv.uint64pow10" .u64 Lib.pow10Tab) :
   Calls Tryz.prog 134 #[.string ⟨T.toArray⟩,.int .i64 n] w fun e w'=>e=.returned (.string ⟨(lay T n).toArray⟩)∧Pur w w':=by
 by_cases g1:21 < n
 · exact layD T n h1 h2 ⟨g1,h3.2⟩ htab
 · by_cases g2:n≤-6
   · exact layE T n h1 h2 ⟨g2,h3.1⟩ htab
   · by_cases g3:n≤0
     · obtain ⟨k,hk⟩:=Int.eq_ofNat_of_zero_le (show 0≤-n by omega)
       obtain rfl:n=-(k:Int):=by omega
       exact layC T k h1 (by omega) (by omega)
     · obtain ⟨k,rfl⟩:=Int.eq_ofNat_of_zero_le (show 0≤n by omega)
       by_cases g4:T.length≤k
       · exact layA T k g4 (by omega)
       · exact layB T k (by omega) (by omega) (by omega) (by omega)
end Ft
namespace Ft
open Us
/-- how two finite floats above 0 stand to each other -/
theorem ord_pos {a b:Nat} (ha:a < 9218868437227405312) (hb:b < 9218868437227405312):FloatKind.f64.format.order a b=some (compare a b):=by
 have h:=Ie.order_sv false false ha hb
 have e:∀ r,Ieee.double.word false r=r:=fun r=>rfl
 rw [e,e] at h
 show Ieee.double.order a b=_
 rw [h]
 congr 1
 unfold Ie.sv
 simp only [Bool.false_eq_true,if_false,compare,compareOfLessAndEq]
 have c1:((Ie.V a:Int) < (Ie.V b:Int))↔a < b:=by
   rw [Int.ofNat_lt]
   constructor
   · intro h
     rcases Nat.lt_or_ge a b with g | g
     · exact g
     · have:=(Ie.V_le (a:=b) (b:=a)).2 g;omega
   · exact Ie.V_lt
 have c2:((Ie.V a:Int)=(Ie.V b:Int))↔a=b:=by
   rw [Int.ofNat_inj]
   exact ⟨Ie.V_inj,fun h=>by rw [h]⟩
 simp only [c1,c2]
theorem isinf_any (b:Nat) (w:World) (h:b < 9218868437227405312):Calls Tryz.prog 97 #[.float .f64 b,.int .i64 1] w fun e w'=>e=.returned (.bool false)∧w=w':=by
 have ho:=ord_pos h (show 9218868437227405311 < 9218868437227405312 by decide)
 have hc:compare b 9218868437227405311=.lt∨compare b 9218868437227405311=.eq:=by
   simp only [compare,compareOfLessAndEq]
   split
   · exact .inl rfl
   · split
     · exact .inr rfl
     · omega
 rcases hc with hc | hc
 all_goals
   rw [hc] at ho
   clear hc h
   go_enter Tryz.func97,Tryz.ntmps97
   go_wp2
   go_ret
   exact ⟨rfl,rfl⟩
end Ft
namespace Ft
open Us
theorem index_at (c:UInt8) (Y:List UInt8):∀ X:List UInt8,c ∉ X→Lib.index (X ++ c :: Y) [c]=(X.length:Int)
 | [],_=>by
   rw [List.nil_append,Lib.index,if_pos (by simp)]
   rfl
 | x :: X,h=>by
   have hx:x≠c:=fun e=>h (by rw [e];exact List.mem_cons_self ..)
   have ih:=index_at c Y X (fun e=>h (List.mem_cons_of_mem _ e))
   rw [List.cons_append,Lib.index,if_neg (by simpa using fun e=>hx e.symm),ih,if_neg (by rw [beq_iff_eq];omega)]
   simp
theorem index_no (c:UInt8):∀ X:List UInt8,c ∉ X→Lib.index X [c]=-1
 | [],_=>rfl
 | x :: X,h=>by
   have hx:x≠c:=fun e=>h (by rw [e];exact List.mem_cons_self ..)
   have ih:=index_no c X (fun e=>h (List.mem_cons_of_mem _ e))
   rw [Lib.index,if_neg (by simpa using fun e=>hx e.symm),ih]
   rfl
theorem cut_at (c:UInt8) (X Y:List UInt8) (h:c ∉ X):Lib.cut (X ++ c :: Y) [c]=(X,Y,true):=by
 unfold Lib.cut
 rw [index_at c Y X h,if_pos (by omega),Int.toNat_natCast,List.take_left]
 rw [List.drop_append]
 simp
theorem atoi_expo:∀ n:Nat,n < 402→Lib.atoi (expo (n:Int))=some (n:Int)∧Lib.atoi (expo (-(n:Int)))=some (-(n:Int)):=by decide +kernel
theorem atoi_ex {X:Int} (h:-401≤X∧X≤401):Lib.atoi (expo X)=some X:=by
 rcases Int.le_total 0 X with g | g
 · obtain ⟨n,rfl⟩:=Int.eq_ofNat_of_zero_le g
   exact (atoi_expo n (by omega)).1
 · obtain ⟨n,hn⟩:=Int.eq_ofNat_of_zero_le (show 0≤-X by omega)
   obtain rfl:X=-(n:Int):=by omega
   exact (atoi_expo n (by omega)).2
/-- the digits with their point -/
def mant (T:List UInt8):List UInt8:=T.take 1 ++ if T.length≤1 then [] else 46 :: T.drop 1
theorem replace_mant (c:UInt8) (R:List UInt8) (h:46 ∉ c :: R):Lib.replace (mant (c :: R)) [46] [] 1=c :: R:=by
 have hc:(46:UInt8) ∉ [c]:=fun e=>h (by rw [List.mem_singleton.1 e];exact List.mem_cons_self ..)
 unfold Lib.replace mant
 rw [if_neg (by decide)]
 by_cases hR:R=[]
 · subst hR
   rw [if_pos (by simp),List.append_nil]
   have:Lib.index (List.take 1 [c]) [46]=-1:=index_no 46 [c] hc
   unfold Lib.replaceNum
   split
   · unfold Lib.count Lib.countFrom
     rw [this]
     rfl
   · rw [show (1:Int).toNat=0 + 1 from rfl,Lib.replaceK,this]
     rfl
 · have hl:¬ (c :: R).length≤1:=by
     have:=List.length_pos_iff.2 hR
     rw [List.length_cons];omega
   rw [if_neg hl]
   show Lib.replaceK [46] [] (Lib.replaceNum ([c] ++ 46 :: R) [46] 1) ([c] ++ 46 :: R)=c :: R
   have hi:=index_at 46 R [c] hc
   have hcnt:1≤Lib.count ([c] ++ 46 :: R) [46]:=by
     unfold Lib.count Lib.countFrom
     rw [hi]
     simp
   unfold Lib.replaceNum
   rw [if_neg (by omega),show (1:Int).toNat=0 + 1 from rfl,Lib.replaceK_hit _ _ _ _ _ hi]
   simp [Lib.replaceK]
end Ft
namespace Ft
open Us
theorem dec_digit (u:Nat):∀ c∈decDigits u,48≤c.toNat∧c.toNat≤57:=by
 induction u using Nat.strongRecOn with
 | _ u ih =>
   intro c hc
   by_cases g:u < 10
   · rw [decDigits,dif_pos g,List.mem_singleton] at hc
     rw [hc,byte48 g];omega
   · rw [decDigits,dif_neg g] at hc
     rcases List.mem_append.1 hc with e | e
     · exact ih (u / 10) (by omega) c e
     · rw [List.mem_singleton] at e
       rw [e,byte48 (by omega)];omega
theorem dgT_digit (d:Nat):∀ c∈dgT d,48≤c.toNat∧c.toNat≤57:=fun c hc=>by
 unfold dgT at hc
 rw [cutz_take] at hc
 exact dec_digit d c (List.mem_of_mem_take hc)
/-- what esnum.Text asks of the world -/
structure XW (Hi Lo:Nat→Nat) (w:World):Prop where
 pt:PT Hi Lo w
 big:Big Hi Lo
 lt:17 < w.heap.size
 tab:Lib.TabIs Tryz.prog w "internal/strconv.uint64pow10" .u64 Lib.pow10Tab
 mx:∃ m,w.cell? ⟨5,0,none⟩=some (.int .i64 m)
theorem XW.pur {Hi Lo:Nat→Nat} {w w':World} (h:XW Hi Lo w) (hp:Pur w w'):XW Hi Lo w' :=
 ⟨h.pt.pur hp,h.big,Nat.lt_of_lt_of_le h.lt hp.size,TabIs_below (g:=11) (by kernel_rfl) h.tab hp,h.mx.imp fun m hm=>Us.cellp hm hp⟩
/-- a finite float's text -/
def tx (Hi Lo:Nat→Nat) (b:Nat):List UInt8:=lay (dgT (dO Hi Lo b).1) ((nDigits (dO Hi Lo b).1:Int) + (dO Hi Lo b).2)
theorem text_pos {Hi Lo:Nat→Nat} {w:World} (b:Nat) (hW:XW Hi Lo w) (h0:0 < b) (h1:b < 9218868437227405312) :
   Calls Tryz.prog 98 #[.float .f64 b] w fun e w'=>e=.returned (.string ⟨(tx Hi Lo b).toArray⟩)∧Pur w w':=by
 have o1:FloatKind.f64.format.order b b=some .eq:=by
   rw [ord_pos h1 h1];simp [compare,compareOfLessAndEq]
 have o2:FloatKind.f64.format.order b 0=some .gt:=by
   rw [ord_pos h1 (by decide)]
   simp only [compare,compareOfLessAndEq]
   rw [if_neg (by omega),if_neg (by omega)]
 have II:=fun w=>isinf_any b w h1
 have FM:=format_any b hW.pt hW.big hW.lt hW.tab h0 h1
 obtain ⟨D,hD⟩:∃ D,dO Hi Lo b=D:=⟨_,rfl⟩
 have hV:=(v_of h0 h1).1
 have hpos:=sh_pos hV hW.big
 rw [show sh Hi Lo (mO b) (EO b)=D from hD] at hpos
 obtain ⟨c,R,hT,-,hRl⟩:=dgT_form hpos.1
 have hn20:nDigits D.1≤20:=by have:=numDigits_eq D.1 hpos.1 (by omega);split at this <;> omega
 have hdg:=dgT_digit D.1
 rw [hT] at hdg
 obtain ⟨dp,hdp⟩:∃ dp,(nDigits D.1:Int) + D.2=dp:=⟨_,rfl⟩
 have hfo:fo Hi Lo b=mant (c :: R) ++ 101 :: expo (dp - 1):=by unfold fo;rw [hD,hT,hdp];rfl
 have htx:=Lib.hid (show tx Hi Lo b=lay (c :: R) dp by unfold tx;rw [hD,hT,hdp])
 have hn101:(101:UInt8) ∉ mant (c :: R):=by
   unfold mant
   intro h
   rcases List.mem_append.1 h with e | e
   · have:=hdg 101 (List.mem_of_mem_take e);exact absurd this (by decide)
   · split at e
     · cases e
     · rcases List.mem_cons.1 e with e | e
       · exact absurd e (by decide)
       · have:=hdg 101 (List.mem_of_mem_drop e);exact absurd this (by decide)
 have hn46:(46:UInt8) ∉ c :: R:=fun h=>absurd (hdg 46 h) (by decide)
 have hml:(mant (c :: R)).length≤30:=by
   unfold mant
   rw [List.length_append]
   split <;> simp <;> omega
 have hel:(expo (dp - 1)).length≤4:=by
   unfold expo
   rw [List.length_cons]
   generalize (if dp - 1 < 0 then (45:UInt8) else 43)=s
   split <;> simp
 rw [hfo] at FM
 have CU:=fun (W:World) (hp:Pur w W)=>(hW.pur hp).mx.elim fun m hm=>Tryz.strings_Cut ⟨(mant (c :: R) ++ 101 :: expo (dp - 1)).toArray⟩ ⟨#[101]⟩ m W (by show (mant (c :: R) ++ 101 :: expo (dp - 1)).length < _;rw [List.length_append,List.length_cons];omega) hm
 have hcut:Lib.cut (mant (c :: R) ++ 101 :: expo (dp - 1)) [101]=(mant (c :: R),expo (dp - 1),true):=cut_at 101 _ _ hn101
 have AT:=fun (W:World)=>Tryz.strconv_Atoi ⟨(expo (dp - 1)).toArray⟩ (dp - 1) (by show (expo (dp - 1)).length≤18;omega) (atoi_ex (by omega)) W
 have RPL:=fun (W:World) (hp:Pur w W)=>(hW.pur hp).mx.elim fun m hm=>Tryz.strings_Replace ⟨(mant (c :: R)).toArray⟩ ⟨#[46]⟩ ⟨#[]⟩ 1 m W (by show (mant (c :: R)).length < _;omega) hm (by decide) (by show (mant (c :: R)).length + _ * 0≤_;omega)
 have hrep:=replace_mant c R hn46
 have LY:=fun (W:World) (hp:Pur w W)=>lay_any (w:=W) (c :: R) dp (by simp) (by rw [List.length_cons];omega) (by omega) (hW.pur hp).tab
 simp only [hcut] at CU
 simp only [hrep] at RPL
 have w1:IntKind.i64.wrap (dp - 1 + 1)=dp:=by rw [show dp - 1 + 1=dp by omega];exact IntWalk.i64_in _ (by omega)
 clear hfo hn101 hn46 hml hel hcut hrep hD hT hdg hV hpos hRl hn20 h1 hdp
 obtain ⟨Y,hY⟩:∃ Y,expo (dp - 1)=Y:=⟨_,rfl⟩
 obtain ⟨X,hX⟩:∃ X,mant (c :: R)=X:=⟨_,rfl⟩
 rw [hX,hY] at FM
 simp only [hX,hY] at CU RPL AT
 clear hX hY
 obtain ⟨E,hE⟩:∃ E,dp - 1=E:=⟨_,rfl⟩
 rw [hE] at w1
 simp only [hE] at AT
 clear hE
 obtain ⟨T,hT⟩:∃ T,c :: R=T:=⟨_,rfl⟩
 simp only [hT] at RPL LY htx
 clear hT
 go_enter Tryz.func98,Tryz.ntmps98
 go_wp2_with fail
 refine (II _).mono ?_
 rintro e w2 ⟨rfl,rfl⟩
 go_wp2_with fail
 refine FM.mono ?_
 rintro e w2 ⟨rfl,p2⟩
 go_wp2_with fail
 refine (CU _ p2).mono ?_
 rintro e w3 ⟨rfl,n3,rfl⟩
 have p3:Pur w (w2.drewN n3):=Pur.drewN n3 p2
 go_wp2_with fail
 refine (AT _).mono ?_
 rintro e w4 ⟨rfl,t4,hw4⟩
 have p4:Pur w w4:=by
   rw [hw4]
   exact p3.trans (Lib.bytesWorld_below _ _ _)
 clear hw4
 go_wp2_with fail
 refine (RPL _ p4).mono ?_
 rintro e w5 ⟨rfl,b5⟩
 have p5:Pur w w5:=p4.trans b5
 go_wp2_with fail
 refine (LY _ p5).mono ?_
 rintro e w6 ⟨rfl,b6⟩
 go_wp2
 go_ret
 rw [htx.out]
 exact ⟨rfl,p5.trans b6⟩
end Ft
namespace Ft
open Us
/-- a float's text, above 0 -/
def txp (Hi Lo:Nat→Nat) (r:Nat):List UInt8:=if r=9218868437227405312 then [73,110,102,105,110,105,116,121] else tx Hi Lo r
/-- any float's text -/
def txt (Hi Lo:Nat→Nat) (b:Nat):List UInt8 :=
 if Ie.nan b=true then [78,97,78]
 else if b % 9223372036854775808=0 then [48]
 else if 9223372036854775808≤b then 45 :: txp Hi Lo (b % 9223372036854775808) else txp Hi Lo (b % 9223372036854775808)
theorem lay_len {T:List UInt8} {n:Int} (hT:T.length≤20) (h0:-1000≤n) (h1:n≤1000):(lay T n).length≤70:=by
 have hs:∀ a b,(Go.Proofs.YtgdolcoiihagfaaGreatDoor.sub T a b).length≤20:=fun a b=>by
   unfold Go.Proofs.YtgdolcoiihagfaaGreatDoor.sub
   simp only [List.length_drop,List.length_take]
   omega
 have i1:=Lib.itoa_length_le (n - 1)
 have i2:=Lib.itoa_length_le (1 - n)
 have s1:=hs 0 1
 have s2:=hs 1 T.length
 have s3:=hs 0 n.toNat
 have s4:=hs n.toNat T.length
 unfold lay
 split
 · rw [List.length_append,rep_len];omega
 · split
   · rw [List.length_append,List.length_cons];omega
   · split
     · rw [List.length_cons,List.length_cons,List.length_append,rep_len];omega
     · rw [List.length_append,List.length_append]
       split <;> split <;> simp only [List.length_cons,List.length_nil] <;> omega
theorem tx_len {Hi Lo:Nat→Nat} (hB:Big Hi Lo) {b:Nat} (h0:0 < b) (h1:b < 9218868437227405312):(tx Hi Lo b).length≤70:=by
 obtain ⟨D,hD⟩:∃ D,dO Hi Lo b=D:=⟨_,rfl⟩
 have hV:=(v_of h0 h1).1
 have hpos:=sh_pos hV hB
 rw [show sh Hi Lo (mO b) (EO b)=D from hD] at hpos
 obtain ⟨c,R,hT,-,hRl⟩:=dgT_form hpos.1
 have hn20:nDigits D.1≤20:=by have:=numDigits_eq D.1 hpos.1 (by omega);split at this <;> omega
 unfold tx
 rw [hD]
 exact lay_len (by rw [hT,List.length_cons];omega) (by omega) (by omega)
theorem txp_len {Hi Lo:Nat→Nat} (hB:Big Hi Lo) {b:Nat} (h0:0 < b) (h1:b≤9218868437227405312):(txp Hi Lo b).length≤70:=by
 unfold txp
 split
 · simp
 · exact tx_len hB h0 (by omega)
theorem text_inf {Hi Lo:Nat→Nat} {w:World}:Calls Tryz.prog 98 #[.float .f64 9218868437227405312] w fun e w'=>e=.returned (.string ⟨(txp Hi Lo 9218868437227405312).toArray⟩)∧Pur w w':=by
 have HT:=Lib.hid (show txp Hi Lo 9218868437227405312=[73,110,102,105,110,105,116,121] by unfold txp;rw [if_pos rfl])
 have o1:FloatKind.f64.format.order 9218868437227405312 9218868437227405312=some .eq:=by decide
 have o2:FloatKind.f64.format.order 9218868437227405312 0=some .gt:=by decide
 have o3:FloatKind.f64.format.order 9218868437227405312 9218868437227405311=some .gt:=by decide
 have II:∀ w:World,Calls Tryz.prog 97 #[.float .f64 9218868437227405312,.int .i64 1] w fun e w'=>e=.returned (.bool true)∧w=w':=fun w=>by
   go_enter Tryz.func97,Tryz.ntmps97
   go_wp2
   go_ret
   exact ⟨rfl,rfl⟩
 go_enter Tryz.func98,Tryz.ntmps98
 go_wp2_with fail
 refine (II _).mono ?_
 rintro e w2 ⟨rfl,rfl⟩
 go_wp2
 go_ret
 rw [HT.out]
 exact ⟨rfl,Pur.refl _⟩
theorem text_up {Hi Lo:Nat→Nat} {w:World} (b:Nat) (hW:XW Hi Lo w) (h0:0 < b) (h1:b≤9218868437227405312) :
   Calls Tryz.prog 98 #[.float .f64 b] w fun e w'=>e=.returned (.string ⟨(txp Hi Lo b).toArray⟩)∧Pur w w':=by
 by_cases g:b=9218868437227405312
 · subst g;exact text_inf
 · have:=text_pos b hW h0 (by omega)
   rwa [show txp Hi Lo b=tx Hi Lo b by unfold txp;rw [if_neg g]]
theorem text_any {Hi Lo:Nat→Nat} {w:World} (b:Nat) (hW:XW Hi Lo w) (hb:b < 18446744073709551616) :
   Calls Tryz.prog 98 #[.float .f64 b] w fun e w'=>e=.returned (.string ⟨(txt Hi Lo b).toArray⟩)∧Pur w w':=by
 by_cases gn:Ie.nan b=true
 · have HT:=Lib.hid (show txt Hi Lo b=[78,97,78] by unfold txt;rw [if_pos gn])
   have o1:FloatKind.f64.format.order b b=none:=Ie.order_nan1 gn b
   clear gn
   go_enter Tryz.func98,Tryz.ntmps98
   go_wp2
   go_ret
   rw [HT.out]
   exact ⟨rfl,Pur.refl _⟩
 have gn:Ie.nan b=false:=by simpa using gn
 have gn2:=of_decide_eq_false gn
 have o1:FloatKind.f64.format.order b b=some .eq:=Ie.order_self hb gn
 have cmp:∀ x y:Int,compare x y=if x < y then .lt else if x=y then .eq else .gt:=fun x y=>rfl
 have o2:=Ie.order_rk (decide (9223372036854775808≤b)) false (a:=b % 9223372036854775808) (b:=0) (by omega) (by decide)
 rw [← Ie.word_ex b hb,cmp] at o2
 by_cases g0:b % 9223372036854775808=0
 · have HT:=Lib.hid (show txt Hi Lo b=[48] by unfold txt;rw [if_neg (by rw [gn];decide),if_pos g0])
   have o2:FloatKind.f64.format.order b 0=some .eq:=by
     refine Eq.trans o2 ?_
     rw [g0]
     unfold Ie.rk
     split <;> simp
   clear gn gn2 g0
   go_enter Tryz.func98,Tryz.ntmps98
   go_wp2
   go_ret
   rw [HT.out]
   exact ⟨rfl,Pur.refl _⟩
 by_cases gs:9223372036854775808≤b
 · have HT:=Lib.hid (show txt Hi Lo b=45 :: txp Hi Lo (b % 9223372036854775808) by unfold txt;rw [if_neg (by rw [gn];decide),if_neg g0,if_pos gs])
   have o2:FloatKind.f64.format.order b 0=some .lt:=by
     refine Eq.trans o2 ?_
     rw [decide_eq_true gs]
     show some (if -((b % 9223372036854775808:Nat):Int) < 0 then Ordering.lt else _)=_
     rw [if_pos (by omega)]
   have n1:Op.negFloat .f64 b=b % 9223372036854775808:=by
     have:=Ie.neg_word (decide (9223372036854775808≤b)) (r:=b % 9223372036854775808) (by omega)
     rw [← Ie.word_ex b hb] at this
     rw [this,decide_eq_true gs];rfl
   have TU:=fun {w:World} (hW:XW Hi Lo w)=>text_up (b % 9223372036854775808) hW (by omega) (by omega)
   obtain ⟨r,hr⟩:∃ r,b % 9223372036854775808=r:=⟨_,rfl⟩
   have TL:=txp_len hW.big (b:=b % 9223372036854775808) (by omega) (by omega)
   obtain ⟨L,hL⟩:∃ L,txp Hi Lo r=L:=⟨_,rfl⟩
   rw [hr,hL] at TL
   have z1:¬ 9223372036854775807 < 1 + L.length:=by omega
   rw [hr,hL] at HT
   rw [hr] at n1
   have nf:∀ w:World,(Op.unary .neg (.float .f64 b)).run Tryz.prog w=.ok (.float .f64 r) w:=fun w=>by
     show Result.ok (Value.float .f64 (Op.negFloat .f64 b)) w=_
     rw [n1]
   clear n1
   simp only [hr,hL] at TU
   clear gn gn2 g0 gs hr hL
   go_enter Tryz.func98,Tryz.ntmps98
   go_wp2_with fail
   refine (TU hW).mono ?_
   rintro e w2 ⟨rfl,p2⟩
   go_wp2
   go_ret
   rw [HT.out]
   exact ⟨rfl,p2⟩
 · have HT:txt Hi Lo b=txp Hi Lo b:=by unfold txt;rw [if_neg (by rw [gn];decide),if_neg g0,if_neg gs,Nat.mod_eq_of_lt (by omega)]
   rw [HT]
   exact text_up b hW (by omega) (by omega)
end Ft
end Go.Proofs.YtgdolcoiihagfaaGreatDoor
