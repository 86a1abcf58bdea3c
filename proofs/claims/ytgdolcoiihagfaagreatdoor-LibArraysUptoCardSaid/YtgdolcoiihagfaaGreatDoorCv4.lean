/- Layer 9: an array's text, whole. -/
import Derived.Test.YtgdolcoiihagfaaGreatDoorCvB
namespace Go.Proofs.YtgdolcoiihagfaaGreatDoor
open Go Go.RowKit
set_option linter.all false
set_option maxRecDepth 100000
set_option maxHeartbeats 100000000
namespace Cv
open P10
theorem wide_comma {w:World} (hW:CW w):Calls Tryz.prog 143 #[.string ⟨#[44]⟩] w fun e w'=>e=.returned (.string ⟨#[0,44]⟩)∧Pur w w' :=
 wide_asc [44] (asc_of _ rfl) (by decide) hW
theorem array_any {w0:World} {s:Hs} {tb G:Nat} (h0:HpAt w0 s) (hok:s.d.Ok G) (hW:CW w0) (hwf:∀ x∈s.d.xs,∀ v∈x.items,v.wf) :
   ∀ (f:Nat) (L:List Int) (i:Int) (av:Value) (w:World),s.d.kind i=2→L.Nodup→(∀ x∈L,0≤x∧x < (s.d.xs.length:Int))→L.length + f=s.d.xs.length + 1→TA w0 w tb s.h av L →
   Calls Tryz.prog 164 #[.pointer (some ⟨tb,0,none⟩),.int .i64 i] w fun e w'=>e=.returned (tv (arrT TX s.d f L i))∧Tb w0 w tb s.h av L w'
 | 0,L,i,av,w,_,hn,hr,hl,_=>by have:=short_list _ L hn hr;omega
 | f + 1,L,i,av,w,hk,hn,hr,hl,hA=>by
   have hmf:∀ (fn:Fn) (first cap:Array Value) (w:World),(Instr.makeFunc fn first cap).run Tryz.prog w=.ok (.func fn first cap) w:=fun _ _ _ _=>rfl
   have hd:=hok.bounds
   obtain ⟨x,hx,hxk⟩:∃ x,s.d.obj i=some x∧x.kind=2:=by
     unfold Hd.kind at hk
     cases hx:s.d.obj i with
     | none=>rw [hx] at hk;cases hk
     | some x=>rw [hx] at hk;exact ⟨x,rfl,hk⟩
   have hmem:=Hd.obj_mem hx
   have hln:=short_list _ L hn hr
   have P1:Pur w (w.alloc (.cells #[.pointer (some ⟨tb,0,none⟩)] 168)):=(Pur.refl w).alloc _
   have B1:=bk_new w (.cells #[.pointer (some ⟨tb,0,none⟩)] 168)
   obtain ⟨w1,hw1⟩:∃ w1,w1=w.alloc (.cells #[.pointer (some ⟨tb,0,none⟩)] 168):=⟨_,rfl⟩
   have hs1:w1.heap.size=w.heap.size + 1:=by rw [hw1];exact Array.size_push _
   rw [← hw1] at P1 B1
   have A1:=hA.to P1
   have CT:=contains_any i A1.row (by omega)
   have c0:=bk_cell B1 0 _ rfl
   have c1:=bk_cell A1.own 1 _ rfl
   have hbt:w.heap.size≠tb:=fun e=>by have:=bk_lt hA.own;omega
   by_cases hm:i∈L
   · have HR:=Lib.hid (show arrT TX s.d (f + 1) L i=some [] by rw [arrT,if_pos hm])
     have hfin:=hA.left P1
     rw [decide_eq_true hm] at CT
     obtain ⟨aa,ac,hav⟩:=row_shape A1.row
     rw [hav] at c1 CT
     rw [hw1] at c0 c1
     clear A1 hA hm hav
     refine calls_of_wp_ret Tryz.func164 rfl ?_
     simp only [Tryz.ntmps164,List.size_toArray,List.length_cons,List.length_nil,Nat.reduceAdd,Nat.reduceSub,Array.replicate_succ,Array.replicate_zero,List.push_toArray,List.append_toArray,List.nil_append,List.cons_append]
     go_wp2_with fail
     rw [← hw1]
     refine CT.mono ?_
     rintro e w2 ⟨rfl,rfl⟩
     clear hw1
     go_wp2
     simp [postR,Leaves,results,Tryz.results164,go_sem,HR.out,hfin,tv]
   · have HR:=Lib.hid (show arrT TX s.d (f + 1) L i=joinL (tellV TX s.d (arrT TX s.d f (L ++ [i]))) x.items true [] by
       rw [arrT,if_neg hm]
       unfold Hd.items
       rw [hx]
       simp [hxk])
     rw [decide_eq_false hm] at CT
     obtain ⟨i0,hi,hz0,hz1,hz2⟩:=int_info'
     obtain ⟨aa,ac,hav⟩:=row_shape A1.row
     have hab:av.ownBlock≠some w.heap.size:=fun e=>by have:=(hA.row.lt _ e).2;omega
     have htb1:tb < w1.heap.size:=bk_lt A1.own
     have hBW:w0.heap.size≤w1.heap.size:=A1.pur.size
     have Pd:Pur w1 (w1.drew.alloc (.cells #[.int .i64 i] 3)):=((Pur.refl w1).drew).alloc _
     have c0a:=bk_cell (bk_alloc B1 (.cells #[.int .i64 i] 3)) 0 _ rfl
     have c0d:=bk_cell (bk_alloc (bk_drew B1) (.cells #[.int .i64 i] 3)) 0 _ rfl
     have c1a:=bk_cell (bk_alloc A1.own (.cells #[.int .i64 i] 3)) 1 _ rfl
     have c1d:=bk_cell (bk_alloc (bk_drew A1.own) (.cells #[.int .i64 i] 3)) 1 _ rfl
     subst hav
     have c1u:=c1
     rw [hw1] at c1u
     have c0u:=c0
     rw [hw1] at c0u
     have IH:=array_any h0 hok hW hwf (tb:=tb) f (L ++ [i])
     have hn1:(L ++ [i]).Nodup:=by
       rw [List.nodup_append]
       exact ⟨hn,by simp,fun a ha b hb e=>hm (by rw [List.mem_singleton] at hb;rw [← hb,← e];exact ha)⟩
     have hr1:∀ x∈L ++ [i],0≤x∧x < (s.d.xs.length:Int):=fun y hy=>by
       rcases List.mem_append.1 hy with hy | hy
       · exact hr y hy
       · rw [List.mem_singleton] at hy;rw [hy];exact ⟨hmem.2.1,hmem.2.2.1⟩
     have hl1:(L ++ [i]).length + f=s.d.xs.length + 1:=by rw [List.length_append,List.length_singleton];omega
     have IT:=fun w2 (hp:Pur w0 w2)=>items_any s i w2 (h0.pur hp) hok
     have hit:s.d.items i=some x.items:=by unfold Hd.items;rw [hx];simp [hxk]
     simp only [hit,Option.isSome_some,Option.getD_some] at IT
     have hxl:x.items.length≤10000:=(hok.mem hmem.1).2
     have hxw:=hwf x hmem.1
     have hL:L.length≤10000:=by omega
     generalize x.items=vs at *
     clear hx hxk hmem hit hk hm hwf hd hr hn
     refine calls_of_wp_ret Tryz.func164 rfl ?_
     simp only [Tryz.ntmps164,List.size_toArray,List.length_cons,List.length_nil,Nat.reduceAdd,Nat.reduceSub,Array.replicate_succ,Array.replicate_zero,List.push_toArray,List.append_toArray,List.nil_append,List.cons_append]
     go_wp2_with fail
     rw [← hw1]
     refine CT.mono ?_
     rintro e w2 ⟨rfl,rfl⟩
     have hs2:w.heap.size < w2.heap.size:=by omega
     clear hw1 hs1 c0u c1u
     go_wp2_with fail
     go_cut [] from 19 to 28 (fun wx=>∃ g c,TA w0 wx tb s.h (.slice (some ⟨g,0,none⟩) (L.length + 1) c) (L ++ [i])∧wx.heap[w.heap.size]?=some (.cells #[.pointer (some ⟨tb,0,none⟩)] 168 (0,0))∧Chg (tb :: (Value.slice aa L.length ac).ownBlock.toList) w wx∧((Value.slice aa L.length ac).ownBlock=some g∨w.heap.size≤g)∧g≠w.heap.size)
     case first =>
       clear IH IT hxw HR
       go_region_law
         (refine step_append_lies _ (by rfl) _ _ _ (by rfl) w0.heap.size 3 i0 (.int .i64 0) 1 8 Tryz.underlying91 hi hz0 hz1 hz2 rfl (by decide) (.slice aa L.length ac) L.length (L.map fun x=>.int .i64 x) (by rfl) (A1.row.drew.alloc _) ⟨w2.heap.size,0,none⟩ 1 1 [.int .i64 i] (by rfl) (by rfl) (World.news_of_block (cs:=#[.int .i64 i]) (t:=3) (fr:=(0,0)) (bk_new w2.drew _)) (by simp [Value.oneCell']) (by omega) (by unfold maxLen;omega) (by omega) (Nat.le_trans hBW Pd.size) (w2.heap.size + 1) (by simp) ?_;intro gg cap w11 hown11 hgrow hat hlt11;have K11:=(hgrow.block tb (Nat.lt_of_lt_of_le htb1 Pd.size) (fun e=>A1.apart e.symm)).trans (bk_pur A1.own Pd);have KB:=(hgrow.block w.heap.size (Nat.lt_of_lt_of_le hs2 Pd.size) (fun e=>hab e.symm)).trans (bk_pur B1 Pd);have q6:=bk_cell KB 0 _ rfl;have q7:=bk_cell K11 1 _ rfl;have q8:=bk_free K11 1)
       all_goals
         go_wp2
         go_meet
         have hP:Pur w0 w11:=Chg.pur_of (A1.pur.trans Pd) (Chg.grownS hgrow) (fun b hb=>(A1.row.lt b (by simpa using hb)).1)
         have hC:Chg (tb :: (Value.slice aa L.length ac).ownBlock.toList) w w11:=Chg.grown (Chg.of_pur (P1.trans Pd)) hgrow (fun b hb=>.inl (List.mem_cons_of_mem _ (by rw [hb];simp)))
         have hT:=A1.push (i:=i) hown11 K11 hat (by omega) hP
         refine ⟨gg,cap,hT,bk_other KB (a:=⟨tb,1,none⟩) hbt _,?_,?_,?_⟩
         · exact hC.setCell (a:=⟨tb,1,none⟩) (.inl (List.mem_cons_self ..)) _
         · rcases hat with e | e
           · exact .inl e
           · right;omega
         · rcases hat with e | e
           · intro e2;exact hab (by rw [e,e2])
           · omega
     case rest =>
       obtain ⟨g,c,A2,B2,C2,D2,E2⟩:=hcut
       have hab2:=hA.row.lt
       clear A1 B1 CT c0 c1 c0a c0d c1a c1d hi hz0 hz1 hz2 Pd
       have hav':∀ b,(Value.slice aa L.length ac).ownBlock=some b→b < w.heap.size:=fun b hb=>(hab2 b hb).2
       clear hab2 hab
       have q0:=bk_cell B2 0 _ rfl
       have q1:=bk_cell A2.own 0 _ rfl
       have IT2:=IT _ A2.pur
       go_wp2_with fail
       refine IT2.mono ?_
       rintro e w3 ⟨iv,rfl,h3,hrow⟩
       have S3:AS w0 w tb s.h w.heap.size (.slice aa L.length ac) (L ++ [i]) iv vs (.slice (some ⟨g,0,none⟩) (L.length + 1) c) w3:=by
         have hs:=C2.size
         refine ⟨A2.to h3,C2.pur h3,?_,bk_pur B2 h3,row_low hrow (Nat.le_trans (Nat.le_refl _) hs),fun e=>E2 (by simpa [Value.ownBlock] using e),fun b hb=>?_,hbt⟩
         · rcases D2 with e | e
           · exact .inl e.symm
           · exact .inr ⟨g,rfl,e⟩
         · have hb2:=(hrow.lt b hb).1
           have hg2:=A2.form
           obtain ⟨g2,c2,e2,-,-,-,hlt⟩:=hg2
           cases e2
           refine ⟨fun e=>?_,fun e=>?_⟩
           · have:g=b:=by simpa [Value.ownBlock] using e
             omega
           · have:=bk_lt A2.own
             omega
       obtain ⟨ia,ic,hiv⟩:=row_shape S3.items
       subst hiv
       clear hrow IT IT2 q0 q1 h3 A2 B2 C2 D2 E2
       go_wp2
       go_loopw [8,41] (fun t k wr=>∃ (n:Nat) (acc:List UInt8) (avr:Value),n≤vs.length∧k=.int .i64 n∧t=.string ⟨acc.toArray⟩∧acc.length≤16385∧AS w0 w tb s.h w.heap.size (.slice aa L.length ac) (L ++ [i]) (.slice ia vs.length ic) vs avr wr∧Hid (arrT TX s.d (f + 1) L i=joinL (tellV TX s.d (arrT TX s.d f (L ++ [i]))) (vs.drop n) (n == 0) acc)) (fun _ k _=>vs.length + 1 - (intOf k).toNat)
       case atStart=>exact ⟨0,[],_,by omega,rfl,rfl,by simp,S3,Lib.hid (by rw [HR.out];rfl)⟩
       case round =>
         obtain ⟨n,acc,avr,hn,rfl,rfl,hacc,S,H⟩:=hrel
         clear S3 HR
         by_cases hlt:n < vs.length
         · have hlt':(n:Int) < vs.length:=by omega
           have hn0:(0:Int)≤n:=by omega
           obtain ⟨x,hx⟩:∃ x,vs[n]?=some x:=⟨_,List.getElem?_eq_getElem hlt⟩
           have hxv:=hxw x (List.mem_of_getElem? hx)
           obtain ⟨a2,c2,e2,hC⟩:=(VRead.of_own S.items).each
           cases e2
           obtain ⟨b,o,ha,hb,hcell⟩:=hC n x hx
           subst ha
           have k0:=hcell 0 _ rfl
           have k1:=hcell 1 _ rfl
           have k2:=hcell 2 _ rfl
           have k3:=hcell 3 _ rfl
           rw [Nat.add_zero] at k0
           have HJ:=Lib.hid (H.out.trans (joinL_step (te:=tellV TX s.d (arrT TX s.d f (L ++ [i]))) hx acc))
           obtain ⟨acc1,ha1⟩:∃ acc1,(if (n == 0)=true then acc else acc ++ [0,44])=acc1:=⟨_,rfl⟩
           rw [ha1] at HJ
           have hla:acc1.length≤16387:=by
             rw [← ha1]
             split
             · omega
             · rw [List.length_append];simp;omega
           have HA1:=Lib.hid ha1
           have TL:=fun (wx:World) (avx:Value) (hA:TA w0 wx tb s.h avx (L ++ [i]))=>tell_any (arr:=arrT TX s.d f (L ++ [i])) x h0 hA hW hxv (fun hk5 hk2 w1 h1=>IH x.ref avx w1 hk2 hn1 hr1 hl1 h1)
           have TLn:=fun t h=>tellV_len (T:=TX) (fun y=>txt_short hW.k.x.big y) (d:=s.d) (arr:=arrT TX s.d f (L ++ [i])) (fun j t h=>arrT_len TX s.d f (L ++ [i]) j t h) (v:=x) (t:=t) h
           have hxt:=hxv.2
           obtain ⟨kk,nn,tt,rr⟩:=x
           simp only [Va.v,Va.cells] at k0 k1 k2 k3 TL
           have PA:Pur wr (wr.alloc (.cells #[.int .i64 kk,.float .f64 nn,.string ⟨tt.toArray⟩,.int .i64 rr] 25)):=(Pur.refl wr).alloc _
           have NA:=bk_new wr (.cells #[.int .i64 kk,.float .f64 nn,.string ⟨tt.toArray⟩,.int .i64 rr] 25)
           have SA:=S.pur PA
           clear hC hcell H ha1 hx
           obtain ⟨bz,hbz⟩:∃ bz,decide (0 < n)=bz:=⟨_,rfl⟩
           have hbz2:decide ((0:Int) < (n:Int))=bz:=by rw [← hbz,decide_eq_decide];omega
           go_upto_if 47 with (fail)
           obtain ⟨wa,hwa⟩:∃ wa,wr.alloc (.cells #[.int .i64 kk,.float .f64 nn,.string ⟨tt.toArray⟩,.int .i64 rr] 25)=wa:=⟨_,rfl⟩
           rw [hwa] at SA NA ⊢
           have SA2:=SA
           have NA2:=NA
           clear k0 k1 k2 k3 hwa PA S
           go_cut [8] from 48 to 50 (fun t wx=>t=.string ⟨acc1.toArray⟩∧Pur wa wx)
           case first =>
             have WC:=wide_comma (hW.pur SA.ta.pur)
             cases bz with
             | false =>
               have h0n:n=0:=by have:=of_decide_eq_false hbz;omega
               have E1:=Lib.hid (show acc=acc1 by rw [← HA1.out,if_pos (by rw [h0n];rfl)])
               clear HJ HA1 TL TLn IH h0n hbz hbz2
               go_wp2
               go_meet
               exact ⟨by rw [E1.out],Pur.refl _⟩
             | true =>
               have h0n:n≠0:=by have:=of_decide_eq_true hbz;omega
               have E1:=Lib.hid (show acc ++ [0,44]=acc1 by rw [← HA1.out,if_neg (by simpa using h0n)])
               clear HJ HA1 TL TLn IH h0n hbz hbz2
               go_wp2_with fail
               refine WC.mono ?_
               rintro e w5 ⟨rfl,h5⟩
               go_wp2
               go_meet
               exact ⟨by rw [← E1.out],h5⟩
           case rest =>
           clear SA NA
           obtain ⟨rfl,hpa⟩:=hcut
           have SB:=SA2.pur hpa
           have NB:=bk_pur NA2 hpa
           have j0:=bk_cell NB 0 _ rfl
           have j1:=bk_cell NB 1 _ rfl
           have j2:=bk_cell NB 2 _ rfl
           have j3:=bk_cell NB 3 _ rfl
           have jb:=bk_cell SB.box 0 _ rfl
           have T1:=TL _ _ SB.ta
           obtain ⟨b0,hb0⟩:∃ b0,(kk != 0)=b0:=⟨_,rfl⟩
           obtain ⟨b1,hb1⟩:∃ b1,(kk != 1)=b1:=⟨_,rfl⟩
           have hso:some' ⟨kk,nn,tt,rr⟩=(b0 && b1):=by rw [← hb0,← hb1];rfl
           rw [hso] at HJ
           obtain ⟨te,hte⟩:∃ te,tellV TX s.d (arrT TX s.d f (L ++ [i])) ⟨kk,nn,tt,rr⟩=te:=⟨_,rfl⟩
           rw [hte] at T1 TLn
           clear TL SA2 NA2 hpa hbz hbz2 IH HA1 hso
           go_upto_region 12 with (fail)
           go_cut [58] from 51 to 58 (fun v wx=>v=.bool (b0 && b1)∧wx=wc)
           case first =>
             clear HJ T1 TLn hte
             cases b0 <;> cases b1
             all_goals
               go_wp2
               go_meet
               exact ⟨rfl,rfl⟩
           case rest =>
           obtain ⟨rfl,rfl⟩:=hcut
           obtain ⟨bs,hbs⟩:∃ bs,(b0 && b1)=bs:=⟨_,rfl⟩
           rw [hbs] at HJ
           simp only [hbs]
           clear hb0 hb1
           go_upto_if 58 with (fail)
           go_cut [8] from 59 to 70 (fun t wx=>∃ (acc2:List UInt8) (avr2:Value),t=.string ⟨acc2.toArray⟩∧acc2.length≤1000100000∧AS w0 w tb s.h w.heap.size (.slice aa L.length ac) (L ++ [i]) (.slice (some ⟨b,o,none⟩) vs.length ic) vs avr2 wx∧Hid (arrT TX s.d (f + 1) L i=if 8192 < acc2.length / 2 then none else joinL (tellV TX s.d (arrT TX s.d f (L ++ [i]))) (vs.drop (n + 1)) (n + 1 == 0) acc2))
           case first =>
             cases bs with
             | true =>
               rw [if_pos rfl] at HJ
               cases te with
               | none =>
                 have HN:=Lib.hid (show arrT TX s.d (f + 1) L i=none by rw [HJ.out,hte])
                 clear HJ hte TLn
                 go_wp2_with fail
                 refine T1.mono ?_
                 rintro e w5 ⟨rfl,ht5⟩
                 obtain ⟨avr2,S5⟩:=SB.tell ht5
                 unfold tv
                 simp only [Option.getD_none,Option.isSome_none,Bool.false_eq_true,if_false]
                 obtain ⟨g,c,eg,hgc,-,-,-⟩:=S5.ta.form
                 subst eg
                 have PO:=pop_any S5.box S5.ta.own (by omega) hgc
                 have hdone:=fun w' h1 h2=>AS.done (wr':=w') S5 h1 h2
                 have HE:=Lib.hid HN.out
                 go_wp2
                 refine leaves_cons (f:=189) (args:=#[.pointer (some ⟨w.heap.size,0,none⟩)]) (by simp) (by simp [go_sem]) ?_
                 refine PO.mono ?_
                 rintro e u' w9 ⟨rfl,rfl,k1,k2⟩
                 have hT:=hdone _ k1 k2
                 clear PO hdone k1 k2
                 simp [Leaves,settle,results,Tryz.results164,go_sem,HE.out,tv,hT]
               | some m =>
                 have HN:=Lib.hid (show arrT TX s.d (f + 1) L i=if 8192 < (acc1 ++ m).length / 2 then none else joinL (tellV TX s.d (arrT TX s.d f (L ++ [i]))) (vs.drop (n + 1)) (n + 1 == 0) (acc1 ++ m) by rw [HJ.out,hte])
                 have hml:m.length≤1000000000:=by
                   rcases TLn m rfl with h | h
                   · omega
                   · simp only at h hxt;omega
                 have z1:¬ 9223372036854775807 < acc1.length + m.length:=by omega
                 clear HJ hte TLn
                 go_wp2_with fail
                 refine T1.mono ?_
                 rintro e w5 ⟨rfl,ht5⟩
                 obtain ⟨avr2,S5⟩:=SB.tell ht5
                 unfold tv
                 simp only [Option.getD_some,Option.isSome_some,if_true]
                 go_wp2
                 go_meet
                 exact ⟨acc1 ++ m,avr2,by simp,by rw [List.length_append];omega,S5,HN⟩
             | false =>
               rw [if_neg (by decide)] at HJ
               have HN:=Lib.hid (show arrT TX s.d (f + 1) L i=if 8192 < acc1.length / 2 then none else joinL (tellV TX s.d (arrT TX s.d f (L ++ [i]))) (vs.drop (n + 1)) (n + 1 == 0) acc1 by rw [HJ.out];simp)
               clear HJ hte TLn T1
               go_wp2
               go_meet
               exact ⟨acc1,avr,rfl,by omega,SB,HN⟩
           case rest =>
             clear SB NB j0 j1 j2 j3 jb T1 TLn hte HJ hla avr
             obtain ⟨acc2,avr,rfl,hal,SC,HN⟩:=hcut
             have LG:=fun w=>length_any acc2 w (by omega)
             by_cases hbig:8192 < acc2.length / 2
             · have E0:=Lib.hid (show arrT TX s.d (f + 1) L i=none by rw [HN.out,if_pos hbig])
               have d1:decide ((8192:Int) < ((acc2.length / 2:Nat):Int))=true:=by rw [decide_eq_true_eq];omega
               obtain ⟨q,hq⟩:∃ q,acc2.length / 2=q:=⟨_,rfl⟩
               rw [hq] at LG d1
               have d2:decide (8192 < q)=true:=by rw [decide_eq_true_eq];omega
               clear HN hbig hq
               obtain ⟨g,c,eg,hgc,-,-,-⟩:=SC.ta.form
               subst eg
               have PO:=pop_any SC.box SC.ta.own (by omega) hgc
               have hdone:=fun w' h1 h2=>AS.done (wr':=w') SC h1 h2
               have HE:=Lib.hid E0.out
               go_wp2_with fail
               refine (LG _).mono ?_
               rintro e w6 ⟨rfl,rfl⟩
               go_wp2
               refine leaves_cons (f:=189) (args:=#[.pointer (some ⟨w.heap.size,0,none⟩)]) (by simp) (by simp [go_sem]) ?_
               refine PO.mono ?_
               rintro e u' w9 ⟨rfl,rfl,k1,k2⟩
               have hT:=hdone _ k1 k2
               clear PO hdone k1 k2
               simp [Leaves,settle,results,Tryz.results164,go_sem,HE.out,tv,hT]
             · have HN2:=Lib.hid (HN.out.trans (if_neg hbig))
               have d1:decide ((8192:Int) < ((acc2.length / 2:Nat):Int))=false:=by rw [decide_eq_false_iff_not];omega
               have hal2:acc2.length≤16385:=by omega
               obtain ⟨q,hq⟩:∃ q,acc2.length / 2=q:=⟨_,rfl⟩
               rw [hq] at LG d1
               have d2:decide (8192 < q)=false:=by rw [decide_eq_false_iff_not];omega
               clear HN hbig hq
               go_wp2_with fail
               refine (LG _).mono ?_
               rintro e w6 ⟨rfl,rfl⟩
               go_wp2
               go_roundw
               case rel=>exact ⟨n + 1,acc2,avr,by omega,by go_num,rfl,hal2,SC,HN2⟩
               case measure=>simp [intOf];omega
         · obtain rfl:n=vs.length:=by omega
           have E0:=Lib.hid (show arrT TX s.d (f + 1) L i=some acc by rw [H.out,List.drop_length,joinL])
           clear IH H
           obtain ⟨g,c,eg,hgc,-,-,-⟩:=S.ta.form
           subst eg
           have PO:=pop_any S.box S.ta.own (by omega) hgc
           have hdone:=fun w' h1 h2=>AS.done (wr':=w') S h1 h2
           have HE:=Lib.hid E0.out
           go_wp2
           refine leaves_cons (f:=189) (args:=#[.pointer (some ⟨w.heap.size,0,none⟩)]) (by simp) (by simp [go_sem]) ?_
           refine PO.mono ?_
           rintro e u' w9 ⟨rfl,rfl,k1,k2⟩
           have hT:=hdone _ k1 k2
           clear PO hdone k1 k2
           simp [Leaves,settle,results,Tryz.results164,go_sem,HE.out,tv,hT]
end Cv
end Go.Proofs.YtgdolcoiihagfaaGreatDoor
