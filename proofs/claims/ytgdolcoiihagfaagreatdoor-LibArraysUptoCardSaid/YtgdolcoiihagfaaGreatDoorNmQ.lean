/- Layer 4: blanks; the plain text of a wide one; the bytes of a set. Layer 4: the bytes of a set; the number of a text that is written by sixteens. Layer 4: is a text a decimal number? -/
import Derived.Test.YtgdolcoiihagfaaGreatDoorNmX
import Derived.Test.YtgdolcoiihagfaaGreatDoorHuX
import Derived.Test.YtgdolcoiihagfaaGreatDoorTbE
import Derived.Deep.CutBlock
import Derived.Maps.AppendAt
import Derived.Test.YtgdolcoiihagfaaGreatDoorRfX
import Derived.Lib.IndexMore
namespace Go.Proofs.YtgdolcoiihagfaaGreatDoor
open Go Go.RowKit
set_option linter.all false
set_option maxRecDepth 100000
set_option maxHeartbeats 100000000
namespace Nm
theorem blank_any (u:Nat) (w:World):Calls Tryz.prog 178 #[.int .i64 (u:Int)] w fun e w'=>e=.returned (.bool (blank u))∧w=w':=by
 have hq:blank u=((decide (9≤(u:Int)) && decide ((u:Int)≤13)) || ((u:Int) == 32 || ((u:Int) == 160 || (u:Int) == 65279))):=by
   rw [Bool.eq_iff_iff]
   simp only [blank,Bool.and_eq_true,Bool.or_eq_true,decide_eq_true_eq,beq_iff_eq]
   omega
 rw [hq]
 generalize (u:Int)=c
 clear hq
 rcases d1:decide (9≤c) with _ | _ <;> rcases d2:decide (c≤13) with _ | _ <;> rcases d3:(c == 32) with _ | _ <;> rcases d4:(c == 160) with _ | _ <;> rcases d5:(c == 65279) with _ | _
 all_goals
   go_enter Tryz.func178,Tryz.ntmps178
   go_wp2
   go_ret
   exact ⟨rfl,rfl⟩
/-- a unit of the text in its box -/
theorem unit_in (l:List UInt8) (q i:Nat) (w:World) (hq:w.heap[q]?=some (.cells #[.string ⟨l.toArray⟩] 9 (0,0))) (hs:l.length≤9223372036854775807) (h:i < l.length / 2) :
   Calls Tryz.prog 177 #[.int .i64 (i:Int),.pointer (some ⟨q,0,none⟩)] w fun e w'=>e=.returned (.int .i64 (at16 l i:Int))∧Pur w w':=by
 have c0:=bk_cell hq 0 _ rfl
 have A:=at_in l i w hs h
 clear hq
 go_enter Tryz.func177,Tryz.ntmps177
 go_wp2_with fail
 refine A.mono ?_
 rintro e w1 ⟨rfl,p1⟩
 go_wp2
 go_ret
 exact ⟨rfl,p1⟩
def PlainPost (w:World) (r:Option (List UInt8)) (e:Ending) (w':World):Prop:=match r with
 | some t=>e=.returned (.tuple #[.string ⟨t.toArray⟩,.bool true])∧Pur w w'
 | none=>e=.returned (.tuple #[.string ⟨#[]⟩,.bool false])∧Pur w w'
theorem plain_any (l:List UInt8) (w:World) (hs:l.length≤10000000):Calls Tryz.prog 151 #[.string ⟨l.toArray⟩] w fun e w'=>PlainPost w (plain l) e w':=by
 obtain ⟨i0,hi,hz0,hz1,hz2⟩:=info_parts infoU8
 obtain ⟨W1,hW1⟩:∃ W1,W1=w.alloc (.cells #[.string ⟨l.toArray⟩] 9):=⟨_,rfl⟩
 have p1:Pur w W1:=by rw [hW1];exact (Pur.refl _).alloc _
 have Q1:W1.heap[w.heap.size]?=some (.cells #[.string ⟨l.toArray⟩] 9 (0,0)):=by rw [hW1];exact bk_new _ _
 have LEN:=fun w=>length_any l w (by omega)
 have hn:∃ n,l.length / 2=n:=⟨_,rfl⟩
 have HP:=Lib.hid (show plain l=bytesGo l (toI l) (toI l - fromI l) (fromI l) from rfl)
 obtain ⟨F,hF⟩:∃ F,fromI l=F:=⟨_,rfl⟩
 obtain ⟨T,hT⟩:∃ T,toI l=T:=⟨_,rfl⟩
 have hFT:=toI_le l
 have HF:=Lib.hid (show F=fromGo l (l.length / 2) (l.length / 2) 0 from hF.symm)
 have HT:=Lib.hid (show T=toGo l F (l.length / 2) by rw [← hF,← hT];rfl)
 rw [hF,hT] at hFT HP
 have UN:=fun w' (h:Pur W1 w') (i:Nat) (hi:i < l.length / 2)=>unit_in l w.heap.size i w' (bk_pur Q1 h) (by omega) hi
 obtain ⟨n,hn⟩:=hn
 rw [hn] at LEN hFT HF HT UN
 clear hF hT
 have hn1:n≤5000000:=by omega
 have c0:=bk_cell Q1 0 _ rfl
 go_enter Tryz.func151,Tryz.ntmps151
 go_wp2_with fail
 rw [← hW1]
 have hQ:=Lib.hid Q1
 clear hW1 Q1
 generalize hq:w.heap.size=q at *
 refine (LEN _).mono ?_
 rintro e w2 ⟨rfl,rfl⟩
 clear LEN c0
 go_upto_block 0 with (fail)
 go_cut [4] from 11 to 21 (fun x wx=>x=.int .i64 (F:Int)∧Pur W1 wx)
 case first =>
   clear HT hFT
   go_wp2_with fail
   go_loopw [4] (fun x wr=>∃ i f:Nat,x=.int .i64 (i:Int)∧i≤n∧n≤i + f∧Pur W1 wr∧Hid (F=fromGo l n f i)) (fun x _=>n + 1 - (intOf x).toNat)
   case atStart=>exact ⟨0,n,rfl,by omega,by omega,Pur.refl _,HF⟩
   case round =>
     obtain ⟨i,f,rfl,i1,i2,hp,H⟩:=hrel
     by_cases hlt:i < n
     · have hlt':(i:Int) < n:=by omega
       obtain ⟨f,rfl⟩:∃ g,f=g + 1:=⟨f - 1,by omega⟩
       have HS:=Lib.hid (show F=if blank (at16 l i) then fromGo l n f (i + 1) else i by rw [H.out,fromGo,if_pos hlt])
       have U:=UN _ hp i hlt
       have wn:IntKind.i64.wrap ((i:Int) + 1)=(i:Int) + 1:=IntWalk.i64_in _ (by omega)
       have BL:=fun w=>blank_any (at16 l i) w
       clear H HF
       rcases hb:blank (at16 l i) with _ | _
       · rw [hb] at HS BL
         have HS2:=Lib.hid (show F=i from HS.out)
         clear HS hb
         go_wp2_with fail
         refine U.mono ?_
         rintro e w3 ⟨rfl,p3⟩
         go_wp2_with fail
         refine (BL _).mono ?_
         rintro e w4 ⟨rfl,rfl⟩
         have hp3:=hp.trans p3
         clear BL U UN
         go_wp2
         go_meet
         exact ⟨by rw [HS2.out],hp3⟩
       · rw [hb] at HS BL
         have HS2:=Lib.hid (show F=fromGo l n f (i + 1) from HS.out)
         clear HS hb
         go_wp2_with fail
         refine U.mono ?_
         rintro e w3 ⟨rfl,p3⟩
         go_wp2_with fail
         refine (BL _).mono ?_
         rintro e w4 ⟨rfl,rfl⟩
         go_wp2
         go_roundw
         case rel=>exact ⟨i + 1,f,by go_num,by omega,by omega,hp.trans p3,HS2⟩
         case measure=>simp [intOf];omega
     · have HS2:=Lib.hid (show F=i by
         rw [H.out]
         cases f with
         | zero=>rfl
         | succ f=>rw [fromGo,if_neg hlt])
       have hlt':¬ (i:Int) < n:=by omega
       clear H UN HF
       go_wp2
       go_meet
       exact ⟨by rw [HS2.out],hp⟩
 case rest =>
   obtain ⟨rfl,pc⟩:=hcut
   clear HF
   go_upto_block 2 with (fail)
   go_cut [5] from 22 to 33 (fun x wx=>x=.int .i64 (T:Int)∧Pur W1 wx)
   case first =>
     go_wp2_with fail
     go_loopw [5] (fun x wr=>∃ t:Nat,x=.int .i64 (t:Int)∧t≤n∧F≤t∧Pur W1 wr∧Hid (T=toGo l F t)) (fun x _=>(intOf x).toNat)
     case atStart=>exact ⟨n,rfl,by omega,by omega,pc,HT⟩
     case round =>
       obtain ⟨t,rfl,t1,t2,hp,H⟩:=hrel
       by_cases hlt:F < t
       · have hlt':(F:Int) < t:=by omega
         have HS:=Lib.hid (show T=if blank (at16 l (t - 1)) then toGo l F (t - 1) else t by
           rw [H.out]
           obtain ⟨t,rfl⟩:∃ g,t=g + 1:=⟨t - 1,by omega⟩
           rw [toGo,if_pos hlt]
           rfl)
         have U:=UN _ hp (t - 1) (by omega)
         rw [show ((t - 1:Nat):Int)=(t:Int) - 1 by omega] at U
         have wn:IntKind.i64.wrap ((t:Int) - 1)=(t:Int) - 1:=IntWalk.i64_in _ (by omega)
         have BL:=fun w=>blank_any (at16 l (t - 1)) w
         generalize at16 l (t - 1)=u at *
         clear H HT
         rcases hb:blank u with _ | _
         · rw [hb] at HS BL
           have HS2:=Lib.hid (show T=t from HS.out)
           clear HS hb
           go_wp2_with fail
           refine U.mono ?_
           rintro e w3 ⟨rfl,p3⟩
           go_wp2_with fail
           refine (BL _).mono ?_
           rintro e w4 ⟨rfl,rfl⟩
           have hp3:=hp.trans p3
           clear BL U UN
           go_wp2
           go_meet
           exact ⟨by rw [HS2.out],hp3⟩
         · rw [hb] at HS BL
           have HS2:=Lib.hid (show T=toGo l F (t - 1) from HS.out)
           clear HS hb
           go_wp2_with fail
           refine U.mono ?_
           rintro e w3 ⟨rfl,p3⟩
           go_wp2_with fail
           refine (BL _).mono ?_
           rintro e w4 ⟨rfl,rfl⟩
           go_wp2
           go_roundw
           case rel=>exact ⟨t - 1,by rw [show ((t - 1:Nat):Int)=(t:Int) - 1 by omega],by omega,by omega,hp.trans p3,HS2⟩
           case measure=>simp [intOf];omega
       · have HS2:=Lib.hid (show T=t by
           rw [H.out]
           cases t with
           | zero=>rfl
           | succ t=>rw [toGo,if_neg hlt])
         have hlt':¬ (F:Int) < t:=by omega
         clear H UN HT
         go_wp2
         go_meet
         exact ⟨by rw [HS2.out],hp⟩
   case rest =>
     obtain ⟨rfl,pc2⟩:=hcut
     clear HT pc
     have wd:IntKind.i64.wrap ((T:Int) - (F:Int))=(T:Int) - (F:Int):=IntWalk.i64_in _ (by omega)
     go_wp2_with (at_make;(refine wpList_make_own _ rfl _ _ 75 rfl wc.heap.size 5 i0 (.int .u8 0) 1 Tryz.underlying75 hi hz0 hz1 .i64 .i64 _ (T - F) rfl rfl (by omega) (by rw [hz2];omega) (by unfold maxLen;omega) (Nat.le_refl _) ?_);intro w0 hown0 hgrow0)
     clear wd
     have hp0:Pur wc w0:=(Below.refl _ wc).grown hgrow0 (Nat.le_refl _) (fun k hk=>by cases hk)
     have hpB:w.heap.size≤wc.heap.size:=by rw [hq];exact Nat.le_trans (Nat.le_of_lt (bk_lt hQ.out)) pc2.size
     have pw:Pur w wc:=p1.trans pc2
     clear hgrow0
     obtain ⟨B,hB⟩:∃ B,wc.heap.size=B:=⟨_,rfl⟩
     have hBle:=Nat.le_of_eq hB.symm
     have hBge:=Nat.le_of_eq hB
     rw [hB] at hown0 hpB ⊢
     clear hB
     go_loopw [4,7] (fun x o wr=>∃ (i f:Nat) (acc:List UInt8),x=.int .i64 (i:Int)∧i≤T∧F≤i∧T≤i + f∧acc.length≤i∧wr.ownsRow B 5 1 o acc.length (bv acc)∧Pur wc wr∧Hid (plain l=(bytesGo l T f i).map (acc ++ ·))) (fun x _ _=>T + 1 - (intOf x).toNat)
     case atStart=>exact ⟨F,T - F,[],rfl,by omega,by omega,by omega,by simp,hown0,hp0,Lib.hid (by rw [HP.out];cases bytesGo l T (T - F) F <;> rfl)⟩
     case round =>
       obtain ⟨i,f,acc,rfl,i1,i0',i2,hacc,hown,hp,H⟩:=hrel
       clear hown0 hp0 HP
       by_cases hlt:i < T
       · have hlt':(i:Int) < T:=by omega
         obtain ⟨f,rfl⟩:∃ g,f=g + 1:=⟨f - 1,by omega⟩
         have U:=UN _ (pc2.trans hp) i (by omega)
         have hu:=at16_lt l i
         by_cases hbig:127 < at16 l i
         · have HS:=Lib.hid (show plain l=none by rw [H.out,bytesGo,if_pos hlt,if_pos hbig];rfl)
           have hbig':(127:Int) < (at16 l i:Int):=by omega
           generalize at16 l i=u at *
           clear H UN hbig
           go_wp2_with fail
           refine U.mono ?_
           rintro e w3 ⟨rfl,p3⟩
           go_wp2
           go_ret2
           rw [HS.out]
           exact ⟨rfl,(pw.trans hp).trans p3⟩
         · have HS:=Lib.hid (show plain l=(bytesGo l T f (i + 1)).map ((acc ++ [UInt8.ofNat (at16 l i)]) ++ ·) by
             rw [H.out,bytesGo,if_pos hlt,if_neg hbig]
             cases bytesGo l T f (i + 1) <;> simp)
           have hbig':¬ (127:Int) < (at16 l i:Int):=by omega
           have U2:=fun w' h=>UN w' (pc2.trans h) i (by omega)
           have wn:IntKind.i64.wrap ((i:Int) + 1)=(i:Int) + 1:=IntWalk.i64_in _ (by omega)
           have hbv:bv [UInt8.ofNat (at16 l i)]=[.int .u8 (at16 l i:Int)]:=by
             simp only [bv,List.map_cons,List.map_nil,UInt8.toNat_ofNat']
             rw [show at16 l i % 2 ^ 8=at16 l i by omega]
           have hBV:=Lib.hid hbv
           generalize at16 l i=u at *
           clear H UN hbv
           go_wp2_with fail
           refine U.mono ?_
           rintro e w3 ⟨rfl,p3⟩
           go_wp2_with fail
           refine (U2 _ (hp.trans p3)).mono ?_
           rintro e w4 ⟨rfl,p4⟩
           have hp4:=(hp.trans p3).trans p4
           have hown4:=ownsRow_pur hown (p3.trans p4)
           have hB4:=Nat.le_trans hBle hp4.size
           clear U U2 hown
           go_wp2_with (at_builtin;(refine wpList_append_own _ rfl _ _ 75 rfl B 5 i0 (.int .u8 0) 1 1 Tryz.underlying75 hi hz0 hz1 hz2 rfl (by decide) _ _ _ rfl (ownsRow_pur hown4 ((Pur.refl _).alloc _)) ⟨w4.heap.size,0,none⟩ 1 1 [.int .u8 (u:Int)] rfl rfl (cell_one_new _ _ _) (by intro x hx;simp at hx;subst hx;rfl) (by unfold maxLen;omega) (by omega) (by simp;omega) ?_))
           intro v5 w5 hown5 hgrow5 _
           have hp5:Pur wc w5:=(hp4.alloc _).grown hgrow5 (by have:=hp4.size;simp;omega) (fun k hk=>Nat.le_trans hBge (hown4.lt k hk).1)
           rw [← hBV.out] at hown5
           clear hown4 hgrow5
           go_wp2
           go_roundw
           case rel=>exact ⟨i + 1,f,acc ++ [UInt8.ofNat u],by go_num,by omega,by omega,by omega,by simp;omega,by rw [List.length_append,bv_append];exact hown5,hp5,HS⟩
           case measure=>simp [intOf];omega
       · obtain rfl:i=T:=by omega
         have HS:=Lib.hid (show plain l=some acc by
           rw [H.out]
           cases f with
           | zero=>simp [bytesGo]
           | succ f=>rw [bytesGo,if_neg hlt];simp)
         have hstr:=run_str_of_own (P:=Tryz.prog) wr 75 9 5 B _ acc.length acc rfl Tryz.underlying75 Tryz.underlying5 Tryz.underlying9 hown
         clear hown H
         go_wp2
         go_ret2
         rw [HS.out]
         exact ⟨rfl,pw.trans hp⟩
end Nm
namespace Nm
theorem idx_has (c:UInt8):∀ s:List UInt8,decide (0≤Lib.indexByte s c)=s.contains c
 | []=>rfl
 | b :: r=>by
   have ih:=idx_has c r
   rw [Lib.indexByte]
   by_cases h:b=c
   · subst h;simp
   · have hb:(b == c)=false:=by simpa using h
     rw [hb]
     have hge:=Lib.indexByte_ge r c
     have hbc:(c == b)=false:=by rw [beq_eq_false_iff_ne];exact fun e=>h e.symm
     rw [List.contains_cons,hbc,Bool.false_or,← ih]
     simp only [Bool.false_eq_true,if_false]
     by_cases hm:Lib.indexByte r c=-1
     · rw [hm];rfl
     · have hm2:(Lib.indexByte r c == -1)=false:=by rw [beq_eq_false_iff_ne];exact hm
       rw [hm2]
       simp only [Bool.false_eq_true,if_false]
       rw [decide_eq_decide]
       omega
theorem run_any (s set:List UInt8) (w:World) (hs:s.length≤1000000000):Calls Tryz.prog 152 #[.string ⟨s.toArray⟩,.string ⟨set.toArray⟩] w fun e w'=>e=.returned (.int .i64 (runGo set s:Int))∧w=w':=by
 go_enter Tryz.func152,Tryz.ntmps152
 go_wp2
 go_loopw [5] (fun x wr=>∃ n:Nat,x=.int .i64 (n:Int)∧n≤s.length∧Hid (wr=w)∧Hid (runGo set s=n + runGo set (s.drop n))) (fun x _=>s.length + 1 - (intOf x).toNat)
 case atStart=>exact ⟨0,rfl,by omega,Lib.hid rfl,Lib.hid (by simp)⟩
 case round =>
   obtain ⟨n,rfl,hn,hw,H⟩:=hrel
   by_cases hlt:n < s.length
   · have hlt':(n:Int) < s.length:=by omega
     have wn:IntKind.i64.wrap ((n:Int) + 1)=(n:Int) + 1:=IntWalk.i64_in _ (by omega)
     have hb:=by8_lt s n
     have hd:s.drop n=UInt8.ofNat (by8 s n) :: s.drop (n + 1):=by
       rw [List.drop_eq_getElem_cons hlt]
       congr 1
       simp [by8,List.getD_eq_getElem?_getD,List.getElem?_eq_getElem hlt]
     have HS:=Lib.hid (show runGo set s=if set.contains (UInt8.ofNat (by8 s n)) then n + (runGo set (s.drop (n + 1)) + 1) else n by
       rw [H.out,hd,runGo];split <;> rfl)
     have IB:∀ w,Calls Tryz.prog 113 #[.string ⟨set.toArray⟩,.int .u8 (by8 s n:Int)] w fun e w'=>e=.returned (.int .i64 (Lib.indexByte set (UInt8.ofNat (by8 s n))))∧w=w':=fun w =>
       (Tryz.strings_IndexByte ⟨set.toArray⟩ (by8 s n:Int) w).mono (by rintro e w' ⟨rfl,rfl⟩;exact ⟨rfl,rfl⟩)
     have hge:=Lib.indexByte_ge set (UInt8.ofNat (by8 s n))
     have hh:=idx_has (UInt8.ofNat (by8 s n)) set
     clear H hd
     generalize Lib.indexByte set (UInt8.ofNat (by8 s n))=k at *
     rcases hc:set.contains (UInt8.ofNat (by8 s n)) with _ | _
     · rw [hc] at hh HS
       have HS2:=Lib.hid (show runGo set s=n from HS.out)
       clear HS hc
       go_wp2_with fail
       refine (IB _).mono ?_
       rintro e w1 ⟨rfl,rfl⟩
       go_wp2
       go_ret
       rw [HS2.out]
       exact ⟨rfl,hw.out.symm⟩
     · rw [hc] at hh HS
       have HS2:=Lib.hid (show runGo set s=(n + 1) + runGo set (s.drop (n + 1)) by have:=HS.out;simp only [if_true] at this;omega)
       clear HS hc
       go_wp2_with fail
       refine (IB _).mono ?_
       rintro e w1 ⟨rfl,rfl⟩
       go_wp2
       go_roundw
       case rel=>exact ⟨n + 1,by go_num,by omega,hw,HS2⟩
       case measure=>simp [intOf];omega
   · have hlt':¬ (n:Int) < s.length:=by omega
     have HS2:=Lib.hid (show runGo set s=n by rw [H.out,List.drop_of_length_le (by omega)];rfl)
     clear H
     go_wp2
     go_ret
     rw [HS2.out]
     exact ⟨rfl,hw.out.symm⟩
end Nm
namespace Nm
theorem drop_sub (s:List UInt8) {a b:Nat} (h:s.length≤b):sub s a b=s.drop a:=by unfold sub;rw [List.take_of_length_le (by rw [List.length_drop];omega)]
theorem pre_any (b t:List UInt8) (w:World):Calls Tryz.prog 108 #[.string ⟨b.toArray⟩,.string ⟨t.toArray⟩] w fun e w'=>e=.returned (.bool (t.isPrefixOf b))∧w=w':=by
 refine (Tryz.strings_HasPrefix ⟨b.toArray⟩ ⟨t.toArray⟩ w).mono ?_
 rintro e w' ⟨rfl,rfl⟩
 exact ⟨rfl,rfl⟩
theorem decimal_any (s:List UInt8) (w:World) (hs:s.length≤10000000):Calls Tryz.prog 153 #[.string ⟨s.toArray⟩] w fun e w'=>e=.returned (.bool (decimal s))∧w=w':=by
 obtain ⟨R,hR⟩:∃ R,decimal s=R:=⟨_,rfl⟩
 obtain ⟨A,hA⟩:∃ A,runGo digits s=A:=⟨_,rfl⟩
 have hAl:=runGo_le digits s
 have R1:=fun w=>run_any s digits w (by omega)
 have hAl3:A≤10000000:=by rw [← hA];exact Nat.le_trans hAl hs
 rw [hA] at R1 hAl
 have HM:=Lib.hid (show mantEnd s=(match s.drop A with | []=>(A,[]) | b :: r=>if b=46 then (A + runGo digits r,r.drop (runGo digits r)) else (A,b :: r)) by
   unfold mantEnd;rw [hA]
   rfl)
 have HR:=Lib.hid (show R=if (mantEnd s).1=0 then false else expEnd (mantEnd s).2 from hR.symm)
 rw [hR]
 have hAl':(A:Int)≤s.length:=by omega
 clear hA hR
 go_enter Tryz.func153,Tryz.ntmps153
 go_wp2_with fail
 refine (R1 _).mono ?_
 rintro e w1 ⟨rfl,rfl⟩
 clear R1
 go_upto_region 2 with (fail)
 go_cut [0] from 8 to 10 (fun t wx=>t=.string ⟨(s.drop A).toArray⟩∧w=wx)
 case first =>
   have:=drop_sub s (a:=A) (Nat.le_refl _)
   go_wp2
   go_meet
   exact ⟨by rw [← this],rfl⟩
 case rest =>
   obtain ⟨rfl,rfl⟩:=hcut
   have hl1:(s.drop A).length≤10000000:=by rw [List.length_drop];omega
   generalize s.drop A=s1 at *
   clear hAl hAl'
   go_upto_region 3 with (fail)
   go_step
   go_step
   go_step
   go_step
   go_step
   go_step
   go_step
   go_step
   go_cut [0,4] from 11 to 19 (fun t b wx=>∃ (B:Nat) (s2:List UInt8),t=.string ⟨s2.toArray⟩∧b=.int .i64 (B:Int)∧w=wx∧Hid (mantEnd s=(A + B,s2))∧s2.length≤10000000∧B≤10000000)
   case first =>
     have PR:=fun w=>pre_any s1 [46] w
     rcases hp:([46]:List UInt8).isPrefixOf s1 with _ | _
     · have HN:=Lib.hid (show mantEnd s=(A + 0,s1) by
         rw [HM.out]
         cases s1 with
         | nil=>rfl
         | cons b r =>
           have hb:¬ b=46:=by
             intro e
             subst e
             simp at hp
           simp only [if_neg hb,Nat.add_zero])
       rw [hp] at PR
       clear hp HM HR
       go_wp2_with fail
       refine (PR _).mono ?_
       rintro e w2 ⟨rfl,rfl⟩
       go_wp2
       go_meet
       exact ⟨0,s1,rfl,rfl,rfl,HN,hl1,by omega⟩
     · have hs1:∃ r,s1=46 :: r:=by
         cases s1 with
         | nil=>simp at hp
         | cons b r =>
           have hb:b=46:=by
             have h2:=hp
             simp only [List.isPrefixOf,Bool.and_true,beq_iff_eq] at h2
             exact h2.symm
           exact ⟨r,by rw [hb]⟩
       obtain ⟨r,hr⟩:=hs1
       obtain ⟨B,hB⟩:∃ B,runGo digits r=B:=⟨_,rfl⟩
       have hBl:=runGo_le digits r
       rw [hB] at hBl
       have hlen:s1.length=r.length + 1:=by rw [hr];rfl
       have HN:=Lib.hid (show mantEnd s=(A + B,r.drop B) by rw [HM.out,hr];simp only [if_true,hB])
       have e1:sub s1 1 s1.length=r:=by rw [drop_sub s1 (Nat.le_refl _),hr];rfl
       have e2:sub s1 (1 + B) s1.length=r.drop B:=by rw [drop_sub s1 (Nat.le_refl _),hr,Nat.add_comm];rfl
       have RU:=fun w=>run_any r digits w (by omega)
       rw [hB] at RU
       have l1:(1:Int)≤s1.length:=by omega
       have l2:(1:Int) + (B:Int)≤s1.length:=by omega
       have l0:(0:Int)≤1 + (B:Int):=by omega
       have n1:((1:Int) + (B:Int)).toNat=1 + B:=by omega
       have w1':IntKind.i64.wrap (1 + (B:Int))=1 + (B:Int):=IntWalk.i64_in _ (by omega)
       have hs2:(r.drop B).length≤10000000:=by rw [List.length_drop];omega
       rw [hp] at PR
       generalize r.drop B=s2 at *
       clear hp HM HR hr hB hlen
       go_wp2_with fail
       refine (PR _).mono ?_
       rintro e w2 ⟨rfl,rfl⟩
       go_wp2_with fail
       refine (RU _).mono ?_
       rintro e w2 ⟨rfl,rfl⟩
       go_wp2
       go_meet
       exact ⟨B,s2,rfl,rfl,rfl,HN,hs2,by omega⟩
   case rest =>
     obtain ⟨B,s2,rfl,rfl,rfl,HN,hl2,hB⟩:=hcut
     have HR2:=Lib.hid (show R=if A + B=0 then false else expEnd s2 by rw [HR.out,HN.out])
     clear HM HR HN hl1
     have hAB:IntKind.i64.wrap ((A:Int) + (B:Int))=(A:Int) + (B:Int):=IntWalk.i64_in _ (by omega)
     by_cases hz:A + B=0
     · have d1:((A:Int) + (B:Int) == 0)=true:=by rw [beq_iff_eq];omega
       have H:=Lib.hid (show R=false by rw [HR2.out,if_pos hz])
       clear HR2 hz
       go_wp2
       go_ret
       rw [H.out]
       exact ⟨rfl,rfl⟩
     · have d1:((A:Int) + (B:Int) == 0)=false:=by rw [beq_eq_false_iff_ne];omega
       have H:=Lib.hid (show R=expEnd s2 by rw [HR2.out,if_neg hz])
       clear HR2 hz
       rcases hE:s2.isEmpty with _ | _
       · obtain ⟨b,r,hbr⟩:∃ b r,s2=b :: r:=by cases s2 with | nil=>cases hE | cons b r=>exact ⟨b,r,rfl⟩
         have hne:¬ s2=[]:=by rw [hbr];simp
         have l0:(0:Int) < s2.length:=by rw [hbr];simp only [List.length_cons];omega
         have l1:(1:Int)≤s2.length:=by omega
         have hb0:by8 s2 0=b.toNat:=by rw [hbr];rfl
         have hbl:=by8_lt s2 0
         have e1:sub s2 1 s2.length=r:=by rw [drop_sub s2 (Nat.le_refl _),hbr];rfl
         have hrl : r.length ≤ 10000000 := by have : s2.length = r.length + 1 := by (rw [hbr]; rfl)
                                              omega
         by_cases hx:by8 s2 0=101∨by8 s2 0=69
         · have hd:((((by8 s2 0:Nat):Int) == 101)=true)∨((((by8 s2 0:Nat):Int) == 101)=false∧(((by8 s2 0:Nat):Int) == 69)=true):=by
             rcases hx with h | h
             · left;rw [h];rfl
             · right;rw [h];exact ⟨rfl,rfl⟩
           have hbx:b=101∨b=69:=by
             rcases hx with h | h
             · left;exact UInt8.toNat_inj.1 (by rw [← hb0,h];rfl)
             · right;exact UInt8.toNat_inj.1 (by rw [← hb0,h];rfl)
           have H2:=Lib.hid (show R=decide (0 < runGo digits (unsign r)∧runGo digits (unsign r)=(unsign r).length) by rw [H.out,hbr,expEnd,if_pos hbx])
           clear H hbr hb0 hx hbx
           obtain ⟨u,hu⟩:∃ u,unsign r=u:=⟨_,rfl⟩
           rw [hu] at H2
           obtain ⟨n,hn⟩:∃ n,runGo digits u=n:=⟨_,rfl⟩
           have hnl:=runGo_le digits u
           have hul:u.length≤r.length:=by rw [← hu];unfold unsign;cases r with | nil=>simp | cons x y=>(simp only;split <;> simp)
           have RU:=fun w=>run_any u digits w (by omega)
           rw [hn] at H2 hnl RU
           clear hn
           -- behind the sign
           have e2:∀ x y,r=x :: y→sub r 1 r.length=y:=fun x y h=>by rw [drop_sub r (Nat.le_refl _),h];rfl
           have HU:Hid (r.isEmpty=true∧u=r∨∃ x y,r=x :: y∧((by8 r 0=43∨by8 r 0=45)∧u=y∨¬ (by8 r 0=43∨by8 r 0=45)∧u=r)):=Lib.hid (by
             rw [← hu]
             cases r with
             | nil=>exact .inl ⟨rfl,rfl⟩
             | cons x y =>
               refine .inr ⟨x,y,rfl,?_⟩
               have hx0:by8 (x :: y) 0=x.toNat:=rfl
               rw [hx0]
               unfold unsign
               by_cases g:x=43∨x=45
               · refine .inl ⟨?_,by simp only [if_pos g]⟩
                 rcases g with rfl | rfl
                 · exact .inl rfl
                 · exact .inr rfl
               · refine .inr ⟨fun h=>g ?_,by simp only [if_neg g]⟩
                 rcases h with h | h
                 · left;exact UInt8.toNat_inj.1 (by rw [h];rfl)
                 · right;exact UInt8.toNat_inj.1 (by rw [h];rfl))
           have hE2:=Lib.hid e2
           have hnl':(n:Int)≤u.length:=by omega
           clear hu e2
           have fin:Hid (R=(decide ((0:Int) < (n:Int)) && ((n:Int) == (u.length:Int)))):=Lib.hid (by
             rw [H2.out,Bool.eq_iff_iff,Bool.and_eq_true,decide_eq_true_eq,decide_eq_true_eq,beq_iff_eq]
             omega)
           clear H2
           have hnn:n=0∨(¬ n=0∧decide ((0:Int) < (n:Int))=true):=by
             by_cases n0:n=0
             · exact .inl n0
             · exact .inr ⟨n0,by rw [decide_eq_true_eq];omega⟩
           rcases HU.out with ⟨g1,rfl⟩ | ⟨x,y,hxy,⟨g2,rfl⟩ | ⟨g2,rfl⟩⟩
           · clear HU
             rcases hd with d2 | ⟨d2,d3⟩
             all_goals
               rcases hnn with rfl | ⟨n0,n1⟩
               · have F:=Lib.hid (show R=false by rw [fin.out];rfl)
                 clear fin
                 go_wp2_with fail
                 refine (RU _).mono ?_
                 rintro e w2 ⟨rfl,rfl⟩
                 go_wp2
                 go_ret
                 rw [F.out]
                 exact ⟨rfl,rfl⟩
               · rcases f2:((n:Int) == (u.length:Int)) with _ | _
                 all_goals
                   have F:=Lib.hid (show R=_ by rw [fin.out,f2,n1])
                   clear fin
                   go_wp2_with fail
                   refine (RU _).mono ?_
                   rintro e w2 ⟨rfl,rfl⟩
                   go_wp2
                   go_ret
                   rw [F.out]
                   exact ⟨rfl,rfl⟩
           · have e2:=hE2.out _ _ hxy
             have hrn:¬ r=[]:=by rw [hxy];simp
             have hre:r.isEmpty=false:=by rw [hxy];rfl
             have r0:(0:Int) < r.length:=by rw [hxy];simp only [List.length_cons];omega
             have r1:(1:Int)≤r.length:=by omega
             have hg:((((by8 r 0:Nat):Int) == 43)=true)∨((((by8 r 0:Nat):Int) == 43)=false∧(((by8 r 0:Nat):Int) == 45)=true):=by
               rcases g2 with h | h
               · left;rw [h];rfl
               · right;rw [h];exact ⟨rfl,rfl⟩
             clear HU hxy g2 hE2
             rcases hd with d2 | ⟨d2,d3⟩
             all_goals
               rcases hg with d4 | ⟨d4,d5⟩
               all_goals
                 rcases hnn with rfl | ⟨n0,n1⟩
                 · have F:=Lib.hid (show R=false by rw [fin.out];rfl)
                   clear fin
                   go_wp2_with fail
                   refine (RU _).mono ?_
                   rintro e w2 ⟨rfl,rfl⟩
                   go_wp2
                   go_ret
                   rw [F.out]
                   exact ⟨rfl,rfl⟩
                 · rcases f2:((n:Int) == (u.length:Int)) with _ | _
                   all_goals
                     have F:=Lib.hid (show R=_ by rw [fin.out,f2,n1])
                     clear fin
                     go_wp2_with fail
                     refine (RU _).mono ?_
                     rintro e w2 ⟨rfl,rfl⟩
                     go_wp2
                     go_ret
                     rw [F.out]
                     exact ⟨rfl,rfl⟩
           · have hrn:¬ u=[]:=by rw [hxy];simp
             have hre:u.isEmpty=false:=by rw [hxy];rfl
             have r0:(0:Int) < u.length:=by rw [hxy];simp only [List.length_cons];omega
             have d4:(((by8 u 0:Nat):Int) == 43)=false:=by rw [beq_eq_false_iff_ne];omega
             have d5:(((by8 u 0:Nat):Int) == 45)=false:=by rw [beq_eq_false_iff_ne];omega
             clear HU hxy g2 hE2
             rcases hd with d2 | ⟨d2,d3⟩
             all_goals
               rcases hnn with rfl | ⟨n0,n1⟩
               · have F:=Lib.hid (show R=false by rw [fin.out];rfl)
                 clear fin
                 go_wp2_with fail
                 refine (RU _).mono ?_
                 rintro e w2 ⟨rfl,rfl⟩
                 go_wp2
                 go_ret
                 rw [F.out]
                 exact ⟨rfl,rfl⟩
               · rcases f2:((n:Int) == (u.length:Int)) with _ | _
                 all_goals
                   have F:=Lib.hid (show R=_ by rw [fin.out,f2,n1])
                   clear fin
                   go_wp2_with fail
                   refine (RU _).mono ?_
                   rintro e w2 ⟨rfl,rfl⟩
                   go_wp2
                   go_ret
                   rw [F.out]
                   exact ⟨rfl,rfl⟩
         · have H2:=Lib.hid (show R=false by
             rw [H.out,hbr,expEnd,if_neg]
             intro h
             apply hx
             rw [hb0]
             rcases h with rfl | rfl
             · exact .inl rfl
             · exact .inr rfl)
           have d2:(((by8 s2 0:Nat):Int) == 101)=false:=by rw [beq_eq_false_iff_ne];omega
           have d3:(((by8 s2 0:Nat):Int) == 69)=false:=by rw [beq_eq_false_iff_ne];omega
           clear H hbr hb0 hx e1 hrl
           go_wp2
           go_ret
           rw [H2.out]
           exact ⟨rfl,rfl⟩
       · have H2:=Lib.hid (show R=true by
           rw [H.out]
           cases s2 with
           | nil=>rfl
           | cons b r=>cases hE)
         clear H
         go_wp2
         go_ret
         rw [H2.out]
         exact ⟨rfl,rfl⟩
end Nm
end Go.Proofs.YtgdolcoiihagfaaGreatDoor
