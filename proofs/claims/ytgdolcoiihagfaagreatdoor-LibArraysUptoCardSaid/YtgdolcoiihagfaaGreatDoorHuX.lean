/- Those of the layer utf's contracts that this seat's dump has. The texts of layer 1 (see Hu). -/
import Derived.Test.YtgdolcoiihagfaaGreatDoorChecked
import Derived.Test.YtgdolcoiihagfaaGreatDoorUtfPure
import Derived.Test.YtgdolcoiihagfaaGreatDoorUtX
import Derived.Test.YtgdolcoiihagfaaGreatDoorShelf
namespace Go.Proofs.YtgdolcoiihagfaaGreatDoor
open Go Go.RowKit
set_option linter.all false
set_option maxRecDepth 100000
set_option maxHeartbeats 100000000
theorem length_any (l:List UInt8) (w:World) (hs:l.length≤9223372036854775807) :
   Calls Tryz.prog 59 #[.string ⟨l.toArray⟩] w fun e w'=>e=.returned (.int .i64 (l.length / 2:Nat))∧w=w':=by
 go_enter Tryz.func59,Tryz.ntmps59
 go_wp2
 go_ret
 exact ⟨rfl,rfl⟩
theorem at_in (l:List UInt8) (i:Nat) (w:World) (hs:l.length≤9223372036854775807) (h:i < l.length / 2) :
   Calls Tryz.prog 61 #[.string ⟨l.toArray⟩,.int .i64 i] w fun e w'=>e=.returned (.tuple #[.int .i64 (at16 l i),.bool true])∧Pur w w':=by
 have b2:2 * (i:Int) + 1 < l.length:=by omega
 have n0:(i:Int) < (l.length:Int) / 2:=by omega
 have hw:IntKind.i64.wrap (2 * (i:Int))=2 * (i:Int):=IntWalk.i64_in _ (by omega)
 have hw1:IntKind.i64.wrap (2 * (i:Int) + 1)=2 * (i:Int) + 1:=IntWalk.i64_in _ (by omega)
 have l1:=by8_lt l (2*i)
 have l2:=by8_lt l (2*i+1)
 have H:=Lib.hid (or_join 8 (by8 l (2*i) * 256) (by8 l (2*i+1)) (by omega) (by omega) (by omega) (by omega))
 go_enter Tryz.func61,Tryz.ntmps61
 go_wp2
 go_quiet (fail)
 go_wp2
 go_ret2
 refine ⟨?_,(Pur.refl w).drewN nq⟩
 show Ending.returned (Value.tuple #[.int .i64 (bits BinOp.or IntKind.i64 (((by8 l (2*i):Nat):Int) * 256) ((by8 l (2*i+1):Nat):Int)),.bool true])=_
 have h':=H.out
 rw [Int.natCast_mul] at h'
 rw [show ((256:Nat):Int)=256 from rfl] at h'
 rw [h']
 rfl
theorem at_out (l:List UInt8) (i:Int) (w:World) (hs:l.length≤9223372036854775807) (h:i < 0∨(l.length / 2:Nat)≤i) :
   Calls Tryz.prog 61 #[.string ⟨l.toArray⟩,.int .i64 i] w fun e w'=>e=.returned (.tuple #[.int .i64 0,.bool false])∧Pur w w':=by
 by_cases h0:i < 0
 · go_enter Tryz.func61,Tryz.ntmps61
   go_wp2
   go_ret2
   exact ⟨rfl,Pur.refl w⟩
 · have h1:(l.length / 2:Nat)≤i:=by omega
   clear h
   go_enter Tryz.func61,Tryz.ntmps61
   go_wp2
   go_ret2
   exact ⟨rfl,Pur.refl w⟩
theorem cut_any (l:List UInt8) (i j:Int) (w:World) (hs:l.length≤9223372036854775807) :
   Calls Tryz.prog 63 #[.string ⟨l.toArray⟩,.int .i64 i,.int .i64 j] w fun e w'=>e=.returned (.string ⟨(cutU l i j).toArray⟩)∧Pur w w':=by
 by_cases h:min (max i 0) ((l.length:Int) / 2) < min (max j 0) ((l.length:Int) / 2)
 · have hw:IntKind.i64.wrap (2 * min (max i 0) ((l.length:Int) / 2))=2 * min (max i 0) ((l.length:Int) / 2):=IntWalk.i64_in _ (by omega)
   have hw':IntKind.i64.wrap (2 * min (max j 0) ((l.length:Int) / 2))=2 * min (max j 0) ((l.length:Int) / 2):=IntWalk.i64_in _ (by omega)
   go_enter Tryz.func63,Tryz.ntmps63
   go_wp2_with (go_at_call 59;refine (length_any _ _ hs).mono ?_;rintro e w' ⟨rfl,rfl⟩)
   go_ret
   refine ⟨?_,Pur.refl w⟩
   show Ending.returned (Value.string ⟨(sub l (2 * min (max i 0) ((l.length:Int) / 2)).toNat (2 * min (max j 0) ((l.length:Int) / 2)).toNat).toArray⟩)=_
   rw [cutU,show (2 * min (max i 0) ((l.length:Int) / 2)).toNat=2 * clamp i (l.length / 2) by unfold clamp;omega,show (2 * min (max j 0) ((l.length:Int) / 2)).toNat=2 * clamp j (l.length / 2) by unfold clamp;omega]
 · have h':min (max j 0) ((l.length:Int) / 2)≤min (max i 0) ((l.length:Int) / 2):=by omega
   go_enter Tryz.func63,Tryz.ntmps63
   go_wp2_with (go_at_call 59;refine (length_any _ _ hs).mono ?_;rintro e w' ⟨rfl,rfl⟩)
   go_ret
   refine ⟨?_,Pur.refl w⟩
   show Ending.returned (Value.string ⟨([]:List UInt8).toArray⟩)=_
   rw [cutU,sub_nil l (by unfold clamp;omega)]
theorem runit_any (u:Int) (w:World) (h0:0≤u) (hu:u < 65536) :
   Calls Tryz.prog 37 #[.int .i64 u] w fun e w'=>e=.returned (.string ⟨(unit8 u.toNat).toArray⟩)∧Pur w w':=by
 obtain ⟨u,rfl⟩:=Int.eq_ofNat_of_zero_le h0
 rw [Int.toNat_natCast]
 go_enter Tryz.func37,Tryz.ntmps37
 go_wp2
 go_ret
 refine ⟨?_,(Pur.refl w).alloc _⟩
 show Ending.returned (Value.string ⟨[B8 ((u:Int) / 256),B8 ((u:Int) % 256)].toArray⟩)=_
 rfl
def lowOf (g:Bool):Int:=if g then 97 else 65
theorem lowOf_bd (g:Bool):65≤lowOf g∧lowOf g≤97:=by cases g <;> decide
theorem caseU_in (g:Bool) (u:Nat) (h:lowOf g≤u∧(u:Int)≤lowOf g + 25):caseU g u=u ^^^ 32:=by
 cases g
 · simp only [lowOf] at h
   rw [xor32_down u (by simp at h;omega) (by simp at h;omega)]
   simp only [caseU];rw [if_neg (by decide),if_pos (by simp at h;omega)]
 · simp only [lowOf] at h
   rw [xor32_up u (by simp at h;omega) (by simp at h;omega)]
   simp only [caseU];rw [if_pos trivial,if_pos (by simp at h;omega)]
theorem caseU_out (g:Bool) (u:Nat) (h:¬ (lowOf g≤u∧(u:Int)≤lowOf g + 25)):caseU g u=u:=by
 cases g
 · simp only [lowOf] at h
   simp only [caseU];rw [if_neg (by decide),if_neg (by simp at h;omega)]
 · simp only [lowOf] at h
   simp only [caseU];rw [if_pos trivial,if_neg (by simp at h;omega)]
theorem xor32_lt (b:Nat) (h:b < 256):b ^^^ 32 < 256:=Nat.xor_lt_two_pow (n:=8) h (by decide)
theorem turned_any (g:Bool) (l:List UInt8) (w:World) (hs:l.length≤140737488351232) :
   Calls Tryz.prog 109 #[.string ⟨l.toArray⟩,.int .u8 (lowOf g),.int .u8 (lowOf g + 25)] w fun e w'=>e=.returned (.string ⟨(caseL g l (l.length / 2)).toArray⟩)∧Pur w w':=by
 have w1:IntKind.i64.wrap (2 * ((l.length:Int) / 2))=2 * ((l.length:Int) / 2):=IntWalk.i64_in _ (by omega)
 have hbd:=lowOf_bd g
 have hmin:min (2 * (l.length / 2)) l.length=2 * (l.length / 2):=by omega
 go_enter Tryz.func109,Tryz.ntmps109
 go_wp2_with (first | (go_at_call 59;refine (length_any _ _ (by omega)).mono ?_;rintro e w' ⟨rfl,rfl⟩) | (refine wpList_bytes rfl _ 9 75 5 rfl _ rfl Tryz.underlying9 Tryz.underlying75 Tryz.underlying5 ?_;intro cap w1 hp hrow hcap))
 clear hmin
 go_loopw [8] (fun i wr=>∃ k:Nat,k≤l.length / 2∧i=.int .i64 (2 * k + 1)∧Pur w wr∧BRow wr w.heap.size 5 (caseRow g l k)) (fun i _=>2 * (l.length / 2) + 1 - (intOf i).toNat)
 case atStart=>exact ⟨0,by omega,rfl,hp,hrow⟩
 case round =>
   obtain ⟨k,hk,rfl,hpr,hr⟩:=hrel
   have hlen:=caseRow_length g l k hk
   by_cases hlt:k < l.length / 2
   · have c0:wr.cell? ⟨w.heap.size,2 * k,none⟩=some (.int .u8 (by8 l (2 * k))):=by rw [hr.cell _ (by omega),caseRow_at g l k hlt _ (by omega) (by omega)]
     have c1:wr.cell? ⟨w.heap.size,2 * k + 1,none⟩=some (.int .u8 (by8 l (2 * k + 1))):=by rw [hr.cell _ (by omega),caseRow_at g l k hlt _ (by omega) (by omega)]
     have f1:wr.frozen? ⟨w.heap.size,2 * k + 1,none⟩=false:=hr.free _ (by omega)
     have l0:=by8_lt l (2 * k)
     have l1:=by8_lt l (2 * k + 1)
     clear hlen
     by_cases h0:by8 l (2 * k)=0
     · by_cases h1:lowOf g≤(by8 l (2 * k + 1):Int)∧(by8 l (2 * k + 1):Int)≤lowOf g + 25
       · obtain ⟨h2,h3⟩:=h1
         have b0:((by8 l (2 * k):Int) == 0)=true:=by simp [h0]
         have HT:=Lib.hid (show caseU g (at16 l k)=by8 l (2 * k) * 256 + (by8 l (2 * k + 1) ^^^ 32) by
           rw [caseU_in g _ (by rw [at16,h0,Nat.zero_mul,Nat.zero_add];exact ⟨h2,h3⟩),at16,h0,Nat.zero_mul,Nat.zero_add,Nat.zero_add])
         clear h0
         go_wp2
         go_roundw
         case rel =>
           refine ⟨k + 1,by omega,by go_num,hpr.setCell (Nat.le_refl _) _,?_⟩
           have hx:bits .xor .u8 ((by8 l (2 * k + 1):Nat):Int) 32=(((UInt8.ofNat (by8 l (2 * k + 1) ^^^ 32)).toNat:Nat):Int):=by
             rw [show (32:Int)=((32:Nat):Int) from rfl,u8_xor_nat _ _ l1 (by decide),UInt8.toNat_ofNat',Nat.mod_eq_of_lt (xor32_lt _ l1)]
           rw [hx,caseRow_turn g l k hlt (by8 l (2 * k + 1) ^^^ 32) (xor32_lt _ l1) (HT.out)]
           exact hr.store _ (by rw [caseRow_length g l k hk];omega) _
         case measure=>simp [intOf];omega
       · have hst:caseRow g l (k + 1)=caseRow g l k:=caseRow_stay g l k hlt (caseU_out g _ (by rw [at16,h0,Nat.zero_mul,Nat.zero_add];exact h1))
         have HT:=Lib.hid hst
         clear hst
         have b0:((by8 l (2 * k):Int) == 0)=true:=by simp [h0]
         clear h0
         by_cases h2:lowOf g≤(by8 l (2 * k + 1):Int)
         · have h3:lowOf g + 25 < (by8 l (2 * k + 1):Int):=by omega
           clear h1
           go_wp2
           go_roundw
           case rel=>exact ⟨k + 1,by omega,by go_num,hpr,by rw [HT.out];exact hr⟩
           case measure=>simp [intOf];omega
         · have h3:(by8 l (2 * k + 1):Int) < lowOf g:=by omega
           clear h1 h2
           go_wp2
           go_roundw
           case rel=>exact ⟨k + 1,by omega,by go_num,hpr,by rw [HT.out];exact hr⟩
           case measure=>simp [intOf];omega
     · have HT:=Lib.hid (caseRow_stay g l k hlt (caseU_out g _ (by rw [at16];omega)))
       have b0:((by8 l (2 * k):Int) == 0)=false:=by simp [h0]
       clear h0
       go_wp2
       go_roundw
       case rel=>exact ⟨k + 1,by omega,by go_num,hpr,by rw [HT.out];exact hr⟩
       case measure=>simp [intOf];omega
   · obtain rfl:k=l.length / 2:=by omega
     have hstr:=run_str_of_row (P:=Tryz.prog) wr 75 9 5 w.heap.size cap (2 * (l.length / 2)) (caseRow g l (l.length / 2)) hlen Tryz.underlying75 Tryz.underlying5 Tryz.underlying9 hr
     clear hlen
     go_wp2
     go_ret
     refine ⟨?_,hpr⟩
     have:caseRow g l (l.length / 2)=caseL g l (l.length / 2):=by rw [caseRow,sub_nil l (Nat.le_refl _),List.append_nil]
     rw [← this]
     rfl
theorem lower_any (l:List UInt8) (w:World) (hs:l.length≤140737488351232) :
   Calls Tryz.prog 69 #[.string ⟨l.toArray⟩] w fun e w'=>e=.returned (.string ⟨(caseL false l (l.length / 2)).toArray⟩)∧Pur w w':=by
 go_enter Tryz.func69,Tryz.ntmps69
 go_wp2_with (go_at_call 109;refine (turned_any false _ _ hs).mono ?_;rintro e w' ⟨rfl,hp⟩)
 go_ret
 exact ⟨rfl,hp⟩
theorem isPrefixOf_sub (l p:List UInt8) (i n:Nat) (hp:p.length=n) (h:i + n≤l.length):p.isPrefixOf (sub l i l.length)=(sub l i (i + n) == p):=by
 rw [Bool.eq_iff_iff,List.isPrefixOf_iff_prefix,beq_iff_eq,List.prefix_iff_eq_take,hp]
 have:(sub l i l.length).take n=sub l i (i + n):=by
   unfold sub
   rw [List.take_take]
   congr 1
   omega
 rw [this]
 exact ⟨fun h=>h.symm,fun h=>h.symm⟩
theorem sub_sub (l:List UInt8) (n i j:Nat) (hj:j≤n):sub (sub l 0 n) i j=sub l i j:=by
 unfold sub
 rw [List.drop_zero,Nat.sub_zero,List.drop_take,List.take_take]
 congr 1
 omega
theorem find_any (l p:List UInt8) (i:Int) (w:World) (hs:l.length≤4611686018427387903) (hp:p.length≤4611686018427387903) :
   Calls Tryz.prog 66 #[.string ⟨l.toArray⟩,.string ⟨p.toArray⟩,.int .i64 i] w fun e w'=>e=.returned (.int .i64 (findU l (sub p 0 (2 * (p.length / 2))) (p.length / 2) (max i 0).toNat))∧Pur w w':=by
 have w1:IntKind.i64.wrap (2 * ((l.length:Int) / 2))=2 * ((l.length:Int) / 2):=IntWalk.i64_in _ (by omega)
 have w2:IntKind.i64.wrap (2 * ((p.length:Int) / 2))=2 * ((p.length:Int) / 2):=IntWalk.i64_in _ (by omega)
 have b1:0≤2 * ((l.length:Int) / 2):=by omega
 have b2:2 * ((l.length:Int) / 2)≤l.length:=by omega
 have b3:0≤2 * ((p.length:Int) / 2):=by omega
 have b4:2 * ((p.length:Int) / 2)≤p.length:=by omega
 have n1:(2 * ((l.length:Int) / 2)).toNat=2 * (l.length / 2):=by omega
 have n2:(2 * ((p.length:Int) / 2)).toNat=2 * (p.length / 2):=by omega
 go_enter Tryz.func66,Tryz.ntmps66
 go_wp2
 refine wp_region_pur (by kernel_rfl) (by kernel_rfl) ?_
 repeat (quiet_step ((go_at_call 59;exact quiet_eq (length_any _ _ (by omega)))))
 refine wpQuiet_nil ?_
 intro wq hq
 obtain ⟨L,hL⟩:∃ L,L=sub l 0 (2 * (l.length / 2)):=⟨_,rfl⟩
 obtain ⟨q,hQ⟩:∃ q,q=sub p 0 (2 * (p.length / 2)):=⟨_,rfl⟩
 rw [← hL,← hQ]
 have lL:L.length=2 * (l.length / 2):=by rw [hL,length_sub];omega
 have lq:q.length=2 * (p.length / 2):=by rw [hQ,length_sub];omega
 have hsub:∀ i n,i + n≤2 * (l.length / 2)→sub L i (i + n)=sub l i (i + n):=fun i n h=>by rw [hL,sub_sub l _ i _ h]
 have HS:=Lib.hid hsub
 have HQ:=Lib.hid hQ
 have HL:=Lib.hid lL
 have Hq:=Lib.hid lq
 have bL:L.length≤4611686018427387903:=by omega
 have bq:q.length≤4611686018427387903:=by omega
 clear hL hQ w1 w2 b1 b2 b3 b4 n1 n2 hsub lL lq
 go_wp2
 go_loopw [7] (fun k wr=>∃ n:Nat,(n≤(max i 0).toNat∨n≤4611686018427387904)∧k=.int .i64 n∧Pur w wr∧Hid (findU l q (p.length / 2) (max i 0).toNat=findU l q (p.length / 2) n)) (fun k _=>l.length / 2 + 1 - (intOf k).toNat)
 case atStart=>exact ⟨(max i 0).toNat,by omega,by rw [Int.toNat_of_nonneg (by omega)],hq,Lib.hid rfl⟩
 case round =>
   obtain ⟨n,hn,rfl,hP,H⟩:=hrel
   by_cases hlt:(n:Int)≤(L.length:Int) / 2 - (q.length:Int) / 2
   · have hle:n + p.length / 2≤l.length / 2:=by have:=HL.out;have:=Hq.out;omega
     have hpre:q.isPrefixOf (sub L (2 * n) L.length)=(sub l (2 * n) (2 * (n + p.length / 2)) == q):=by
       rw [isPrefixOf_sub L q (2 * n) (2 * (p.length / 2)) Hq.out (by rw [HL.out];omega),HS.out _ _ (by omega),Nat.mul_add]
     by_cases heq:sub l (2 * n) (2 * (n + p.length / 2))=q
     · have hb:Lib.hasPrefix (sub L (2 * n) L.length) q=true:=by rw [Lib.hasPrefix,hpre];simp [heq]
       clear hpre
       have HE:=Lib.hid heq
       clear heq
       go_wp2_with (first | (go_at_call 59;refine (length_any _ _ (by omega)).mono ?_;rintro e w' ⟨rfl,rfl⟩) | (go_at_call 108;refine (Tryz.strings_HasPrefix _ _ _).mono ?_;rintro e w' ⟨rfl,rfl⟩))
       go_ret
       refine ⟨?_,hP⟩
       rw [← HQ.out,H.out,findU,dif_pos hle,if_pos HE.out]
       rfl
     · have hb:Lib.hasPrefix (sub L (2 * n) L.length) q=false:=by rw [Lib.hasPrefix,hpre];simp [heq]
       clear hpre
       have HE:=Lib.hid heq
       clear heq
       go_wp2_with (first | (go_at_call 59;refine (length_any _ _ (by omega)).mono ?_;rintro e w' ⟨rfl,rfl⟩) | (go_at_call 108;refine (Tryz.strings_HasPrefix _ _ _).mono ?_;rintro e w' ⟨rfl,rfl⟩))
       go_roundw
       case rel=>exact ⟨n + 1,by omega,by go_num,hP,Lib.hid (by rw [H.out,findU,dif_pos hle,if_neg HE.out])⟩
       case measure=>simp [intOf];have:=HL.out;have:=Hq.out;omega
   · go_wp2_with (first | (go_at_call 59;refine (length_any _ _ (by omega)).mono ?_;rintro e w' ⟨rfl,rfl⟩))
     go_ret
     refine ⟨?_,hP⟩
     rw [← HQ.out,H.out,findU,dif_neg (by have:=HL.out;have:=Hq.out;omega)]
     rfl
theorem chrN_bd (l:List UInt8) (i n c low:Nat):(chrN l i n c low).1≤1114111∧(chrN l i n c low).2≤n:=by
 unfold chrN
 split
 · rename_i h;exact ⟨h.2.2.2.1,Nat.le_refl _⟩
 · exact ⟨Nat.zero_le _,Nat.zero_le _⟩
theorem chr_bd (l:List UInt8) (i:Nat):(chr l i).1≤1114111∧(chr l i).2≤4:=by
 have:=by8_lt l i
 unfold chr
 split
 · simp
 split
 · exact ⟨by simp only;omega,by simp⟩
 split
 · have:=chrN_bd l i 2 (by8 l i - 192) 128;omega
 split
 · have:=chrN_bd l i 3 (by8 l i - 224) 2048;omega
 split
 · have:=chrN_bd l i 4 (by8 l i - 240) 65536;omega
 · simp
theorem decode_pos (s:ByteArray) (i:Nat):1≤(Utf8.decode s i).2:=by
 unfold Utf8.decode
 simp only
 repeat' split
 all_goals simp
theorem next_in (l:List UInt8) (i:Nat) (w:World) (hT:Lib.Utf8Tabs 9 10 w) (h:i < l.length) :
   Calls Tryz.prog 138 #[.string ⟨l.toArray⟩,.int .i64 i] w fun e w'=>e=.returned (.tuple #[.int .i64 (chr l i).1,.int .i64 (chr l i).2,.bool (decide (0 < (chr l i).2))])∧Pur w w':=by
 have hd:=chr_decode l i h
 have hc:=(Tryz.utf8_DecodeRuneInString ⟨(sub l i l.length).toArray⟩ w hT)
 have hg:Lib.decodeGo ⟨(sub l i l.length).toArray⟩=Utf8.decode ⟨(sub l i l.length).toArray⟩ 0:=by
   unfold Lib.decodeGo
   rw [if_neg]
   show ¬ (sub l i l.length).toArray.size=0
   simp only [List.size_toArray,length_sub];omega
 rw [← hg] at hd
 have hbd:=chr_bd l i
 have hpos:1≤(Lib.decodeGo ⟨(sub l i l.length).toArray⟩).2:=by rw [hg];exact decode_pos _ _
 clear hg
 generalize chr l i=q at *
 obtain ⟨c,n⟩:=q
 simp only at hbd ⊢
 generalize Lib.decodeGo ⟨(sub l i l.length).toArray⟩=d at *
 obtain ⟨r,m⟩:=d
 simp only at hpos hc
 have hi:(i:Int) < l.length:=by omega
 have HC:=Lib.hid hc
 clear hc
 by_cases hbad:r=65533∧m=1
 · obtain ⟨rfl,rfl⟩:=hbad
   rw [if_pos rfl] at hd
   simp only [Prod.mk.injEq] at hd
   obtain ⟨rfl,rfl⟩:=hd
   go_enter Tryz.func138,Tryz.ntmps138
   go_wp2_with (go_at_call 161;refine HC.out.mono ?_;rintro e w' ⟨rfl,hp⟩)
   go_ret3
   exact ⟨rfl,hp⟩
 · rw [if_neg (by simpa using hbad)] at hd
   simp only [Prod.mk.injEq] at hd
   obtain ⟨rfl,rfl⟩:=hd
   have hb:decide (0 < m)=true:=by simp;omega
   rw [hb]
   clear hb hpos
   by_cases hr:r=65533
   · have hm:((m:Int) == 1)=false:=by simp;omega
     have hr':((r:Int) == 65533)=true:=by simp;omega
     clear hbad hr
     go_enter Tryz.func138,Tryz.ntmps138
     go_wp2_with (go_at_call 161;refine HC.out.mono ?_;rintro e w' ⟨rfl,hp⟩)
     go_ret3
     exact ⟨rfl,hp⟩
   · have hr':((r:Int) == 65533)=false:=by simp;omega
     clear hbad hr
     go_enter Tryz.func138,Tryz.ntmps138
     go_wp2_with (go_at_call 161;refine HC.out.mono ?_;rintro e w' ⟨rfl,hp⟩)
     go_ret3
     exact ⟨rfl,hp⟩
def bv (l:List UInt8):List Value:=l.map fun b=>Value.int .u8 (b.toNat:Int)
theorem bv_append (a b:List UInt8):bv (a ++ b)=bv a ++ bv b:=List.map_append
theorem infoU8:(Tryz.prog.info? 5).map (fun i=>(i.zero,i.size,i.bytes))=some (some (.int .u8 0),1,1):=by kernel_rfl
theorem bv_unit8 (u:Nat) (hu:u < 65536):bv (unit8 u)=[.int .u8 ((u:Int) / 256),.int .u8 ((u:Int) % 256)]:=by
 have h1:(UInt8.ofNat (u / 256)).toNat=u / 256:=by rw [UInt8.toNat_ofNat'];omega
 have h2:(UInt8.ofNat (u % 256)).toNat=u % 256:=by rw [UInt8.toNat_ofNat'];omega
 simp only [bv,unit8,List.map_cons,List.map_nil,h1,h2]
 rfl
theorem unit_own (B:Nat) (v:Value) (n:Nat) (xs:List Value) (u:Int) (w:World) (h0:0≤u) (hu:u < 65536) (hown:w.ownsRow B 5 1 v n xs) (hlen:n + 2≤140737488355328) (hB:B≤w.heap.size) :
   Calls Tryz.prog 139 #[v,.int .i64 u] w fun e w'=>∃ v',e=.returned v'∧w'.ownsRow B 5 1 v' (n + 2) (xs ++ bv (unit8 u.toNat))∧Below B w w':=by
 obtain ⟨u,rfl⟩:=Int.eq_ofNat_of_zero_le h0
 rw [Int.toNat_natCast,bv_unit8 u (by omega)]
 obtain ⟨i0,hi,hz0,hz1,hz2⟩:=info_parts infoU8
 go_enter Tryz.func139,Tryz.ntmps139
 go_wp2_with (at_builtin;refine wpList_append_own _ rfl _ _ 75 rfl B 5 i0 (.int .u8 0) 1 1 Tryz.underlying75 hi hz0 hz1 hz2 rfl (by decide) _ _ _ rfl (hown.alloc _) ⟨w.heap.size,0,none⟩ 2 2 [.int .u8 ((u:Int) / 256),.int .u8 ((u:Int) % 256)] rfl rfl ?c1 ?c2 ?c3 ?c4 ?c5 ?_)
 case c1=>exact cell_two_new _ _ _ _
 case c2=>intro x hx;simp at hx;rcases hx with rfl | rfl <;> rfl
 case c3=>unfold maxLen;omega
 case c4=>omega
 case c5=>simp;omega
 intro v' w1 hown' hgrow _
 go_wp2
 go_ret
 refine ⟨v',rfl,hown',?_⟩
 exact ((Below.refl B w).alloc hB _).grown hgrow (by simp;omega) (fun k hk=>(hown.lt k hk).1)
theorem Pur.trans' {a b c:World} (h:Pur a b) (k:Below a.heap.size b c):Pur a c:=Below.trans h k
theorem ownsRow_pur {w w':World} {base:Nat} {e:TypeId} {size:Nat} {v:Value} {n:Nat} {xs:List Value} (h:w.ownsRow base e size v n xs) (hp:Pur w w'):w'.ownsRow base e size v n xs :=
 h.kept (row:=none) ⟨hp.os,hp.tape,hp.output,hp.size,fun k hk _=>hp.block k hk⟩ (by cases v.ownBlock <;> simp)
theorem run_str_of_own {P:Program} (w:World) (src dst e:TypeId) (B:Nat) (v:Value) (n:Nat) (l:List UInt8) (hn:l.length=n) (hs:P.underlying src=some (.slice e)) (he:P.underlying e=some (.int .u8)) (hd:P.underlying dst=some .string)
   (h:w.ownsRow B e 1 v n (bv l)):(convert src dst v).run P w=.ok (.string ⟨l.toArray⟩) w:=by
 subst hn
 obtain ⟨h1,h2⟩:=id h
 rcases h2 with ⟨rfl,h0⟩ | ⟨g,cap,cur,rfl,_⟩
 · obtain rfl:l=[]:=List.length_eq_zero_iff.1 h0
   rw [run_convert_bytes_string w src dst e _ _ _ hs he hd]
   simp [Conv.bytesToString]
   rfl
 · have hm:(l.map fun b=>((b.toNat:Nat):Int)).map B8=l:=by
     rw [List.map_map]
     conv=>rhs;rw [← List.map_id l]
     exact List.map_congr_left fun b _=>B8_toNat b
   rw [run_str_of_cells w src dst e ⟨g,0,none⟩ _ cap (l.map fun b=>((b.toNat:Nat):Int)) (by simp) hs he hd fun j hj=>?_,hm]
   have ha:(Addr.mk g 0 none).add j=⟨g,j,none⟩:=by unfold Addr.add;split <;> simp_all
   rw [ha,h.cellAt j (by omega)]
   simp [bv,hj]
theorem wide_any (l:List UInt8) (w:World) (hT:Lib.Utf8Tabs 9 10 w) (hs:l.length≤1000000) :
   Calls Tryz.prog 104 #[.string ⟨l.toArray⟩] w fun e w'=>e=.returned (.tuple #[.string ⟨(wideR l).1.toArray⟩,.int .i64 (wideR l).2.1,.int .i64 (wideR l).2.2])∧Pur w w':=by
 have hw1:IntKind.i64.wrap (2 * (l.length:Int))=2 * (l.length:Int):=IntWalk.i64_in _ (by omega)
 obtain ⟨i0,hi,hz0,hz1,hz2⟩:=info_parts infoU8
 go_enter Tryz.func104,Tryz.ntmps104
 go_wp2_with (at_make;refine wpList_make_own _ rfl _ _ 75 rfl w.heap.size 5 i0 (.int .u8 0) 1 Tryz.underlying75 hi hz0 hz1 .i64 .i64 _ (2 * l.length) rfl rfl (by omega) (by rw [hz2];omega) (by unfold maxLen;omega) (Nat.le_refl _) ?_;intro w0 hown0 hgrow0)
 clear hw1 hi hz0 hz1 hz2
 have hp0:Pur w w0:=(Below.refl _ w).grown hgrow0 (Nat.le_refl _) (fun k hk=>by cases hk)
 clear hgrow0
 go_loopw [5,6] (fun o i wr=>∃ (n:Nat) (acc:List UInt8),n≤l.length∧i=.int .i64 n∧acc.length≤4 * n∧wr.ownsRow w.heap.size 5 1 o acc.length (bv acc)∧Pur w wr∧Hid (wideR l=wideGo l n acc)) (fun _ i _=>l.length + 1 - (intOf i).toNat)
 case atStart=>exact ⟨0,[],by omega,rfl,by simp,hown0,hp0,Lib.hid rfl⟩
 case round =>
   obtain ⟨n,acc,hn,rfl,hacc,hown,hpr,H⟩:=hrel
   by_cases hlt:n < l.length
   · have hT1:=Utf8Tabs_below hT hpr
     have HG:Hid (wideGo l n acc=if (chr l n).2=0 then ([],n,10) else wideGo l (n + (chr l n).2) (acc ++ units (chr l n).1)):=by
       rw [wideGo,if_pos hlt]
       exact rfl
     have hbd:=chr_bd l n
     have hend:=chr_end l n
     have HN:=Lib.hid (next_in l n wr hT1 hlt)
     generalize chr l n=q at *
     obtain ⟨c,m⟩:=q
     simp only at hbd hend
     by_cases hm:m=0
     · subst hm
       have HR:Hid (wideR l=([],n,10)):=by
         have h1:=H.out
         have h2:=HG.out
         rw [h2,if_pos rfl] at h1
         exact h1
       clear hend hown hT1
       go_wp2_with (go_at_call 138;refine HN.out.mono ?_;rintro e w1 ⟨rfl,hp1⟩)
       go_ret3
       exact ⟨by rw [HR.out];rfl,hpr.trans hp1⟩
     · have hmb:decide (0 < m)=true:=by simp;omega
       have hend':=hend hm
       have HR:Hid (wideR l=wideGo l (n + m) (acc ++ units c)):=by
         have h1:=H.out
         have h2:=HG.out
         rw [h2,if_neg hm] at h1
         exact h1
       have hm1:1≤m:=by omega
       clear hend hT1 hm
       by_cases hc:65535 < (c:Int)
       · have hu:units c=unit8 (55296 + (c - 65536) / 1024) ++ unit8 (56320 + (c - 65536) % 1024):=by rw [units,if_pos (by omega)]
         have HU:=Lib.hid hu
         clear hu
         have hand:bits .and .i64 ((c:Int) - 65536) 1023=((c:Int) - 65536) % 1024:=bits_mask .i64 63 (by decide) wraps_i64 10 (by decide) _ (by omega) (by omega)
         go_wp2_with (first | (go_at_call 138;refine HN.out.mono ?_;rintro e w1 ⟨rfl,hp1⟩))
         refine (unit_own _ _ _ _ _ _ (by omega) (by omega) (ownsRow_pur hown hp1) (by omega) (Nat.le_trans hpr.size hp1.size)).mono ?_
         rintro e w2 ⟨v2,rfl,hown2,hb2⟩
         have hz2:w.heap.size≤w2.heap.size:=Nat.le_trans (Nat.le_trans hpr.size hp1.size) hb2.size
         rw [show ((55296:Int) + ((c:Int) - 65536) / 1024).toNat=55296 + (c - 65536) / 1024 by omega] at hown2
         go_wp2_with fail
         refine (unit_own _ _ _ _ _ _ (by omega) (by omega) hown2 (by omega) hz2).mono ?_
         rintro e w3 ⟨v3,rfl,hown3,hb3⟩
         rw [show ((56320:Int) + ((c:Int) - 65536) % 1024).toNat=56320 + (c - 65536) % 1024 by omega] at hown3
         clear hown2
         go_wp2
         go_roundw
         case rel =>
           refine ⟨n + m,acc ++ units c,by omega,by go_num,by have:=units_length_le c;rw [List.length_append];omega,?_,((hpr.trans hp1).trans' hb2).trans' hb3,HR⟩
           rw [HU.out,List.length_append,List.length_append,bv_append,bv_append,← List.append_assoc]
           exact hown3
         case measure=>simp [intOf];omega
       · have hu:units c=unit8 c:=by rw [units,if_neg (by omega)]
         have HU:=Lib.hid hu
         clear hu
         go_wp2_with (go_at_call 138;refine HN.out.mono ?_;rintro e w1 ⟨rfl,hp1⟩)
         refine (unit_own _ _ _ _ _ _ (by omega) (by omega) (ownsRow_pur hown hp1) (by omega) (Nat.le_trans hpr.size hp1.size)).mono ?_
         rintro e w2 ⟨v2,rfl,hown2,hb2⟩
         rw [Int.toNat_natCast] at hown2
         go_wp2
         go_roundw
         case rel =>
           refine ⟨n + m,acc ++ units c,by omega,by go_num,by have:=units_length_le c;rw [List.length_append];omega,?_,(hpr.trans hp1).trans' hb2,HR⟩
           rw [HU.out,List.length_append,bv_append]
           exact hown2
         case measure=>simp [intOf];omega
   · obtain rfl:n=l.length:=by omega
     have hstr:=run_str_of_own (P:=Tryz.prog) wr 75 9 5 w.heap.size _ acc.length acc rfl Tryz.underlying75 Tryz.underlying5 Tryz.underlying9 hown
     clear hown
     go_wp2
     go_ret3
     refine ⟨?_,hpr⟩
     rw [H.out,wideGo,if_neg (by omega)]
     rfl
end Go.Proofs.YtgdolcoiihagfaaGreatDoor
