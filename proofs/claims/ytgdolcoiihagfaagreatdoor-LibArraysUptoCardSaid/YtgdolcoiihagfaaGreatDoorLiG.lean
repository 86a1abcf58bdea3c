/- Layer 10: parseInt: what it reads of a text. Layer 10: parseInt, as it is called. Layer 10: what awake does to its heap, in plain words; numbers and texts that it makes. A region that draws: two operations come up at once. -/
import Derived.Test.YtgdolcoiihagfaaGreatDoorLiF
import Derived.Test.YtgdolcoiihagfaaGreatDoorApX
import Derived.Test.YtgdolcoiihagfaaGreatDoorHaC
import Derived.Test.YtgdolcoiihagfaaGreatDoorLiE
import Derived.Test.YtgdolcoiihagfaaGreatDoorLiA
import Derived.Test.YtgdolcoiihagfaaGreatDoorCvC
import Derived.Test.YtgdolcoiihagfaaGreatDoorTbE
namespace Go.Proofs.YtgdolcoiihagfaaGreatDoor
open Go Go.RowKit
set_option linter.all false
set_option maxRecDepth 100000
set_option maxHeartbeats 100000000
namespace Li
def blankU (u:Nat):Bool:=(decide (9≤u) && decide (u≤13)) || decide (u=32) || decide (u=160) || decide (u=65279)
def minU (u:Nat):UInt8:=UInt8.ofNat (min u 255)
def pre (acc:List UInt8):List Nat→List UInt8
 | []=>acc
 | u :: r=>if acc.isEmpty && blankU u then pre acc r else pre (acc ++ [minU u]) r
theorem pre_snoc (u:Nat):∀ (us:List Nat) (acc:List UInt8),pre acc (us ++ [u])=if (pre acc us).isEmpty && blankU u then pre acc us else pre acc us ++ [minU u]
 | [],acc=>by simp [pre]
 | x :: us,acc=>by
   simp only [List.cons_append,pre]
   split
   · exact pre_snoc u us acc
   · exact pre_snoc u us _
theorem pre_len:∀ (us:List Nat) (acc:List UInt8),(pre acc us).length≤acc.length + us.length
 | [],acc=>by simp [pre]
 | x :: us,acc=>by
   simp only [pre]
   split
   · have:=pre_len us acc;simp;omega
   · have:=pre_len us (acc ++ [minU x]);simp at this ⊢;omega
theorem units_take (l:List UInt8) (i:Nat) (h:i < l.length / 2):(unitsOf l).take (i + 1)=(unitsOf l).take i ++ [at16 l i]:=by
 rw [List.take_add_one,unitsOf_at l i h]
 rfl
theorem bv_min (u:Nat):bv [minU u]=[.int .u8 (min (u:Int) 255)]:=by
 unfold bv minU
 rw [List.map_singleton,UInt8.toNat_ofNat',Nat.mod_eq_of_lt (by omega)]
 congr 2
 omega
theorem or32_u8 (c:Nat) (h:c < 256):bits .or .u8 (c:Int) 32=((c ||| 32:Nat):Int):=by
 have H:∀ c:Fin 256,bits .or .u8 ((c.val:Nat):Int) 32=((c.val ||| 32:Nat):Int):=by decide +kernel
 exact H ⟨c,h⟩
def digSet:List UInt8:=[48,49,50,51,52,53,54,55,56,57]
def hexSet:List UInt8:=[48,49,50,51,52,53,54,55,56,57,97,98,99,100,101,102,65,66,67,68,69,70]
def inSet (set:List UInt8) (c:UInt8):Bool:=decide (0≤Lib.indexByte set c)
def runS (set:List UInt8) (s:List UInt8) (k:Nat):Prop:=k≤s.length∧(∀ j,j < k→inSet set (s.getD j 0)=true)∧(k < s.length→inSet set (s.getD k 0)=false)
theorem by8_get (s:List UInt8) (j:Nat):((by8 s j:Int)).toNat.toUInt8=s.getD j 0:=by
 unfold by8
 rw [Int.toNat_natCast]
 simp
def signOf (s:List UInt8):List UInt8:=if s.head?=some 45∨s.head?=some 43 then s.take 1 else []
def hexB (s:List UInt8):Bool:=decide (1 < s.length) && (decide (by8 s 0=48) && decide (by8 s 1 ||| 32=120))
def negF (sg:List UInt8) (x:Nat):Nat:=if sg=[45] then Op.negFloat .f64 x else x
theorem parse_any {w:World} (l s0 s ds:List UInt8) (hx:Bool) (k x:Nat) (hl:l.length≤10000) (hs0:pre [] (unitsOf l)=s0) (hs:s0.drop (signOf s0).length=s) (hhx:hexB s=hx)
   (hds:ds=(if hx then s.drop 2 else s)) (hk:runS (if hx then hexSet else digSet) ds k) (hk0:0 < k) (ev:Value)
   (PF:∀ w',Pur w w'→Calls Tryz.prog 114 #[.string ⟨(if hx then [48,120] ++ (sub ds 0 k ++ [112,48]) else sub ds 0 k).toArray⟩,.int .i64 64] w' fun e w''=>e=.returned (.tuple #[.float .f64 x,ev])∧Pur w' w'') :
   Calls Tryz.prog 83 #[.string ⟨l.toArray⟩,.float .f64 0] w fun e w'=>e=.returned (.float .f64 (negF (signOf s0) x))∧Pur w w':=by
 obtain ⟨i0,hi,hz0,hz1,hz2⟩:=info_parts infoU8
 have LE:=fun w=>length_any l w (by omega)
 obtain ⟨N,hN⟩:∃ N,l.length / 2=N:=⟨_,rfl⟩
 have hN2:N≤5000:=by omega
 have AT:=fun i w (h:i < N)=>at_in l i w (by omega) (by rw [hN];exact h)
 have UT:=fun i (h:i < N)=>units_take l i (by rw [hN];exact h)
 have UL:(unitsOf l).length=N:=(unitsOf_len l).trans hN
 rw [hN] at LE
 have e10:(FloatKind.f64.format.order 0 4621819117588971520 != some Ordering.eq)=true:=by decide +kernel
 have e16:(FloatKind.f64.format.order 0 4625196817309499392 != some Ordering.eq)=true:=by decide +kernel
 have e00:(FloatKind.f64.format.order 0 0 != some Ordering.eq)=false:=by decide +kernel
 have f16:(FloatKind.f64.format.order 0 4625196817309499392 == some Ordering.eq)=false:=by decide +kernel
 have g16:(FloatKind.f64.format.order 4625196817309499392 4625196817309499392 == some Ordering.eq)=true:=by decide +kernel
 have hlen:=pre_len (unitsOf l) []
 rw [UL,hs0] at hlen
 simp only [List.length_nil,Nat.zero_add] at hlen
 clear hN
 go_enter Tryz.func83,Tryz.ntmps83
 go_wp2_with fail
 refine (LE _).mono ?_
 rintro e w1 ⟨rfl,rfl⟩
 clear LE
 go_wp2
 go_loopw [5,28] (fun bw iv wr=>∃ i:Nat,i≤N∧iv=.int .i64 (i:Int)∧Pur w wr∧wr.ownsRow w.heap.size 5 1 bw (pre [] ((unitsOf l).take i)).length (bv (pre [] ((unitsOf l).take i)))) (fun _ iv _=>N + 1 - (intOf iv).toNat)
 case atStart=>exact ⟨0,by omega,rfl,Pur.refl _,by rw [List.take_zero];exact World.ownsRow_nil _ _ _ _⟩
 case round =>
   obtain ⟨i,hil,rfl,hpr,hr⟩:=hrel
   by_cases hlt:i < N
   · have ATi:=AT i
     have hU:=UT i hlt
     have hP:pre [] ((unitsOf l).take (i + 1))=if (pre [] ((unitsOf l).take i)).isEmpty && blankU (at16 l i) then pre [] ((unitsOf l).take i) else pre [] ((unitsOf l).take i) ++ [minU (at16 l i)]:=by rw [hU,pre_snoc]
     have hPl:=pre_len ((unitsOf l).take i) []
     rw [List.length_take,UL] at hPl
     simp only [List.length_nil,Nat.zero_add] at hPl
     obtain ⟨acc,hacc⟩:∃ acc,pre [] ((unitsOf l).take i)=acc:=⟨_,rfl⟩
     rw [hacc] at hr hP hPl
     have hu:at16 l i < 65536:=at16_lt l i
     obtain ⟨u,hue⟩:∃ u,at16 l i=u:=⟨_,rfl⟩
     rw [hue] at hP hu ATi
     have HP:=Lib.hid hP
     clear hP hU hacc hue AT
     obtain ⟨la,lc,hlv⟩:=row_shape hr
     subst hlv
     have d1:decide ((i:Int) < ((N:Nat):Int))=true:=decide_eq_true (by omega)
     have wi:IntKind.i64.wrap ((i:Int) + 1)=(i:Int) + 1:=IntWalk.i64_in _ (by omega)
     go_wp2_with fail
     refine (ATi _ hlt).mono ?_
     rintro e w2 ⟨rfl,p2⟩
     replace hr:=row_pur hr p2
     replace hpr:=hpr.trans p2
     clear ATi p2
     obtain ⟨q,hq⟩:∃ q,(acc.isEmpty && blankU u)=q:=⟨_,rfl⟩
     go_upto_region 8 with (fail)
     go_cut [59] from 37 to 59 (fun v wx=>v=.bool q∧wx=w2)
     case first =>
       cases acc with
       | cons a r =>
         have hq2:q=false:=by rw [← hq];rfl
         subst hq2
         have d2:decide ((((a :: r).length:Nat):Int)=0)=false:=decide_eq_false (by simp;omega)
         clear hr HP hq
         go_wp2
         go_meet
         exact ⟨by first | rfl | simp,by first | rfl | trivial⟩
       | nil =>
         have hq2:blankU u=q:=by rw [← hq];rfl
         clear hr HP hq
         by_cases a1:9≤u
         · by_cases a2:u≤13
           · have hq3:q=true:=by rw [← hq2];simp [blankU,a1,a2]
             subst hq3
             go_wp2
             go_meet
             exact ⟨by first | rfl | simp,by first | rfl | trivial⟩
           · by_cases a3:u=32
             · subst a3
               have hq3:q=true:=by rw [← hq2];rfl
               subst hq3
               go_wp2
               go_meet
               exact ⟨by first | rfl | simp,by first | rfl | trivial⟩
             · by_cases a4:u=160
               · subst a4
                 have hq3:q=true:=by rw [← hq2];rfl
                 subst hq3
                 go_wp2
                 go_meet
                 exact ⟨by first | rfl | simp,by first | rfl | trivial⟩
               · have hq3:q=decide (u=65279):=by rw [← hq2];simp [blankU,a2,a3,a4]
                 have a5:¬ ((u:Int)≤13):=by omega
                 go_wp2
                 go_meet
                 exact ⟨by rw [hq3];congr 1;rw [Bool.eq_iff_iff];simp;omega,by first | rfl | trivial⟩
         · have hq3:q=false:=by rw [← hq2];simp [blankU];omega
           subst hq3
           have b1:¬ u=32:=by omega
           have b2:¬ u=160:=by omega
           have b3:¬ u=65279:=by omega
           go_wp2
           go_meet
           exact ⟨by first | rfl | (simp;done) | (simp;omega),by first | rfl | trivial⟩
     case rest =>
       obtain ⟨rfl,rfl⟩:=hcut
       cases q with
       | true =>
         rw [hq,if_pos rfl] at HP
         have HR:=Lib.hid hr
         clear hr
         go_wp2
         go_roundw
         case rel=>exact ⟨i + 1,by omega,by go_num,hpr,by rw [HP.out];exact HR.out⟩
         case measure=>simp [intOf];omega
       | false =>
         rw [hq,if_neg (by decide)] at HP
         have w8:IntKind.u8.wrap (min (u:Int) 255)=min (u:Int) 255:=by rw [IntKind.wrap_u8];omega
         have NBX:=bk_new wc (.cells #[.int .u8 (min (u:Int) 255)] 5)
         have PX:Pur w (wc.alloc (.cells #[.int .u8 (min (u:Int) 255)] 5)):=hpr.alloc _
         have HRow:=Lib.hid (hr.alloc (.cells #[.int .u8 (min (u:Int) 255)] 5))
         have HFe:Hid (Feeds (wc.alloc (.cells #[.int .u8 (min (u:Int) 255)] 5)) 1 (some ⟨wc.heap.size,0,none⟩) 1 [.int .u8 (min (u:Int) 255)]):=Lib.hid ⟨rfl,fun _=>⟨_,rfl,World.news_of_block (cs:=#[.int .u8 (min (u:Int) 255)]) (t:=5) (fr:=(0,0)) NBX⟩⟩
         have HLT:=Lib.hid hr.lt
         clear hr NBX
         go_wp2_with (at_builtin;refine wpList_append_feeds rfl _ _ 75 rfl w.heap.size 5 i0 (.int .u8 0) 1 1 Tryz.underlying75 hi hz0 hz1 hz2 rfl (by decide) _ _ _ rfl HRow.out _ _ _ [.int .u8 (min (u:Int) 255)] rfl HFe.out (by simp [Value.oneCell']) ?c3 ?c4 PX.size ?_)
         case c3=>unfold maxLen;omega
         case c4=>omega
         intro v5 w5 hown5 hgrow
         have hp5:Pur w w5:=Below.grown PX hgrow PX.size (fun k hk=>(HLT.out k hk).1)
         rw [← bv_min,← bv_append] at hown5
         have HO:=Lib.hid (show w5.ownsRow w.heap.size 5 1 v5 (acc ++ [minU u]).length (bv (acc ++ [minU u])) by rw [List.length_append];exact hown5)
         clear hgrow hown5 HRow HFe PX HLT
         go_wp2
         go_roundw
         case rel=>exact ⟨i + 1,by omega,by go_num,hp5,by rw [HP.out];exact HO.out⟩
         case measure=>simp [intOf];omega
   · obtain rfl:N=i:=by omega
     rw [show (unitsOf l).take (N)=unitsOf l from List.take_of_length_le (by rw [UL];exact Nat.le_refl _),hs0] at hr
     have d1:decide (((N:Nat):Int) < ((N:Nat):Int))=false:=decide_eq_false (by omega)
     obtain ⟨la,lc,hlv⟩:=row_shape hr
     subst hlv
     have CV:=run_str_of_own wr 75 9 5 w.heap.size (.slice la s0.length lc) s0.length s0 rfl Tryz.underlying75 Tryz.underlying5 Tryz.underlying9 hr
     clear AT hr
     have hneg:∀ w,(Op.unary .neg (.float .f64 x)).run Tryz.prog w=.ok (.float .f64 (Op.negFloat .f64 x)) w:=fun _=>rfl
     have hds0:0 < ds.length:=Nat.lt_of_lt_of_le hk0 hk.1
     have hsl:ds.length≤s.length:=by rw [hds];split <;> simp
     have hsl0:s.length≤s0.length:=by rw [← hs];simp
     have PFn:=PF
     have hne:s0.isEmpty=false:=by cases s0 with
       | nil=>rw [List.length_nil] at hsl0;omega
       | cons a r=>rfl
     have h9:0 < s0.length:=Nat.lt_of_lt_of_le hds0 (Nat.le_trans hsl hsl0)
     have hl0:(0:Int) < s0.length:=Int.ofNat_lt.2 h9
     obtain ⟨sg,hsg⟩:∃ sg,signOf s0=sg:=⟨_,rfl⟩
     rw [hsg] at hs
     have hcase:(by8 s0 0=45∧sg=[45])∨(by8 s0 0=43∧sg=[43])∨(¬ by8 s0 0=45∧¬ by8 s0 0=43∧sg=[]):=by
       cases s0 with
       | nil=>simp at hl0
       | cons a r =>
         have e:by8 (a :: r) 0=a.toNat:=rfl
         rw [e]
         rw [← hsg]
         unfold signOf
         simp only [List.head?_cons,Option.some.injEq]
         by_cases a1:a=45
         · subst a1;exact .inl ⟨rfl,rfl⟩
         · by_cases a2:a=43
           · subst a2;exact .inr (.inl ⟨rfl,rfl⟩)
           · refine .inr (.inr ⟨fun h=>a1 (by apply UInt8.toNat_inj.1;rw [h];rfl),fun h=>a2 (by apply UInt8.toNat_inj.1;rw [h];rfl),?_⟩)
             rw [if_neg (by simp [a1,a2])]
     have HSG:=Lib.hid hsg
     have HX:=Lib.hid hhx
     have HDS:=Lib.hid hds
     have HK:=Lib.hid hk
     have IX:∀ (set:List UInt8) (n:Nat) w,Calls Tryz.prog 113 #[.string ⟨set.toArray⟩,.int .u8 (by8 ds n:Int)] w fun e w'=>e=.returned (.int .i64 (Lib.indexByte set (ds.getD n 0)))∧w=w':=fun set n w=>by
       have:=Tryz.strings_IndexByte ⟨set.toArray⟩ (by8 ds n:Int) w
       rw [by8_get] at this
       exact this.mono fun e w' ⟨h1,h2⟩=>⟨h1,h2.symm⟩
     clear hsg hhx hds hk
     rcases hcase with ⟨h45,rfl⟩ | ⟨h43,rfl⟩ | ⟨h45,h43,rfl⟩
     · have e1:sub s0 0 1=[45]:=by
         cases s0 with
         | nil=>simp at hl0
         | cons a r =>
           have:a.toNat=45:=h45
           obtain rfl:a=45:=UInt8.toNat_inj.1 this
           rfl
       have e2:sub s0 1 s0.length=s:=by rw [← hs];unfold sub;rw [List.take_of_length_le (by simp)];rfl
       have hl1:(1:Int)≤s0.length:=by omega
       clear hs
       go_wp2_with fail
       refine wp_region_pur (by kernel_rfl) (by kernel_rfl) ?_
       repeat (quiet_step (fail))
       refine wpQuiet_nil ?_
       intro wq hq
       replace hpr:=hpr.trans hq
       clear e1 e2 hq hne hl0 hl1 h9 h45 CV
       go_upto_region 16 with (fail)
       go_cut [102] from 85 to 102 (fun v wx=>v=.bool hx∧wx=wq)
       case first =>
         have o32:=or32_u8 (by8 s 1) (by8_lt _ _)
         clear IX PF HK HDS
         by_cases c1:1 < s.length
         · have d1:decide ((1:Int) < (s.length:Int))=true:=decide_eq_true (by omega)
           have d2:(1:Int) < (s.length:Int):=by omega
           have d3:(0:Int) < (s.length:Int):=by omega
           by_cases c2:by8 s 0=48
           · obtain ⟨y,hy⟩:∃ y,by8 s 1 ||| 32=y:=⟨_,rfl⟩
             rw [hy] at o32
             have HY:=Lib.hid hy
             clear hy
             go_wp2
             go_meet
             exact ⟨by rw [← HX.out];congr 1;unfold hexB;rw [HY.out];simp only [c1,c2,decide_true,Bool.true_and];rw [Bool.eq_iff_iff];simp;try omega,by first | rfl | trivial⟩
           · clear o32
             go_wp2
             go_meet
             exact ⟨by rw [← HX.out];congr 1;unfold hexB;simp [c1,c2],by first | rfl | trivial⟩
         · have d1:decide ((1:Int) < (s.length:Int))=false:=decide_eq_false (by omega)
           clear o32
           go_wp2
           go_meet
           exact ⟨by rw [← HX.out];congr 1;unfold hexB;simp [c1],by first | rfl | trivial⟩
       case rest =>
         obtain ⟨rfl,rfl⟩:=hcut
         clear HX
         cases hx with
         | false =>
           obtain rfl:ds=s:=HDS.out
           replace HK:runS digSet ds k:=HK.out
           have hkl2:=HK.1
           simp only [Bool.false_eq_true,if_false] at PF
           go_wp2
           go_loopw [12] (fun nv wz=>∃ n:Nat,n≤k∧nv=.int .i64 (n:Int)∧wz=wc) (fun nv _=>k + 1 - (intOf nv).toNat)
           case atStart=>exact ⟨0,by omega,rfl,by first | rfl | trivial⟩
           case round =>
             obtain ⟨n,hn,rfl,rfl⟩:=hrel
             obtain ⟨z,hz⟩:∃ z,Lib.indexByte digSet (ds.getD n 0)=z:=⟨_,rfl⟩
             have IXn:=fun w=>IX digSet n w
             rw [hz] at IXn
             unfold digSet at IXn
             by_cases hnk:n < k
             · have g1:decide (0≤z)=true:=by have:=HK.2.1 n hnk;unfold inSet at this;rw [hz] at this;exact this
               have g2:decide ((n:Int) < (ds.length:Int))=true:=decide_eq_true (by omega)
               have g3:(n:Int) < (ds.length:Int):=by omega
               have g4:IntKind.i64.wrap ((n:Int) + 1)=(n:Int) + 1:=IntWalk.i64_in _ (by omega)
               clear hz IX PF HK
               go_wp2_with fail
               refine (IXn _).mono ?_
               rintro e w6 ⟨rfl,rfl⟩
               clear IXn
               go_wp2
               go_roundw
               case rel=>exact ⟨n + 1,by omega,by go_num,by first | rfl | trivial⟩
               case measure=>simp [intOf];omega
             · obtain rfl:n=k:=by omega
               have g5:¬ n=0:=by omega
               have g6:(n:Int)≤(ds.length:Int):=by omega
               have g7:(0:Int)≤n:=by omega
               by_cases hkl:n < ds.length
               · have g1:decide (0≤z)=false:=by have:=HK.2.2 hkl;unfold inSet at this;rw [hz] at this;exact this
                 have g2:decide ((n:Int) < (ds.length:Int))=true:=decide_eq_true (by omega)
                 have g3:(n:Int) < (ds.length:Int):=by omega
                 clear hz IX HK
                 go_wp2_with fail
                 refine (IXn _).mono ?_
                 rintro e w6 ⟨rfl,rfl⟩
                 clear IXn
                 go_wp2_with fail
                 refine (PF _ hpr).mono ?_
                 rintro e w7 ⟨rfl,p7⟩
                 have HE:=hpr.trans p7
                 clear PF
                 go_wp2
                 go_ret
                 exact ⟨by rw [HSG.out];rfl,HE⟩
               · have g2:decide ((n:Int) < (ds.length:Int))=false:=decide_eq_false (by omega)
                 clear hz IX HK IXn
                 go_wp2_with fail
                 refine (PF _ hpr).mono ?_
                 rintro e w7 ⟨rfl,p7⟩
                 have HE:=hpr.trans p7
                 clear PF
                 go_wp2
                 go_ret
                 exact ⟨by rw [HSG.out];rfl,HE⟩
         | true =>
           have hdd:s.drop 2=ds:=HDS.out.symm
           have hs2:2≤s.length:=by have:=hds0;rw [← hdd,List.length_drop] at this;omega
           have e3:sub s 2 s.length=ds:=by rw [← hdd];unfold sub;rw [List.take_of_length_le (by simp)]
           have hs3:(2:Int)≤s.length:=by omega
           replace HK:runS hexSet ds k:=HK.out
           have hkl2:=HK.1
           simp only [if_true] at PF
           clear hdd
           go_wp2
           go_loopw [12] (fun nv wz=>∃ n:Nat,n≤k∧nv=.int .i64 (n:Int)∧wz=wc) (fun nv _=>k + 1 - (intOf nv).toNat)
           case atStart=>exact ⟨0,by omega,rfl,by first | rfl | trivial⟩
           case round =>
             obtain ⟨n,hn,rfl,rfl⟩:=hrel
             obtain ⟨z,hz⟩:∃ z,Lib.indexByte hexSet (ds.getD n 0)=z:=⟨_,rfl⟩
             have IXn:=fun w=>IX hexSet n w
             rw [hz] at IXn
             unfold hexSet at IXn
             by_cases hnk:n < k
             · have g1:decide (0≤z)=true:=by have:=HK.2.1 n hnk;unfold inSet at this;rw [hz] at this;exact this
               have g2:decide ((n:Int) < (ds.length:Int))=true:=decide_eq_true (by omega)
               have g3:(n:Int) < (ds.length:Int):=by omega
               have g4:IntKind.i64.wrap ((n:Int) + 1)=(n:Int) + 1:=IntWalk.i64_in _ (by omega)
               clear hz IX PF HK
               go_wp2_with fail
               refine (IXn _).mono ?_
               rintro e w6 ⟨rfl,rfl⟩
               clear IXn
               go_wp2
               go_roundw
               case rel=>exact ⟨n + 1,by omega,by go_num,by first | rfl | trivial⟩
               case measure=>simp [intOf];omega
             · obtain rfl:n=k:=by omega
               have g5:¬ n=0:=by omega
               have g6:(n:Int)≤(ds.length:Int):=by omega
               have g7:(0:Int)≤n:=by omega
               by_cases hkl:n < ds.length
               · have g1:decide (0≤z)=false:=by have:=HK.2.2 hkl;unfold inSet at this;rw [hz] at this;exact this
                 have g2:decide ((n:Int) < (ds.length:Int))=true:=decide_eq_true (by omega)
                 have g3:(n:Int) < (ds.length:Int):=by omega
                 clear hz IX HK
                 go_wp2_with fail
                 refine (IXn _).mono ?_
                 rintro e w6 ⟨rfl,rfl⟩
                 clear IXn
                 go_wp2_with fail
                 refine (PF _ hpr).mono ?_
                 rintro e w7 ⟨rfl,p7⟩
                 have HE:=hpr.trans p7
                 clear PF
                 go_wp2
                 go_ret
                 exact ⟨by rw [HSG.out];rfl,HE⟩
               · have g2:decide ((n:Int) < (ds.length:Int))=false:=decide_eq_false (by omega)
                 clear hz IX HK IXn
                 go_wp2_with fail
                 refine (PF _ hpr).mono ?_
                 rintro e w7 ⟨rfl,p7⟩
                 have HE:=hpr.trans p7
                 clear PF
                 go_wp2
                 go_ret
                 exact ⟨by rw [HSG.out];rfl,HE⟩
     · have e1:sub s0 0 1=[43]:=by
         cases s0 with
         | nil=>simp at hl0
         | cons a r =>
           have:a.toNat=43:=h43
           obtain rfl:a=43:=UInt8.toNat_inj.1 this
           rfl
       have e2:sub s0 1 s0.length=s:=by rw [← hs];unfold sub;rw [List.take_of_length_le (by simp)];rfl
       have hl1:(1:Int)≤s0.length:=by omega
       clear hs
       go_wp2_with fail
       refine wp_region_pur (by kernel_rfl) (by kernel_rfl) ?_
       repeat (quiet_step (fail))
       refine wpQuiet_nil ?_
       intro wq hq
       replace hpr:=hpr.trans hq
       clear e1 e2 hq hne hl0 hl1 h9 h43 CV
       go_upto_region 16 with (fail)
       go_cut [102] from 85 to 102 (fun v wx=>v=.bool hx∧wx=wq)
       case first =>
         have o32:=or32_u8 (by8 s 1) (by8_lt _ _)
         clear IX PF HK HDS
         by_cases c1:1 < s.length
         · have d1:decide ((1:Int) < (s.length:Int))=true:=decide_eq_true (by omega)
           have d2:(1:Int) < (s.length:Int):=by omega
           have d3:(0:Int) < (s.length:Int):=by omega
           by_cases c2:by8 s 0=48
           · obtain ⟨y,hy⟩:∃ y,by8 s 1 ||| 32=y:=⟨_,rfl⟩
             rw [hy] at o32
             have HY:=Lib.hid hy
             clear hy
             go_wp2
             go_meet
             exact ⟨by rw [← HX.out];congr 1;unfold hexB;rw [HY.out];simp only [c1,c2,decide_true,Bool.true_and];rw [Bool.eq_iff_iff];simp;try omega,by first | rfl | trivial⟩
           · clear o32
             go_wp2
             go_meet
             exact ⟨by rw [← HX.out];congr 1;unfold hexB;simp [c1,c2],by first | rfl | trivial⟩
         · have d1:decide ((1:Int) < (s.length:Int))=false:=decide_eq_false (by omega)
           clear o32
           go_wp2
           go_meet
           exact ⟨by rw [← HX.out];congr 1;unfold hexB;simp [c1],by first | rfl | trivial⟩
       case rest =>
         obtain ⟨rfl,rfl⟩:=hcut
         clear HX
         cases hx with
         | false =>
           obtain rfl:ds=s:=HDS.out
           replace HK:runS digSet ds k:=HK.out
           have hkl2:=HK.1
           simp only [Bool.false_eq_true,if_false] at PF
           go_wp2
           go_loopw [12] (fun nv wz=>∃ n:Nat,n≤k∧nv=.int .i64 (n:Int)∧wz=wc) (fun nv _=>k + 1 - (intOf nv).toNat)
           case atStart=>exact ⟨0,by omega,rfl,by first | rfl | trivial⟩
           case round =>
             obtain ⟨n,hn,rfl,rfl⟩:=hrel
             obtain ⟨z,hz⟩:∃ z,Lib.indexByte digSet (ds.getD n 0)=z:=⟨_,rfl⟩
             have IXn:=fun w=>IX digSet n w
             rw [hz] at IXn
             unfold digSet at IXn
             by_cases hnk:n < k
             · have g1:decide (0≤z)=true:=by have:=HK.2.1 n hnk;unfold inSet at this;rw [hz] at this;exact this
               have g2:decide ((n:Int) < (ds.length:Int))=true:=decide_eq_true (by omega)
               have g3:(n:Int) < (ds.length:Int):=by omega
               have g4:IntKind.i64.wrap ((n:Int) + 1)=(n:Int) + 1:=IntWalk.i64_in _ (by omega)
               clear hz IX PF HK
               go_wp2_with fail
               refine (IXn _).mono ?_
               rintro e w6 ⟨rfl,rfl⟩
               clear IXn
               go_wp2
               go_roundw
               case rel=>exact ⟨n + 1,by omega,by go_num,by first | rfl | trivial⟩
               case measure=>simp [intOf];omega
             · obtain rfl:n=k:=by omega
               have g5:¬ n=0:=by omega
               have g6:(n:Int)≤(ds.length:Int):=by omega
               have g7:(0:Int)≤n:=by omega
               by_cases hkl:n < ds.length
               · have g1:decide (0≤z)=false:=by have:=HK.2.2 hkl;unfold inSet at this;rw [hz] at this;exact this
                 have g2:decide ((n:Int) < (ds.length:Int))=true:=decide_eq_true (by omega)
                 have g3:(n:Int) < (ds.length:Int):=by omega
                 clear hz IX HK
                 go_wp2_with fail
                 refine (IXn _).mono ?_
                 rintro e w6 ⟨rfl,rfl⟩
                 clear IXn
                 go_wp2_with fail
                 refine (PF _ hpr).mono ?_
                 rintro e w7 ⟨rfl,p7⟩
                 have HE:=hpr.trans p7
                 clear PF
                 go_wp2
                 go_ret
                 exact ⟨by rw [HSG.out];rfl,HE⟩
               · have g2:decide ((n:Int) < (ds.length:Int))=false:=decide_eq_false (by omega)
                 clear hz IX HK IXn
                 go_wp2_with fail
                 refine (PF _ hpr).mono ?_
                 rintro e w7 ⟨rfl,p7⟩
                 have HE:=hpr.trans p7
                 clear PF
                 go_wp2
                 go_ret
                 exact ⟨by rw [HSG.out];rfl,HE⟩
         | true =>
           have hdd:s.drop 2=ds:=HDS.out.symm
           have hs2:2≤s.length:=by have:=hds0;rw [← hdd,List.length_drop] at this;omega
           have e3:sub s 2 s.length=ds:=by rw [← hdd];unfold sub;rw [List.take_of_length_le (by simp)]
           have hs3:(2:Int)≤s.length:=by omega
           replace HK:runS hexSet ds k:=HK.out
           have hkl2:=HK.1
           simp only [if_true] at PF
           clear hdd
           go_wp2
           go_loopw [12] (fun nv wz=>∃ n:Nat,n≤k∧nv=.int .i64 (n:Int)∧wz=wc) (fun nv _=>k + 1 - (intOf nv).toNat)
           case atStart=>exact ⟨0,by omega,rfl,by first | rfl | trivial⟩
           case round =>
             obtain ⟨n,hn,rfl,rfl⟩:=hrel
             obtain ⟨z,hz⟩:∃ z,Lib.indexByte hexSet (ds.getD n 0)=z:=⟨_,rfl⟩
             have IXn:=fun w=>IX hexSet n w
             rw [hz] at IXn
             unfold hexSet at IXn
             by_cases hnk:n < k
             · have g1:decide (0≤z)=true:=by have:=HK.2.1 n hnk;unfold inSet at this;rw [hz] at this;exact this
               have g2:decide ((n:Int) < (ds.length:Int))=true:=decide_eq_true (by omega)
               have g3:(n:Int) < (ds.length:Int):=by omega
               have g4:IntKind.i64.wrap ((n:Int) + 1)=(n:Int) + 1:=IntWalk.i64_in _ (by omega)
               clear hz IX PF HK
               go_wp2_with fail
               refine (IXn _).mono ?_
               rintro e w6 ⟨rfl,rfl⟩
               clear IXn
               go_wp2
               go_roundw
               case rel=>exact ⟨n + 1,by omega,by go_num,by first | rfl | trivial⟩
               case measure=>simp [intOf];omega
             · obtain rfl:n=k:=by omega
               have g5:¬ n=0:=by omega
               have g6:(n:Int)≤(ds.length:Int):=by omega
               have g7:(0:Int)≤n:=by omega
               by_cases hkl:n < ds.length
               · have g1:decide (0≤z)=false:=by have:=HK.2.2 hkl;unfold inSet at this;rw [hz] at this;exact this
                 have g2:decide ((n:Int) < (ds.length:Int))=true:=decide_eq_true (by omega)
                 have g3:(n:Int) < (ds.length:Int):=by omega
                 clear hz IX HK
                 go_wp2_with fail
                 refine (IXn _).mono ?_
                 rintro e w6 ⟨rfl,rfl⟩
                 clear IXn
                 go_wp2_with fail
                 refine (PF _ hpr).mono ?_
                 rintro e w7 ⟨rfl,p7⟩
                 have HE:=hpr.trans p7
                 clear PF
                 go_wp2
                 go_ret
                 exact ⟨by rw [HSG.out];rfl,HE⟩
               · have g2:decide ((n:Int) < (ds.length:Int))=false:=decide_eq_false (by omega)
                 clear hz IX HK IXn
                 go_wp2_with fail
                 refine (PF _ hpr).mono ?_
                 rintro e w7 ⟨rfl,p7⟩
                 have HE:=hpr.trans p7
                 clear PF
                 go_wp2
                 go_ret
                 exact ⟨by rw [HSG.out];rfl,HE⟩
     · obtain rfl:s0=s:=by rw [← hs];rfl
       clear hs
       have b1:((by8 s0 0:Nat):Int)≠45:=by omega
       have b2:((by8 s0 0:Nat):Int)≠43:=by omega
       have b3:(((by8 s0 0:Nat):Int) == 45)=false:=beq_eq_false_iff_ne.2 b1
       have b4:(((by8 s0 0:Nat):Int) == 43)=false:=beq_eq_false_iff_ne.2 b2
       go_upto_region 16 with (fail)
       go_cut [102] from 85 to 102 (fun v wx=>v=.bool hx∧wx=wr)
       case first =>
         have o32:=or32_u8 (by8 s0 1) (by8_lt _ _)
         clear IX PF HK HDS
         by_cases c1:1 < s0.length
         · have d1:decide ((1:Int) < (s0.length:Int))=true:=decide_eq_true (by omega)
           have d2:(1:Int) < (s0.length:Int):=by omega
           have d3:(0:Int) < (s0.length:Int):=by omega
           by_cases c2:by8 s0 0=48
           · obtain ⟨y,hy⟩:∃ y,by8 s0 1 ||| 32=y:=⟨_,rfl⟩
             rw [hy] at o32
             have HY:=Lib.hid hy
             clear hy
             go_wp2
             go_meet
             exact ⟨by rw [← HX.out];congr 1;unfold hexB;rw [HY.out];simp only [c1,c2,decide_true,Bool.true_and];rw [Bool.eq_iff_iff];simp;try omega,by first | rfl | trivial⟩
           · clear o32
             go_wp2
             go_meet
             exact ⟨by rw [← HX.out];congr 1;unfold hexB;simp [c1,c2],by first | rfl | trivial⟩
         · have d1:decide ((1:Int) < (s0.length:Int))=false:=decide_eq_false (by omega)
           clear o32
           go_wp2
           go_meet
           exact ⟨by rw [← HX.out];congr 1;unfold hexB;simp [c1],by first | rfl | trivial⟩
       case rest =>
         obtain ⟨rfl,rfl⟩:=hcut
         clear HX
         clear b1 b2 b3 b4 hne hl0 h9 h45 h43 CV
         cases hx with
         | false =>
           obtain rfl:ds=s0:=HDS.out
           replace HK:runS digSet ds k:=HK.out
           have hkl2:=HK.1
           simp only [Bool.false_eq_true,if_false] at PF
           go_wp2
           go_loopw [12] (fun nv wz=>∃ n:Nat,n≤k∧nv=.int .i64 (n:Int)∧wz=wc) (fun nv _=>k + 1 - (intOf nv).toNat)
           case atStart=>exact ⟨0,by omega,rfl,by first | rfl | trivial⟩
           case round =>
             obtain ⟨n,hn,rfl,rfl⟩:=hrel
             obtain ⟨z,hz⟩:∃ z,Lib.indexByte digSet (ds.getD n 0)=z:=⟨_,rfl⟩
             have IXn:=fun w=>IX digSet n w
             rw [hz] at IXn
             unfold digSet at IXn
             by_cases hnk:n < k
             · have g1:decide (0≤z)=true:=by have:=HK.2.1 n hnk;unfold inSet at this;rw [hz] at this;exact this
               have g2:decide ((n:Int) < (ds.length:Int))=true:=decide_eq_true (by omega)
               have g3:(n:Int) < (ds.length:Int):=by omega
               have g4:IntKind.i64.wrap ((n:Int) + 1)=(n:Int) + 1:=IntWalk.i64_in _ (by omega)
               clear hz IX PF HK
               go_wp2_with fail
               refine (IXn _).mono ?_
               rintro e w6 ⟨rfl,rfl⟩
               clear IXn
               go_wp2
               go_roundw
               case rel=>exact ⟨n + 1,by omega,by go_num,by first | rfl | trivial⟩
               case measure=>simp [intOf];omega
             · obtain rfl:n=k:=by omega
               have g5:¬ n=0:=by omega
               have g6:(n:Int)≤(ds.length:Int):=by omega
               have g7:(0:Int)≤n:=by omega
               by_cases hkl:n < ds.length
               · have g1:decide (0≤z)=false:=by have:=HK.2.2 hkl;unfold inSet at this;rw [hz] at this;exact this
                 have g2:decide ((n:Int) < (ds.length:Int))=true:=decide_eq_true (by omega)
                 have g3:(n:Int) < (ds.length:Int):=by omega
                 clear hz IX HK
                 go_wp2_with fail
                 refine (IXn _).mono ?_
                 rintro e w6 ⟨rfl,rfl⟩
                 clear IXn
                 go_wp2_with fail
                 refine (PF _ hpr).mono ?_
                 rintro e w7 ⟨rfl,p7⟩
                 have HE:=hpr.trans p7
                 clear PF
                 go_wp2
                 go_ret
                 exact ⟨by rw [HSG.out];rfl,HE⟩
               · have g2:decide ((n:Int) < (ds.length:Int))=false:=decide_eq_false (by omega)
                 clear hz IX HK IXn
                 go_wp2_with fail
                 refine (PF _ hpr).mono ?_
                 rintro e w7 ⟨rfl,p7⟩
                 have HE:=hpr.trans p7
                 clear PF
                 go_wp2
                 go_ret
                 exact ⟨by rw [HSG.out];rfl,HE⟩
         | true =>
           have hdd:s0.drop 2=ds:=HDS.out.symm
           have hs2:2≤s0.length:=by have:=hds0;rw [← hdd,List.length_drop] at this;omega
           have e3:sub s0 2 s0.length=ds:=by rw [← hdd];unfold sub;rw [List.take_of_length_le (by simp)]
           have hs3:(2:Int)≤s0.length:=by omega
           replace HK:runS hexSet ds k:=HK.out
           have hkl2:=HK.1
           simp only [if_true] at PF
           clear hdd
           go_wp2
           go_loopw [12] (fun nv wz=>∃ n:Nat,n≤k∧nv=.int .i64 (n:Int)∧wz=wc) (fun nv _=>k + 1 - (intOf nv).toNat)
           case atStart=>exact ⟨0,by omega,rfl,by first | rfl | trivial⟩
           case round =>
             obtain ⟨n,hn,rfl,rfl⟩:=hrel
             obtain ⟨z,hz⟩:∃ z,Lib.indexByte hexSet (ds.getD n 0)=z:=⟨_,rfl⟩
             have IXn:=fun w=>IX hexSet n w
             rw [hz] at IXn
             unfold hexSet at IXn
             by_cases hnk:n < k
             · have g1:decide (0≤z)=true:=by have:=HK.2.1 n hnk;unfold inSet at this;rw [hz] at this;exact this
               have g2:decide ((n:Int) < (ds.length:Int))=true:=decide_eq_true (by omega)
               have g3:(n:Int) < (ds.length:Int):=by omega
               have g4:IntKind.i64.wrap ((n:Int) + 1)=(n:Int) + 1:=IntWalk.i64_in _ (by omega)
               clear hz IX PF HK
               go_wp2_with fail
               refine (IXn _).mono ?_
               rintro e w6 ⟨rfl,rfl⟩
               clear IXn
               go_wp2
               go_roundw
               case rel=>exact ⟨n + 1,by omega,by go_num,by first | rfl | trivial⟩
               case measure=>simp [intOf];omega
             · obtain rfl:n=k:=by omega
               have g5:¬ n=0:=by omega
               have g6:(n:Int)≤(ds.length:Int):=by omega
               have g7:(0:Int)≤n:=by omega
               by_cases hkl:n < ds.length
               · have g1:decide (0≤z)=false:=by have:=HK.2.2 hkl;unfold inSet at this;rw [hz] at this;exact this
                 have g2:decide ((n:Int) < (ds.length:Int))=true:=decide_eq_true (by omega)
                 have g3:(n:Int) < (ds.length:Int):=by omega
                 clear hz IX HK
                 go_wp2_with fail
                 refine (IXn _).mono ?_
                 rintro e w6 ⟨rfl,rfl⟩
                 clear IXn
                 go_wp2_with fail
                 refine (PF _ hpr).mono ?_
                 rintro e w7 ⟨rfl,p7⟩
                 have HE:=hpr.trans p7
                 clear PF
                 go_wp2
                 go_ret
                 exact ⟨by rw [HSG.out];rfl,HE⟩
               · have g2:decide ((n:Int) < (ds.length:Int))=false:=decide_eq_false (by omega)
                 clear hz IX HK IXn
                 go_wp2_with fail
                 refine (PF _ hpr).mono ?_
                 rintro e w7 ⟨rfl,p7⟩
                 have HE:=hpr.trans p7
                 clear PF
                 go_wp2
                 go_ret
                 exact ⟨by rw [HSG.out];rfl,HE⟩
end Li
namespace Li
theorem cnum_ok {w:World} {cb hh:Nat} {v:Va} {av:Value} {vs:List Va} (h:CB w cb hh v av vs) (y:Va) (x:Nat)
   (NV:∀ w',Pur w w'→Calls Tryz.prog 112 #[.pointer (some ⟨hh,0,none⟩),y.v] w' fun e w''=>e=.returned (.tuple #[.float .f64 x,.int .i64 0])∧Pur w' w'') :
   Calls Tryz.prog 80 #[.pointer (some ⟨cb,0,none⟩),y.v] w fun e w'=>e=.returned (.float .f64 x)∧Pur w w':=by
 obtain ⟨k,n,t,r⟩:=y
 simp only [Va.v,Va.cells] at NV ⊢
 have PA:Pur w (w.alloc (.cells #[.int .i64 k,.float .f64 n,.string ⟨t.toArray⟩,.int .i64 r] 25)):=(Pur.refl w).alloc _
 have NB:=bk_new w (.cells #[.int .i64 k,.float .f64 n,.string ⟨t.toArray⟩,.int .i64 r] 25)
 have TT:∀ z:PW (w.alloc (.cells #[.int .i64 k,.float .f64 n,.string ⟨t.toArray⟩,.int .i64 r] 25)),Calls Tryz.prog 112 #[.pointer (some ⟨hh,0,none⟩),.agg #[.int .i64 k,.float .f64 n,.string ⟨t.toArray⟩,.int .i64 r]] z.to fun e w''=>e=.returned (.tuple #[.float .f64 x,.int .i64 0])∧Pur z.to w'':=fun z=>NV z.to (PA.trans z.pur)
 have q0:∀ z:PW (w.alloc (.cells #[.int .i64 k,.float .f64 n,.string ⟨t.toArray⟩,.int .i64 r] 25)),z.to.cell? ⟨w.heap.size,0,none⟩=some (.int .i64 k):=fun z=>bk_cell (bk_pur NB z.pur) 0 _ rfl
 have q1:∀ z:PW (w.alloc (.cells #[.int .i64 k,.float .f64 n,.string ⟨t.toArray⟩,.int .i64 r] 25)),z.to.cell? ⟨w.heap.size,1,none⟩=some (.float .f64 n):=fun z=>bk_cell (bk_pur NB z.pur) 1 _ rfl
 have q2:∀ z:PW (w.alloc (.cells #[.int .i64 k,.float .f64 n,.string ⟨t.toArray⟩,.int .i64 r] 25)),z.to.cell? ⟨w.heap.size,2,none⟩=some (.string ⟨t.toArray⟩):=fun z=>bk_cell (bk_pur NB z.pur) 2 _ rfl
 have q3:∀ z:PW (w.alloc (.cells #[.int .i64 k,.float .f64 n,.string ⟨t.toArray⟩,.int .i64 r] 25)),z.to.cell? ⟨w.heap.size,3,none⟩=some (.int .i64 r):=fun z=>bk_cell (bk_pur NB z.pur) 3 _ rfl
 have qc:∀ z:PW (w.alloc (.cells #[.int .i64 k,.float .f64 n,.string ⟨t.toArray⟩,.int .i64 r] 25)),z.to.cell? ⟨cb,0,none⟩=some (.pointer (some ⟨hh,0,none⟩)):=fun z=>bk_cell (bk_pur h.own (PA.trans z.pur)) 0 _ rfl
 clear h NB NV
 go_enter Tryz.func80,Tryz.ntmps80
 go_wp2_with fail
 refine wp_region_pur (by kernel_rfl) (by kernel_rfl) ?_
 repeat (go_big_quiet_step (((go_at_call 112;with_reducible exact quiet_pur (TT _)))))
 refine wpQuiet_nil ?_
 intro w1 h1
 have CK:=check_ok w1
 clear q0 q1 q2 q3 qc TT
 go_wp2_with fail
 refine CK.mono ?_
 rintro e w2 ⟨rfl,rfl⟩
 clear CK
 go_wp2
 go_ret
 exact ⟨rfl,PA.trans h1⟩
theorem cwhole_ok {w:World} {cb hh:Nat} {v:Va} {av:Value} {vs:List Va} (h:CB w cb hh v av vs) (i:Nat) (hi:i≤1000) (hn:vs.length≤1000) (x:Nat)
   (NV:∀ w',Pur w w'→Calls Tryz.prog 112 #[.pointer (some ⟨hh,0,none⟩),(argOf vs i).v] w' fun e w''=>e=.returned (.tuple #[.float .f64 x,.int .i64 0])∧Pur w' w'') :
   Calls Tryz.prog 60 #[.pointer (some ⟨cb,0,none⟩),.int .i64 (i:Int)] w fun e w'=>e=.returned (.float .f64 (wholeB x))∧Pur w w':=by
 have AG:=arg_ok h i hi hn
 have NM:=fun w' (hp:Pur w w')=>cnum_ok (h.pur hp) (argOf vs i) x fun w'' h2=>NV w'' (hp.trans h2)
 have WH:=fun w=>whole_any x w
 generalize argOf vs i=y at *
 obtain ⟨k,n,t,r⟩:=y
 simp only [Va.v,Va.cells] at AG NM
 clear NV h
 go_enter Tryz.func60,Tryz.ntmps60
 go_wp2_with fail
 refine AG.mono ?_
 rintro e w1 ⟨rfl,p1⟩
 go_wp2_with fail
 refine (NM _ p1).mono ?_
 rintro e w2 ⟨rfl,p2⟩
 go_wp2_with fail
 refine (WH _).mono ?_
 rintro e w3 ⟨rfl,rfl⟩
 go_wp2
 go_ret
 exact ⟨rfl,p1.trans p2⟩
theorem whole_nan:wholeB nanL=0:=by decide +kernel
/-- parseInt(t), out of what the reading of the bytes says -/
theorem plain_int {w0 w:World} {hh G cb:Nat} {K:Nat→Prop} {d:Hd} {v:Va} {av:Value} (t:List UInt8) (x:Nat) (h:At w0 hh G K w d) (hc:CB w cb hh v av [tx t]) (hK:K cb) (hKa:∀ b,av.ownBlock=some b→K b)
   (NQ:∀ w',Pur w w'→Calls Tryz.prog 112 #[.pointer (some ⟨hh,0,none⟩),Va.zero.v] w' fun e w''=>e=.returned (.tuple #[.float .f64 nanL,.int .i64 0])∧Pur w' w'')
   (PI:∀ w',Pur w w'→Calls Tryz.prog 83 #[.string ⟨t.toArray⟩,.float .f64 0] w' fun e w''=>e=.returned (.float .f64 x)∧Pur w' w'') :
   Calls Tryz.prog 36 #[.pointer (some ⟨cb,0,none⟩),.int .i64 5] w fun e w'=>e=.returned (⟨3,x,[],0⟩:Va).v∧At w0 hh G K w' d∧Kept K w w':=by
 have PA:Pur w (w.alloc (.cells #[.int .i64 0,.float .f64 0,.string ⟨#[]⟩,.int .i64 0] 25)):=(Pur.refl w).alloc _
 have NB:=bk_new w (.cells #[.int .i64 0,.float .f64 0,.string ⟨#[]⟩,.int .i64 0] 25)
 have A1:=h.keep PA w.heap.size (Nat.le_refl _) (bk_lt NB)
 have K1:=(h.pure PA).2
 have C1:=hc.pur PA
 have hKl:∀ b,K b→b < w.heap.size:=fun b hb=>by obtain ⟨s,-,-,-,-,h5⟩:=h.ex;exact (h5 b hb).1
 have hw0:=h.pur.size
 have AG:=arg_ok C1 0 (by decide) (show 1≤1000 by decide)
 have TT:=fun w' (hp:Pur (w.alloc (.cells #[.int .i64 0,.float .f64 0,.string ⟨#[]⟩,.int .i64 0] 25)) w')=>ctext_ok (C1.pur hp) t
 have WH:=fun w' (hp:Pur (w.alloc (.cells #[.int .i64 0,.float .f64 0,.string ⟨#[]⟩,.int .i64 0] 25)) w')=>cwhole_ok (C1.pur hp) 1 (by decide) (show 1≤1000 by decide) nanL fun w'' h2=>NQ w'' ((PA.trans hp).trans h2)
 rw [whole_nan] at WH
 have PI':=fun w' (hp:Pur (w.alloc (.cells #[.int .i64 0,.float .f64 0,.string ⟨#[]⟩,.int .i64 0] 25)) w')=>PI w' (PA.trans hp)
 simp only [show argOf [tx t] 0=tx t from rfl] at AG
 simp only [tx,Va.v,Va.cells,Int.natCast_zero] at AG TT
 replace AG:Calls Tryz.prog 65 #[.pointer (some ⟨cb,0,none⟩),.int .i64 0] (w.alloc (.cells #[.int .i64 0,.float .f64 0,.string ⟨#[]⟩,.int .i64 0] 25)) fun e w''=>e=.returned (.agg #[.int .i64 4,.float .f64 0,.string ⟨t.toArray⟩,.int .i64 0])∧Pur (w.alloc (.cells #[.int .i64 0,.float .f64 0,.string ⟨#[]⟩,.int .i64 0] 25)) w'':=AG
 have EN:=fun x w=>enumber_any x w
 simp only [Va.v,Va.cells]
 clear h hc C1 NQ PI
 go_enter Tryz.func36,Tryz.ntmps36
 go_wp2_with fail
 generalize w.alloc (.cells #[.int .i64 0,.float .f64 0,.string ⟨#[]⟩,.int .i64 0] 25)=wA at *
 refine AG.mono ?_
 rintro e w1 ⟨rfl,p1⟩
 have PB:Pur wA (w1.alloc (.cells #[.int .i64 4,.float .f64 0,.string ⟨t.toArray⟩,.int .i64 0] 25)):=p1.alloc _
 have NB2:=bk_new w1 (.cells #[.int .i64 4,.float .f64 0,.string ⟨t.toArray⟩,.int .i64 0] 25)
 have y0:=bk_cell NB2 0 _ rfl
 have y1:=bk_cell NB2 1 _ rfl
 have y2:=bk_cell NB2 2 _ rfl
 have y3:=bk_cell NB2 3 _ rfl
 have T2:=TT _ PB
 clear AG TT
 go_wp2_with fail
 refine T2.mono ?_
 rintro e w2 ⟨rfl,p2⟩
 have P2:=PB.trans p2
 have W2:=WH _ P2
 clear T2 WH y0 y1 y2 y3
 go_wp2_with fail
 refine W2.mono ?_
 rintro e w3 ⟨rfl,p3⟩
 have P3:=P2.trans p3
 have I3:=PI' _ P3
 clear W2 PI'
 go_wp2_with fail
 refine I3.mono ?_
 rintro e w4 ⟨rfl,p4⟩
 clear I3
 go_wp2_with fail
 refine (EN _ _).mono ?_
 rintro e w9 ⟨rfl,p9⟩
 have P9:=(P3.trans p4).trans p9
 obtain ⟨A9,K9⟩:=A1.pure P9
 have NB9:=bk_pur NB P9
 obtain ⟨⟨s0,s1⟩,⟨s2,s3⟩,⟨s4,s5⟩,⟨s6,s7⟩⟩:=st4_steps (y:=Va.zero) (x:=⟨3,x,[],0⟩) NB9
 have R8:=st4_at (y:=Va.zero) (x:=⟨3,x,[],0⟩) NB9
 obtain ⟨A10,K10⟩:=st4_fin (x:=⟨3,x,[],0⟩) (K:=K) A9 (.inr rfl) hw0 (fun k hk=>⟨.inl hk,by have:=hKl k hk;omega⟩)
 have HF:=Lib.hid (And.intro R8 (And.intro A10 ((K1.trans fun b hb=>K9 b (.inl hb)).trans K10)))
 clear R8 A10 K10 A9 K9 NB9 NB NB2 P9 P3 P2 p1 p2 p3 p4 p9 PB A1 K1 PA
 simp only [st4,Va.zero] at s0 s1 s2 s3 s4 s5 s6 s7 HF
 go_wp2
 refine bodyPost_ret (results_cell_row rfl _ _ w.heap.size 25 _ (0,0) _ rfl HF.out.1 Tryz.underlying25 rfl (by kernel_rfl)) rfl ⟨rfl,HF.out.2⟩
end Li
open Lx (w16)
namespace Li
open P10
def aP1:Hd:=(dI.array (jvs one)).2
def aP2:Hd:=(aP1.plain (-1)).2
def aP3:Hd:=(aP2.put 6 [0,97] (ob 5)).2
def aT:List UInt8:=[0,97,0,44,0,98,0,44]
def aC:List UInt8:=[0,44]
def aL:List Va:=(splitU aT aC (aT.length / 2 + 1) 0).map tx
def aP4:Hd:=(aP3.array aL).2
theorem a1:dI.array (jvs one)=((5,0),aP1):=by
 have:(dI.array (jvs one)).1=(5,0):=by decide +kernel
 unfold aP1
 rw [← this]
theorem a2:aP1.plain (-1)=((6,0),aP2):=by
 have:(aP1.plain (-1)).1=(6,0):=by decide +kernel
 unfold aP2
 rw [← this]
theorem a3:aP2.put 6 [0,97] (ob 5)=(0,aP3):=by
 have:(aP2.put 6 [0,97] (ob 5)).1=0:=by decide +kernel
 unfold aP3
 rw [← this]
theorem a4:aP3.array aL=((7,0),aP4):=by
 have:(aP3.array aL).1=(7,0):=by decide +kernel
 unfold aP4
 rw [← this]
theorem a5:aP3.items 6=none:=by
 have:(aP3.items 6).isNone=true:=by decide +kernel
 exact Option.isNone_iff_eq_none.1 this
theorem a6:aP3.keys 6=[[0,97]]:=by decide +kernel
theorem va_ext {x y:Va} (h1:x.kind=y.kind) (h2:x.num=y.num) (h3:x.text=y.text) (h4:x.ref=y.ref):x=y:=by
 cases x;cases y;simp at h1 h2 h3 h4;subst h1 h2 h3 h4;rfl
def vaEq (x y:Va):Bool:=decide (x.kind=y.kind) && (decide (x.num=y.num) && ((x.text == y.text) && decide (x.ref=y.ref)))
theorem vaEq.eq {x y:Va} (h:vaEq x y=true):x=y:=by
 unfold vaEq at h
 simp only [Bool.and_eq_true,decide_eq_true_eq] at h
 exact va_ext h.1 h.2.1 (eq_of_beq h.2.2.1) h.2.2.2
def vasEq:List Va→List Va→Bool
 | [],[]=>true
 | x :: r,y :: s=>vaEq x y && vasEq r s
 | _,_=>false
theorem vasEq.eq:∀ {r s:List Va},vasEq r s=true→r=s
 | [],[],_=>rfl
 | x :: r,y :: s,h=>by
   unfold vasEq at h
   rw [Bool.and_eq_true] at h
   rw [vaEq.eq h.1,vasEq.eq h.2]
 | [],y :: s,h=>by simp [vasEq] at h
 | x :: r,[],h=>by simp [vasEq] at h
theorem a7:aP3.own 6 [0,97]=(ob 5,true):=by
 have h1:vaEq (aP3.own 6 [0,97]).1 (ob 5)=true:=by decide +kernel
 have h2:(aP3.own 6 [0,97]).2=true:=by decide +kernel
 exact Prod.ext (vaEq.eq h1) h2
theorem some_items {d:Hd} {i:Int} {l:List Va} (h:(match d.items i with | some m=>vasEq m l | none=>false)=true):d.items i=some l:=by
 cases e:d.items i with
 | none=>rw [e] at h;cases h
 | some m=>rw [e] at h;rw [vasEq.eq h]
theorem a8:aP3.items 5=some (jvs one):=some_items (by decide +kernel)
theorem a9:aP3.kind 6≠3∧aP3.kind 5≠3:=by decide +kernel
theorem a10:aP4.items 7=some aL:=some_items (by decide +kernel)
theorem a11:isArr aP4 (ob 7)=true:=by decide +kernel
theorem aL_len:aL.length=3:=by decide +kernel
theorem l10text (l:List UInt8) (hl:l.length≤1000000) (w:World):Calls Tryz.prog 26 #[.string ⟨l.toArray⟩] w fun e w'=>e=.returned (.agg #[.int .i64 4,.float .f64 0,.string ⟨(wide8 l).toArray⟩,.int .i64 0])∧Pur w w':=by
 have O:=fun w=>Ft.of_any l w hl
 rw [show w16 l=wide8 l from rfl] at O
 have P:=(Pur.refl w).alloc (.cells #[.int .i64 0,.float .f64 0,.string ⟨#[]⟩,.int .i64 0] 25)
 have B:=bk_new w (.cells #[.int .i64 0,.float .f64 0,.string ⟨#[]⟩,.int .i64 0] 25)
 go_enter Tryz.func26,Tryz.ntmps26
 go_wp2_with fail
 refine (O _).mono ?_
 rintro e w1 ⟨rfl,h1⟩
 have E:=bk_pur B h1
 have s0:=bk_cell E 0 _ rfl
 have s1:=bk_cell E 1 _ rfl
 have s2:=bk_cell E 2 _ rfl
 have s3:=bk_cell E 3 _ rfl
 have f0:=bk_free E 0
 have f1:=bk_free E 1
 have f2:=bk_free E 2
 have f3:=bk_free E 3
 have PZ:=P.trans h1
 clear O P B E h1
 go_wp2
 refine bodyPost_ret (v:=.agg #[.int .i64 4,.float .f64 0,.string ⟨(wide8 l).toArray⟩,.int .i64 0]) (by simp [results,Tryz.results26,go_sem,s0,s1,s2,s3]) rfl ⟨rfl,?_⟩
 repeat (first | with_reducible exact PZ | with_reducible refine Pur.setCell ?_ (Nat.le_refl _) _)
theorem n1_any {w:World} (h:Cv.CW w):Calls Tryz.prog 128 #[.string ⟨([0,49]:List UInt8).toArray⟩] w fun e w'=>e=.returned (.float .f64 one)∧Pur w w' :=
 Nm.number_dec (l:=[0,49]) (s:=[49]) (by decide) (by decide +kernel) (by decide +kernel) (Us.dec_int (m:=1) (by decide +kernel) (by decide) (by decide) (by decide +kernel) (by decide +kernel) (by decide +kernel)) h.k.n
theorem nq_any {w:World} (h:Cv.CW w):Calls Tryz.prog 128 #[.string ⟨(wide8 [63]).toArray⟩] w fun e w'=>e=.returned (.float .f64 nanL)∧Pur w w' :=
 Nm.number_rest (Hi:=Hi0) (Lo:=Lo0) (T:=T0) (l:=wide8 [63]) (s:=[63]) (by decide) (by decide +kernel) (by decide) (by decide +kernel) (fun h=>absurd h (by decide +kernel)) (fun _=>rfl) h.k.n
theorem pf31 {w:World} (h:Cv.CW w):Calls Tryz.prog 114 #[.string ⟨([48,120,49,70,112,48]:List UInt8).toArray⟩,.int .i64 64] w fun e w'=>e=.returned (.tuple #[.float .f64 4629418941960159232,.nilIface])∧Pur w w':=by
 have:=Us.hex_adv (Hi:=P10.Hi0) (Lo:=P10.Lo0) (T:=P10.T0) (s:=[48,120,49,70]) (by decide +kernel) (by decide)
 rw [show (Us.hexV [48,120,49,70]).1=4629418941960159232 by decide +kernel,show (Us.hexV [48,120,49,70]).2=false by decide +kernel] at this
 exact Us.parse_ok this (by decide) h.k.n.fw
end Li
section
variable {P:Program} {ops:Array Oper} {Q:Exit→Act→World→Prop} {md:Region.Mode} {T:World→Prop} {d:Nat}
theorem wpAnyU_two {i j:Nat} {o o2:Oper} {f:Nat} {s:Array Bool} {a:Act} {w:World} (hr:Region.ready md ops s=[i,j]) (ho:ops[i]?=some o) (ho2:ops[j]?=some o2)
   (h:∀ K':Act→World→Prop,Shut (∀ a w,T w→(T w→wpAnyU P md ops Q T d f (s.setIfInBounds i true) a w)→K' a w)→if Region.wanted o (yielded ops a.tmps)=true then Oper.wp P o a w K' Q else K' (a.put o.dst undef) w)
   (h2:∀ K':Act→World→Prop,Shut (∀ a w,T w→(T w→wpAnyU P md ops Q T d f (s.setIfInBounds j true) a w)→K' a w)→if Region.wanted o2 (yielded ops a.tmps)=true then Oper.wp P o2 a w K' Q else K' (a.put o2.dst undef) w) :
   wpAnyU P md ops Q T d (f + 1) s a w:=by
 refine ⟨fun h0=>(by rw [hr] at h0;cases h0),fun k hk=>?_⟩
 rw [hr] at hk
 rcases List.mem_cons.1 hk with e | e
 · subst e
   exact wpOp_step ho (fun K' hK=>h K' (fun a w hT hW=>hK a w ⟨fun _=>hT,hW hT⟩))
 · have:k=j:=by simpa using e
   subst this
   exact wpOp_step ho2 (fun K' hK=>h2 K' (fun a w hT hW=>hK a w ⟨fun _=>hT,hW hT⟩))
end
end Go.Proofs.YtgdolcoiihagfaaGreatDoor
