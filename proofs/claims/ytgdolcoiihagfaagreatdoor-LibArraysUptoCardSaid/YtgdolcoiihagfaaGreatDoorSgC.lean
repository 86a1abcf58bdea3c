/- Layer 4: the number of a wide text that is one, out of what atof64 answers. Layer 4: the number of every wide text: it ends, and says one and the same. Layer 4: the number of every wide text: it ends, and says one and the same; all together. -/
import Derived.Test.YtgdolcoiihagfaaGreatDoorNmZ
import Derived.Test.YtgdolcoiihagfaaGreatDoorPnX
import Derived.Test.YtgdolcoiihagfaaGreatDoorNmQ
import Derived.Test.YtgdolcoiihagfaaGreatDoorSgA
namespace Go.Proofs.YtgdolcoiihagfaaGreatDoor
open Go Go.RowKit
set_option linter.all false
set_option maxRecDepth 100000
set_option maxHeartbeats 100000000
namespace Nm
open Us (FW AD)
structure NW (Hi Lo T:Nat→Nat) (w:World):Prop where
 fw:FW Hi Lo T w
 er:∃ ev,w.cell? ⟨7,0,none⟩=some ev∧(ev=.nilIface∨∃ te pe,ev=.iface te pe)
theorem NW.pur {Hi Lo T:Nat→Nat} {w w':World} (h:NW Hi Lo T w) (hp:Pur w w'):NW Hi Lo T w':=by
 obtain ⟨ev,h1,h2⟩:=h.er
 exact ⟨h.fw.pur hp,ev,Us.cellp h1 hp,h2⟩
theorem pf_any {Hi Lo T:Nat→Nat} {l:List UInt8} {x:Nat} {b:Bool} (hA:AD Hi Lo T l x b) (hl:l.length≤1000000) {w:World} (hW:NW Hi Lo T w) :
   Calls Tryz.prog 114 #[.string ⟨l.toArray⟩,.int .i64 64] w fun e w'=>(e=.returned (.tuple #[.float .f64 x,.nilIface])∨∃ te pe,e=.returned (.tuple #[.float .f64 x,.iface te pe]))∧Pur w w':=by
 cases b with
 | false =>
   refine (Us.parse_ok hA hl hW.fw).mono ?_
   rintro e w' ⟨h1,h2⟩
   exact ⟨.inl h1,h2⟩
 | true =>
   obtain ⟨ev,h1,h2⟩:=hW.er
   refine (Us.parse_range hA hl hW.fw h1 h2).mono ?_
   rintro e w' ⟨h1,h2⟩
   exact ⟨.inr h1,h2⟩
theorem number_dec {Hi Lo T:Nat→Nat} {l s:List UInt8} {x:Nat} {b:Bool} {w:World} (hl:l.length≤1000000) (hp:plain l=some s) (hx:decimal s=true) (hA:AD Hi Lo T s x b) (hW:NW Hi Lo T w) :
   Calls Tryz.prog 128 #[.string ⟨l.toArray⟩] w fun e w'=>e=.returned (.float .f64 x)∧Pur w w':=by
 have PL:=plain_any l w (by omega)
 have hsl:=plain_len hp
 have PF:∀ w',Pur w w'→_:=fun w' h=>pf_any hA (by omega) (hW.pur h)
 rw [hp] at PL
 unfold PlainPost at PL
 obtain ⟨-,-,-,-,h0,hd,hnx⟩:=dec_whole hx
 have DE:=fun w=>decimal_any s w (by omega)
 rw [hx] at DE
 have x6:(0:Int) < s.length:=by omega
 have hne:¬ s=[]:=by intro e;rw [e] at h0;simp at h0
 have hne2:s.isEmpty=false:=by cases s with | nil=>exact absurd rfl hne | cons _ _=>rfl
 have hb1:=by8_lt s 1
 have ho:=u8_or_nat (by8 s 1) 32 hb1 (by decide)
 rw [show ((32:Nat):Int)=32 from rfl] at ho
 have d1:((by8 s 0:Int) == 43)=false:=by rw [beq_eq_false_iff_ne];have:=hd 43 (by simp);omega
 have d2:((by8 s 0:Int) == 45)=false:=by rw [beq_eq_false_iff_ne];have:=hd 45 (by simp);omega
 have hinf:(s == [73,110,102,105,110,105,116,121])=false:=by
   rw [beq_eq_false_iff_ne];intro e
   exact hd 73 (by simp) (by rw [e];rfl)
 have hinf2:¬ s=[73,110,102,105,110,105,116,121]:=by simpa using hinf
 obtain ⟨o,hO⟩:∃ o,(by8 s 1 ||| 32)=o:=⟨_,rfl⟩
 rw [hO] at ho hnx
 clear hp hsl hx hA hW hd hO
 rcases t1:decide ((2:Int) < (s.length:Int)) with _ | _ <;> rcases t2:((by8 s 0:Int) == 48) with _ | _ <;> rcases t3:((o:Int) == 120) with _ | _
 all_goals
   first
     | (exfalso;apply hnx;rw [beq_iff_eq] at t2 t3;omega)
     | (skip
        first
          | (have x1:(1:Int) < s.length:=by rw [decide_eq_true_eq] at t1;omega)
          | skip
        clear hnx
        go_enter Tryz.func128,Tryz.ntmps128
        go_wp2_with fail
        refine PL.mono ?_
        rintro e w1 ⟨rfl,p1⟩
        have PF1:=PF w1 p1
        clear PF PL
        go_wp2_with fail
        refine (DE _).mono ?_
        rintro e w2 ⟨rfl,rfl⟩
        go_wp2_with fail
        refine PF1.mono ?_
        rintro e w2 ⟨he,p2⟩
        rcases he with rfl | ⟨te,pe,rfl⟩
        all_goals
          go_wp2
          go_ret
          exact ⟨rfl,p1.trans p2⟩)
end Nm
namespace Nm
open Us (FW AD)
def sgnAt (s:List UInt8):Nat:=if by8 s 0=43∨by8 s 0=45 then 1 else 0
def body (s:List UInt8):List UInt8:=sub s (sgnAt s) s.length
def isNum (s:List UInt8):Bool:=(body s == infW) || decimal (body s)
theorem mnan_any2 (w:World):Calls Tryz.prog 53 #[] w fun e w'=>e=.returned (.float .f64 9221120237041090561)∧w=w':=by
 have h6:=@run_callFunc_extern Tryz.prog 105 _ Go.Extern.MathFloatBits.float64frombits Tryz.func105 (by kernel_rfl) (by kernel_rfl) (by kernel_rfl) (by kernel_rfl)
 have fb:∀ (n:Int) (w:World),(Go.Extern.MathFloatBits.float64frombits #[.int .u64 n]).run Tryz.prog w=.ok (.float .f64 n.toNat) w:=fun n w=>rfl
 go_enter Tryz.func53,Tryz.ntmps53
 go_wp2
 go_ret
 exact ⟨rfl,rfl⟩
theorem number_rest {Hi Lo T:Nat→Nat} {l s:List UInt8} {x:Nat} {w:World} (hl:l.length≤1000000) (hp:plain l=some s) (h0:0 < s.length) (hx:isHex s=false) (hyes:isNum s=true→∃ b,AD Hi Lo T s x b) (hno:isNum s=false→x=9221120237041090561) (hW:NW Hi Lo T w) :
   Calls Tryz.prog 128 #[.string ⟨l.toArray⟩] w fun e w'=>e=.returned (.float .f64 x)∧Pur w w':=by
 have PL:=plain_any l w (by omega)
 have hsl:=plain_len hp
 have hsl2:s.length≤1000000:=by omega
 have PF:isNum s=true→∀ w',Pur w w'→_:=fun hy w' h=>pf_any (hyes hy).choose_spec (by omega) (hW.pur h)
 rw [hp] at PL
 unfold PlainPost at PL
 have x6:(0:Int) < s.length:=by omega
 have x7:(1:Int)≤s.length:=by omega
 have hne:¬ s=[]:=by intro e;rw [e] at h0;simp at h0
 have hne2:s.isEmpty=false:=by cases s with | nil=>exact absurd rfl hne | cons _ _=>rfl
 have hb1:=by8_lt s 1
 have ho:=u8_or_nat (by8 s 1) 32 hb1 (by decide)
 rw [show ((32:Nat):Int)=32 from rfl] at ho
 have h120:(by8 s 1 ||| 32)=120→by8 s 1=120∨by8 s 1=88:=by
   have hall:∀ n,n < 256→(n ||| 32)=120→n=120∨n=88:=by decide +kernel
   exact hall _ hb1
 have hsub2:2 < s.length→sub s 2 s.length=s.drop 2:=fun h=>by unfold sub;rw [List.take_of_length_le (by rw [List.length_drop];omega)]
 have RU:=fun w=>run_any (sub s 2 s.length) hexes w (by unfold sub;rw [List.length_take];omega)
 have DE:=fun w=>decimal_any (body s) w (by unfold body sub;rw [List.length_take];omega)
 have hnum:isNum s=((body s == [73,110,102,105,110,105,116,121]) || decimal (body s)):=rfl
 have hbody:body s=sub s (sgnAt s) s.length:=rfl
 have hsg:sgnAt s=if by8 s 0=43∨by8 s 0=45 then 1 else 0:=rfl
 generalize body s=B at *
 generalize sgnAt s=st at *
 have hsA:sub s 0 s.length=s:=sub_all s (Nat.le_refl _)
 clear hp hsl hyes hW
 go_enter Tryz.func128,Tryz.ntmps128
 go_wp2_with fail
 refine PL.mono ?_
 rintro e w1 ⟨rfl,p1⟩
 have PF1:=fun hy=>PF hy w1 p1
 clear PF PL
 go_upto_region 6 with (fail)
 go_cut [42] from 20 to 42 (fun v wx=>v=.bool false∧wx=w1)
 case first =>
   clear PF1 DE hnum hno hbody hsg
   unfold isHex at hx
   rw [decide_eq_false_iff_not] at hx
   rcases t1:decide ((2:Int) < (s.length:Int)) with _ | _
   · clear hx RU
     go_wp2
     go_meet
     exact ⟨rfl,rfl⟩
   rcases t2:((by8 s 0:Int) == 48) with _ | _
   · clear hx RU
     go_wp2
     go_meet
     exact ⟨rfl,rfl⟩
   have x1:(2:Int) < s.length:=by simpa using t1
   have x5:(1:Int) < s.length:=by omega
   obtain ⟨o,hO⟩:∃ o,(by8 s 1 ||| 32)=o:=⟨_,rfl⟩
   rw [hO] at ho h120
   rcases t3:((o:Int) == 120) with _ | _
   · clear hx RU h120 hO
     go_wp2
     go_meet
     exact ⟨rfl,rfl⟩
   obtain rfl:o=120:=by rw [beq_iff_eq] at t3;omega
   have t4:((runGo hexes (sub s 2 s.length):Int) == (s.length:Int) - 2)=false:=by
     rw [beq_eq_false_iff_ne]
     intro e
     rw [beq_iff_eq] at t2
     exact hx ⟨by omega,by omega,h120 rfl,by rw [← hsub2 (by omega)];omega⟩
   have w2:IntKind.i64.wrap ((s.length:Int) - 2)=(s.length:Int) - 2:=IntWalk.i64_in _ (by omega)
   generalize runGo hexes (sub s 2 s.length)=rg at *
   clear hx h120 hO
   go_wp2_with fail
   refine (RU _).mono ?_
   rintro e w2 ⟨rfl,rfl⟩
   go_wp2
   go_meet
   exact ⟨rfl,rfl⟩
 case rest =>
 obtain ⟨rfl,rfl⟩:=hcut
 clear RU h120 hx
 go_upto_region 10 with (fail)
 obtain ⟨z,hz⟩:∃ z,(((by8 s 0:Int) == 43) || ((by8 s 0:Int) == 45))=z:=⟨_,rfl⟩
 go_cut [58] from 51 to 58 (fun v wx=>v=.bool z∧wx=wc)
 case first =>
   clear PF1 DE hnum hno hbody hsg
   rcases t1:((by8 s 0:Int) == 43) with _ | _ <;> rcases t2:((by8 s 0:Int) == 45) with _ | _
   all_goals
     rw [t1,t2] at hz
     subst hz
     go_wp2
     go_meet
     exact ⟨rfl,rfl⟩
 case rest =>
 obtain ⟨rfl,rfl⟩:=hcut
 go_upto_if 58 with (fail)
 go_cut [7] from 59 to 60 (fun v wx=>v=.string ⟨B.toArray⟩∧wx=wc)
 case first =>
   clear PF1 DE hnum hno
   cases z with
   | true =>
     have hs1:st=1:=by
       rw [hsg,if_pos]
       rw [Bool.or_eq_true,beq_iff_eq,beq_iff_eq] at hz
       omega
     have HB:=Lib.hid (show B=sub s 1 s.length by rw [hbody,hs1])
     clear hbody hsg hz hs1
     go_wp2
     go_meet
     exact ⟨by rw [HB.out],rfl⟩
   | false =>
     have hs1:st=0:=by
       rw [hsg,if_neg]
       rw [Bool.or_eq_false_iff,beq_eq_false_iff_ne,beq_eq_false_iff_ne] at hz
       omega
     have HB:=Lib.hid (show B=s by rw [hbody,hs1,hsA])
     clear hbody hsg hz hs1
     go_wp2
     go_meet
     exact ⟨by rw [HB.out],rfl⟩
 case rest =>
 obtain ⟨rfl,rfl⟩:=hcut
 clear hbody hsg hz
 rcases hinf:(B == [73,110,102,105,110,105,116,121]) with _ | _
 · rw [hinf,Bool.false_or] at hnum
   rw [← hnum] at DE
   have hinf2:¬ B=[73,110,102,105,110,105,116,121]:=by simpa using hinf
   rcases hy:isNum s with _ | _
   · rw [hy] at DE hno
     have hxn:=Lib.hid (hno rfl)
     have NA:=fun w=>mnan_any2 w
     clear PF1 hno hnum hy
     go_wp2_with fail
     refine (DE _).mono ?_
     rintro e w2 ⟨rfl,rfl⟩
     go_wp2_with fail
     refine (NA _).mono ?_
     rintro e w2 ⟨rfl,rfl⟩
     go_wp2
     go_ret
     exact ⟨by rw [hxn.out];rfl,p1⟩
   · rw [hy] at DE
     have PF1:=PF1 hy
     clear hno hnum hy
     go_wp2_with fail
     refine (DE _).mono ?_
     rintro e w2 ⟨rfl,rfl⟩
     go_wp2_with fail
     refine PF1.mono ?_
     rintro e w2 ⟨he,p2⟩
     rcases he with rfl | ⟨te,pe,rfl⟩
     all_goals
       go_wp2
       go_ret
       exact ⟨rfl,p1.trans p2⟩
 · rw [hinf,Bool.true_or] at hnum
   have PF1:=PF1 hnum
   have hinf2:B=[73,110,102,105,110,105,116,121]:=by simpa using hinf
   clear hno hnum DE
   go_wp2_with fail
   refine PF1.mono ?_
   rintro e w2 ⟨he,p2⟩
   rcases he with rfl | ⟨te,pe,rfl⟩
   all_goals
     go_wp2
     go_ret
     exact ⟨rfl,p1.trans p2⟩
end Nm
namespace Nm
open Us (FW AD)
end Nm
end Go.Proofs.YtgdolcoiihagfaaGreatDoor
