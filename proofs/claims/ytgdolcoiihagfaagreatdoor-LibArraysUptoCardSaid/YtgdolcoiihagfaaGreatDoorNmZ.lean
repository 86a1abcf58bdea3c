/- The library's reading of every number of layer 4: it ends, and says one and the same. The library's reading of a whole number of few digits: that number. -/
import Derived.Test.YtgdolcoiihagfaaGreatDoorHxX
import Derived.Test.YtgdolcoiihagfaaGreatDoorRf2
import Derived.Test.YtgdolcoiihagfaaGreatDoorNmP
namespace Go.Proofs.YtgdolcoiihagfaaGreatDoor
open Go Go.RowKit
set_option linter.all false
set_option maxRecDepth 100000
set_option maxHeartbeats 100000000
namespace Us
theorem step_nm {hex:Bool} {c:Nat} {s t:Rf.Rs} (hs:Rf.step hex c s=some t):(s.nm≤s.nd→t.nm≤t.nd)∧t.nd≤s.nd + 1:=by
 unfold Rf.step at hs
 have hp:∀ d z,(s.nm≤s.nd→(Rf.put hex d z s).nm≤(Rf.put hex d z s).nd)∧(Rf.put hex d z s).nd≤s.nd + 1:=fun d z=>by
   unfold Rf.put;split <;> simp only <;> omega
 split at hs
 · split at hs <;> cases hs
   exact ⟨fun h=>h,by simp only;omega⟩
 · split at hs
   · split at hs <;> cases hs
     · exact ⟨fun h=>h,by simp only;omega⟩
     · exact hp _ _
   · split at hs <;> cases hs
     exact hp _ _
theorem go_nm (l:List UInt8) (hex:Bool):∀ f s,s.nm≤s.nd→(Rf.go l hex f s).nm≤(Rf.go l hex f s).nd
 | 0,s,h=>h
 | f + 1,s,h=>by
   rw [Rf.go]
   split
   · cases hs:Rf.step hex (by8 l s.i) s with
     | none=>exact h
     | some t=>exact go_nm l hex f t ((step_nm hs).1 h)
   · exact h
theorem digs_inv (l:List UInt8) (hex:Bool) (i:Nat):Rf.Inv hex (Rf.digs l hex i)∧(Rf.digs l hex i).nm≤(Rf.digs l hex i).nd :=
 ⟨(Rf.go_inv l hex (l.length + 1) (Rf.start i) (Rf.start_inv _ _)).1,go_nm l hex (l.length + 1) (Rf.start i) (Nat.le_refl _)⟩
theorem atof_hexf {Hi Lo T:Nat→Nat} {l:List UInt8} {m:Nat} {p:Int} {tr:Bool} (hR:∀ w,Calls Tryz.prog 222 #[.string ⟨l.toArray⟩] w fun e w'=>e=.returned (.tuple #[.int .u64 (m:Int),.int .i64 p,.bool false,.bool tr,.bool true,.int .i64 (l.length:Int),.bool true])∧w=w')
   (hm:m < 18446744073709551616) (hp0:0≤p) (hp:p≤10000000) (hl:l.length≤1000000) (h0:0 < l.length) (h48:by8 l 0=48):AD Hi Lo T l (Hx.hexF m p tr).1 (Hx.hexF m p tr).2:=by
 have SP:=fun w=>Rf.special_no l w h0 (by omega) (by omega) (by omega) (by omega) (by omega) (by omega)
 have HX:=fun s w (h:Rf.F64 w)=>Hx.hexf_any s m p tr w h hm hp0 hp
 generalize Hx.hexF m p tr=B at *
 intro w hW
 have hF:=hW.f
 clear h48 hm hp0 hp hW
 unfold errV at *
 obtain ⟨x,b⟩:=B
 cases b
 all_goals
   simp only [if_true,Bool.false_eq_true,if_false] at HX ⊢
   go_enter Tryz.func195,Tryz.ntmps195
   go_wp2_with fail
   refine (SP _).mono ?_
   rintro e w1 ⟨rfl,rfl⟩
   go_wp2_with fail
   refine (hR _).mono ?_
   rintro e w1 ⟨rfl,rfl⟩
   go_wp2_with fail
   refine (HX _ _ hF).mono ?_
   rintro e w1 ⟨rfl,p1⟩
   go_wp2
   go_ret3
   exact ⟨rfl,p1⟩
def hexV (s:List UInt8):Nat × Bool:=Hx.hexF (Rf.digs (s ++ [112,48]) true 2).mant (Rf.pow (s ++ [112,48]) true 2) (Rf.digs (s ++ [112,48]) true 2).trunc
theorem hex_adv {Hi Lo T:Nat→Nat} {s:List UInt8} (h:Nm.isHex s=true) (hl:s.length≤100000):AD Hi Lo T (s ++ [112,48]) (hexV s).1 (hexV s).2:=by
 obtain ⟨hW,hH,hS,hU,h48⟩:=Nm.hex_whole h
 have hlen:(s ++ [112,48]).length=s.length + 2:=by rw [List.length_append];rfl
 have hsl:2 < s.length:=by unfold Nm.isHex at h;rw [decide_eq_true_eq] at h;exact h.1
 have hf0:Rf.from0 (s ++ [112,48])=2:=by unfold Rf.from0;rw [hS,hH];rfl
 have hng:Rf.neg (s ++ [112,48])=false:=by unfold Rf.neg;rw [h48];rfl
 obtain ⟨inv,hnm⟩:=digs_inv (s ++ [112,48]) true 2
 have hi:(Rf.digs (s ++ [112,48]) true 2).i=s.length∧(Rf.digs (s ++ [112,48]) true 2).dot=false:=Nm.hex_digs h
 have a3:by8 (s ++ [112,48]) (s.length + 1)=48:=by rw [Nm.by8_app2];rfl
 have hex:Rf.exPart (s ++ [112,48]) s.length=0:=by
   have hat:Rf.exAt (s ++ [112,48]) s.length=s.length + 1:=by unfold Rf.exAt;rw [a3];rfl
   unfold Rf.exPart
   rw [hlen,if_pos (by omega)]
   unfold Rf.exOf
   rw [a3,if_neg (by decide),hat,hlen,Rf.exGo,hlen,if_pos (by omega),a3,if_pos (by decide),Rf.exGo,hlen,if_neg (by omega)]
   rfl
 have hpw:0≤Rf.pow (s ++ [112,48]) true 2∧Rf.pow (s ++ [112,48]) true 2≤10000000:=by
   have hnd:=inv.nd
   unfold Rf.pow
   simp only
   split
   · omega
   · unfold Rf.dpOf
     rw [hi.1,hex,hi.2]
     simp only [Bool.false_eq_true,if_false,if_true]
     rw [hi.1] at hnd
     omega
 refine atof_hexf (tr:=(Rf.digs (s ++ [112,48]) true 2).trunc) (fun w=>?_) inv.lt64 hpw.1 hpw.2 (by omega) (by omega) h48
 refine (Rf.readFloat_hex (s ++ [112,48]) w (by omega) (by omega) hU (by rw [hS,hH,hf0];exact hW) (by rw [hS];exact hH)).mono ?_
 rintro e w' hp
 unfold Rf.RfPost at hp
 rw [hS,hH,hf0,hng] at hp
 exact hp
end Us
namespace Us
def sg (n:Bool) (x:Nat):Nat:=if n then Op.negFloat .f64 x else x
theorem exact_int (m:Nat) (n:Bool) (w:World) (hm:m < 4503599627370496) (hF:Rf.F64 w) :
   Calls Tryz.prog 232 #[.int .u64 (m:Int),.int .i64 0,.bool n] w fun e' w'=>e'=.returned (.tuple #[.float .f64 (sg n (floatOfInt .f64 (m:Int))),.bool true])∧w=w':=by
 have d1:((m:Int) / 4503599627370496 != 0)=false:=by rw [bne_eq_false_iff_eq];omega
 have c0:=hF.c0
 obtain ⟨x,hx⟩:∃ x,floatOfInt .f64 (m:Int)=x:=⟨_,rfl⟩
 have nf:∀ w:World,(Op.unary .neg (.float .f64 x)).run Tryz.prog w=.ok (.float .f64 (Op.negFloat .f64 x)) w:=fun w=>rfl
 unfold sg
 cases n
 all_goals
   simp only [if_true,Bool.false_eq_true,if_false]
   rw [hx]
   generalize Op.negFloat .f64 x=y at *
   clear hm hF
   go_enter Tryz.func232,Tryz.ntmps232
   go_wp2
   go_ret2
   exact ⟨rfl,rfl⟩
/-- a whole number below 2^52, with its sign -/
theorem atof_int {Hi Lo T:Nat→Nat} {l:List UInt8} {m:Nat} {n:Bool} (hm:m < 4503599627370496)
   (SP:∀ w,Calls Tryz.prog 221 #[.string ⟨l.toArray⟩] w fun e w'=>e=.returned (.tuple #[.float .f64 0,.int .i64 0,.bool false])∧w=w')
   (hR:∀ w,Calls Tryz.prog 222 #[.string ⟨l.toArray⟩] w fun e w'=>e=.returned (.tuple #[.int .u64 (m:Int),.int .i64 0,.bool n,.bool false,.bool false,.int .i64 (l.length:Int),.bool true])∧w=w') :
   AD Hi Lo T l (sg n (floatOfInt .f64 (m:Int))) false:=by
 intro w hW
 have EX:=fun w h=>exact_int m n w hm h
 have hF:=hW.f
 have co:=hW.op
 have BF:∀ w,Calls Tryz.prog 230 #[.bool false] w fun e w'=>e=.returned (.int .u64 0)∧w=w':=fun w=>bool2_any false w
 have BT:∀ w,Calls Tryz.prog 230 #[.bool true] w fun e w'=>e=.returned (.int .u64 1)∧w=w':=fun w=>bool2_any true w
 by_cases z:m=0
 · subst z
   have h6:=@run_callFunc_extern Tryz.prog 231 _ Go.Extern.MathFloatBits.float64frombits Tryz.func231 (by kernel_rfl) (by kernel_rfl) (by kernel_rfl) (by kernel_rfl)
   have fb:∀ (n:Int) (w:World),(Go.Extern.MathFloatBits.float64frombits #[.int .u64 n]).run Tryz.prog w=.ok (.float .f64 n.toNat) w:=fun n w=>rfl
   have b0:bits .or .u64 0 0=0:=by decide
   have hz:floatOfInt .f64 ((0:Nat):Int)=0:=by decide
   have hR2:∀ w,Calls Tryz.prog 222 #[.string ⟨l.toArray⟩] w fun e w'=>e=.returned (.tuple #[.int .u64 0,.int .i64 0,.bool n,.bool false,.bool false,.int .i64 (l.length:Int),.bool true])∧w=w':=hR
   rw [hz]
   clear EX hW hm hz
   cases n
   · rw [show sg false 0=0 from rfl]
     clear BT
     go_enter Tryz.func195,Tryz.ntmps195
     go_wp2_with fail
     refine (SP _).mono ?_
     rintro e w1 ⟨rfl,rfl⟩
     go_wp2_with fail
     refine (hR2 _).mono ?_
     rintro e w1 ⟨rfl,rfl⟩
     go_wp2_with fail
     refine (BF _).mono ?_
     rintro e w1 ⟨rfl,rfl⟩
     go_wp2
     go_ret3
     exact ⟨rfl,Pur.refl _⟩
   · rw [show sg true 0=9223372036854775808 by decide]
     clear BF
     go_enter Tryz.func195,Tryz.ntmps195
     go_wp2_with fail
     refine (SP _).mono ?_
     rintro e w1 ⟨rfl,rfl⟩
     go_wp2_with fail
     refine (hR2 _).mono ?_
     rintro e w1 ⟨rfl,rfl⟩
     go_wp2_with fail
     refine (BT _).mono ?_
     rintro e w1 ⟨rfl,rfl⟩
     go_wp2
     go_ret3
     exact ⟨rfl,Pur.refl _⟩
 have d1:((m:Int) == 0)=false:=by rw [beq_eq_false_iff_ne];omega
 generalize sg n (floatOfInt .f64 (m:Int))=x at *
 clear hW hm z
 cases n
 · clear BT
   go_enter Tryz.func195,Tryz.ntmps195
   go_wp2_with fail
   refine (SP _).mono ?_
   rintro e w1 ⟨rfl,rfl⟩
   go_wp2_with fail
   refine (hR _).mono ?_
   rintro e w1 ⟨rfl,rfl⟩
   go_wp2_with fail
   refine (BF _).mono ?_
   rintro e w1 ⟨rfl,rfl⟩
   go_wp2_with fail
   refine (EX _ hF).mono ?_
   rintro e w1 ⟨rfl,rfl⟩
   go_wp2
   go_ret3
   exact ⟨rfl,Pur.refl _⟩
 · clear BF
   go_enter Tryz.func195,Tryz.ntmps195
   go_wp2_with fail
   refine (SP _).mono ?_
   rintro e w1 ⟨rfl,rfl⟩
   go_wp2_with fail
   refine (hR _).mono ?_
   rintro e w1 ⟨rfl,rfl⟩
   go_wp2_with fail
   refine (BT _).mono ?_
   rintro e w1 ⟨rfl,rfl⟩
   go_wp2_with fail
   refine (EX _ hF).mono ?_
   rintro e w1 ⟨rfl,rfl⟩
   go_wp2
   go_ret3
   exact ⟨rfl,Pur.refl _⟩
end Us
end Go.Proofs.YtgdolcoiihagfaaGreatDoor
