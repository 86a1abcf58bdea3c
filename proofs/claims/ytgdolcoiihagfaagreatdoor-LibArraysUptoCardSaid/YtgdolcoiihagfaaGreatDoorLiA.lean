/- Layer 10: values that are made; what a value is; arguments. Layer 10: the reader of JSON texts, where all goes well: peek, blanks, must, word, digits. Layer 10: the reader of JSON texts, where all goes well: words, whole numbers. Layer 10: (*strings.Builder).Write; the reader's text, where it is plain. Layer 10: the reader's whole numbers; values that are plain. Layer 10: a node of a JSON text that has been read: how it is stored; the values of a JSON text that are plain. -/
import Derived.Test.YtgdolcoiihagfaaGreatDoorBase
import Derived.Test.YtgdolcoiihagfaaGreatDoorTbE
import Derived.Test.YtgdolcoiihagfaaGreatDoorHaD
import Derived.Test.YtgdolcoiihagfaaGreatDoorHuX
import Derived.Test.YtgdolcoiihagfaaGreatDoorHpA
import Derived.StillTail
import Derived.Test.YtgdolcoiihagfaaGreatDoorLkB
import Derived.Deep.AppendLies
import Derived.Test.YtgdolcoiihagfaaGreatDoorHaA
import Derived.Laws.Rows
namespace Go.Proofs.YtgdolcoiihagfaaGreatDoor
open Go Go.RowKit
set_option linter.all false
set_option maxRecDepth 100000
set_option maxHeartbeats 100000000
namespace Li
theorem enumber_any (x:Nat) (w:World):Calls Tryz.prog 52 #[.float .f64 x] w fun e w'=>e=.returned (.agg #[.int .i64 3,.float .f64 x,.string ⟨#[]⟩,.int .i64 0])∧Pur w w':=by
 go_enter Tryz.func52,Tryz.ntmps52
 go_wp2_with fail
 refine bodyPost_ret (v:=.agg #[.int .i64 3,.float .f64 x,.string ⟨#[]⟩,.int .i64 0]) (by simp [results,Tryz.results52,go_sem]) rfl ⟨rfl,?_⟩
 repeat (first | exact Pur.refl _ | with_reducible refine Pur.setCell ?_ (Nat.le_refl _) _ | with_reducible refine Pur.alloc ?_ _)
theorem etext_any (l:List UInt8) (w:World):Calls Tryz.prog 47 #[.string ⟨l.toArray⟩] w fun e w'=>e=.returned (.agg #[.int .i64 4,.float .f64 0,.string ⟨l.toArray⟩,.int .i64 0])∧Pur w w':=by
 go_enter Tryz.func47,Tryz.ntmps47
 go_wp2_with fail
 refine bodyPost_ret (v:=.agg #[.int .i64 4,.float .f64 0,.string ⟨l.toArray⟩,.int .i64 0]) (by simp [results,Tryz.results47,go_sem]) rfl ⟨rfl,?_⟩
 repeat (first | exact Pur.refl _ | with_reducible refine Pur.setCell ?_ (Nat.le_refl _) _ | with_reducible refine Pur.alloc ?_ _)
theorem eobject_any (i:Int) (w:World):Calls Tryz.prog 56 #[.int .i64 i] w fun e w'=>e=.returned (.agg #[.int .i64 5,.float .f64 0,.string ⟨#[]⟩,.int .i64 i])∧Pur w w':=by
 go_enter Tryz.func56,Tryz.ntmps56
 go_wp2_with fail
 refine bodyPost_ret (v:=.agg #[.int .i64 5,.float .f64 0,.string ⟨#[]⟩,.int .i64 i]) (by simp [results,Tryz.results56,go_sem]) rfl ⟨rfl,?_⟩
 repeat (first | exact Pur.refl _ | with_reducible refine Pur.setCell ?_ (Nat.le_refl _) _ | with_reducible refine Pur.alloc ?_ _)
theorem ebuiltin_any (i:Int) (w:World):Calls Tryz.prog 55 #[.int .i64 i] w fun e w'=>e=.returned (.agg #[.int .i64 6,.float .f64 0,.string ⟨#[]⟩,.int .i64 i])∧Pur w w':=by
 go_enter Tryz.func55,Tryz.ntmps55
 go_wp2_with fail
 refine bodyPost_ret (v:=.agg #[.int .i64 6,.float .f64 0,.string ⟨#[]⟩,.int .i64 i]) (by simp [results,Tryz.results55,go_sem]) rfl ⟨rfl,?_⟩
 repeat (first | exact Pur.refl _ | with_reducible refine Pur.setCell ?_ (Nat.le_refl _) _ | with_reducible refine Pur.alloc ?_ _)
theorem lnum10_any (x:Nat) (w:World):Calls Tryz.prog 14 #[.float .f64 x] w fun e w'=>e=.returned (.agg #[.int .i64 3,.float .f64 x,.string ⟨#[]⟩,.int .i64 0])∧Pur w w':=by
 go_enter Tryz.func14,Tryz.ntmps14
 go_wp2_with fail
 refine bodyPost_ret (v:=.agg #[.int .i64 3,.float .f64 x,.string ⟨#[]⟩,.int .i64 0]) (by simp [results,Tryz.results14,go_sem]) rfl ⟨rfl,?_⟩
 repeat (first | exact Pur.refl _ | with_reducible refine Pur.setCell ?_ (Nat.le_refl _) _ | with_reducible refine Pur.alloc ?_ _)
/-- is a value an array? -/
def isArr (d:Hd) (v:Va):Bool:=decide (v.kind=5) && decide (d.kind v.ref=2)
theorem isArray_any {s:Hs} {w:World} (v:Va) (h:HpAt w s):Calls Tryz.prog 34 #[.pointer (some ⟨s.h,0,none⟩),v.v] w fun e w'=>e=.returned (.bool (isArr s.d v))∧Pur w w':=by
 obtain ⟨k,n,t,r⟩:=v
 unfold isArr
 simp only [Va.v,Va.cells]
 have P:=(Pur.refl w).alloc (.cells #[.int .i64 k,.float .f64 n,.string ⟨t.toArray⟩,.int .i64 r] 25)
 have KD:=kind_any s r _ (h.pur P)
 generalize s.d.kind r=kd at *
 clear h
 by_cases k5:k=5
 · subst k5
   obtain ⟨b,hb⟩:∃ b,decide (kd=2)=b:=⟨_,rfl⟩
   have hb2:(kd == 2)=b:=hb
   go_enter Tryz.func34,Tryz.ntmps34
   go_wp2_with fail
   refine KD.mono ?_
   rintro e w1 ⟨rfl,rfl⟩
   go_wp2
   go_ret
   exact ⟨by simp [hb],P⟩
 · have d1:decide (k=5)=false:=decide_eq_false k5
   have d2:(k == 5)=false:=beq_eq_false_iff_ne.2 k5
   go_enter Tryz.func34,Tryz.ntmps34
   go_wp2
   go_ret
   exact ⟨by simp [k5],P⟩
end Li
namespace Li
/-- the unit at a place; -1: none -/
def pk (l:List UInt8) (i:Nat):Int:=if i < l.length / 2 then (at16 l i:Int) else -1
structure JR (w:World) (p:Nat) (l:List UInt8) (i:Nat):Prop where
 own:w.heap[p]?=some (.cells #[.string ⟨l.toArray⟩,.int .i64 (i:Int)] 80 (0,0))
 len:l.length≤1000000
 le:i≤1000000
theorem JR.pur {w w':World} {p:Nat} {l:List UInt8} {i:Nat} (h:JR w p l i) (hp:Pur w w'):JR w' p l i:=⟨bk_pur h.own hp,h.len,h.le⟩
theorem JR.chg {w w':World} {S:List Nat} {p:Nat} {l:List UInt8} {i:Nat} (h:JR w p l i) (hc:Chg S w w') (hp:p ∉ S):JR w' p l i:=⟨bk_chg h.own hc hp,h.len,h.le⟩
theorem JR.c0 {w:World} {p:Nat} {l:List UInt8} {i:Nat} (h:JR w p l i):w.cell? ⟨p,0,none⟩=some (.string ⟨l.toArray⟩):=bk_cell h.own 0 _ rfl
theorem JR.c1 {w:World} {p:Nat} {l:List UInt8} {i:Nat} (h:JR w p l i):w.cell? ⟨p,1,none⟩=some (.int .i64 (i:Int)):=bk_cell h.own 1 _ rfl
theorem JR.f {w:World} {p:Nat} {l:List UInt8} {i:Nat} (h:JR w p l i) (j:Nat):w.frozen? ⟨p,j,none⟩=false:=bk_free h.own j
theorem JR.seti {w:World} {p:Nat} {l:List UInt8} {i:Nat} (h:JR w p l i) (j:Nat) (n:Int) (hn:n=j) (hj:j≤1000000):JR (w.setCell ⟨p,1,none⟩ (.int .i64 n)) p l j∧Chg [p] w (w.setCell ⟨p,1,none⟩ (.int .i64 n)):=by
 subst hn
 exact ⟨⟨bk_set h.own 1 _,h.len,hj⟩,(Chg.refl [p] w).setCell (.inl (by simp)) _⟩
theorem at_all (l:List UInt8) (i:Nat) (hl:l.length≤1000000):∃ u b,pk l i=(if b=true then u else -1)∧∀ w,Calls Tryz.prog 61 #[.string ⟨l.toArray⟩,.int .i64 i] w fun e w'=>e=.returned (.tuple #[.int .i64 u,.bool b])∧Pur w w':=by
 by_cases h:i < l.length / 2
 · exact ⟨at16 l i,true,by unfold pk;rw [if_pos h];rfl,fun w=>at_in l i w (by omega) h⟩
 · exact ⟨0,false,by unfold pk;rw [if_neg h];rfl,fun w=>at_out l i w (by omega) (by omega)⟩
theorem peek_any {w:World} {p:Nat} {l:List UInt8} {i:Nat} (h:JR w p l i) :
   Calls Tryz.prog 41 #[.pointer (some ⟨p,0,none⟩)] w fun e w'=>e=.returned (.int .i64 (pk l i))∧Pur w w':=by
 obtain ⟨u,b,hu,AT⟩:=at_all l i h.len
 rw [hu]
 have q0:∀ z:PW w,z.to.cell? ⟨p,0,none⟩=some (.string ⟨l.toArray⟩):=fun z=>(h.pur z.pur).c0
 have q1:∀ z:PW w,z.to.cell? ⟨p,1,none⟩=some (.int .i64 (i:Int)):=fun z=>(h.pur z.pur).c1
 clear h hu
 cases b
 all_goals
   go_enter Tryz.func41,Tryz.ntmps41
   go_wp2_with fail
   refine wp_region_pur (by kernel_rfl) (by kernel_rfl) ?_
   repeat (go_big_quiet_step (((go_at_call 61;with_reducible exact quiet_pur (AT _)))))
   refine wpQuiet_nil ?_
   intro w1 h1
   go_wp2
   go_ret
   exact ⟨rfl,h1⟩
/-- no blank stands here -/
def noB (u:Int):Prop:=u≠9∧u≠10∧u≠13∧u≠32
instance (u:Int):Decidable (noB u):=by unfold noB;infer_instance
theorem blanks_no {w:World} {p:Nat} {l:List UInt8} {i:Nat} (h:JR w p l i) (hu:noB (pk l i)) :
   Calls Tryz.prog 91 #[.pointer (some ⟨p,0,none⟩)] w fun e w'=>e=.returned (.tuple #[])∧Pur w w':=by
 have PK:=peek_any h
 obtain ⟨h1,h2,h3,h4⟩:=hu
 have d1:(pk l i == 9)=false:=beq_eq_false_iff_ne.2 h1
 have d2:(pk l i == 10)=false:=beq_eq_false_iff_ne.2 h2
 have d3:(pk l i == 13)=false:=beq_eq_false_iff_ne.2 h3
 have d4:(pk l i == 32)=false:=beq_eq_false_iff_ne.2 h4
 generalize pk l i=u at *
 clear h h1 h2 h3 h4
 go_enter Tryz.func91,Tryz.ntmps91
 go_wp2_with fail
 refine PK.mono ?_
 rintro e w1 ⟨rfl,p1⟩
 clear PK
 go_wp2
 go_loopw [2] (fun v wr=>v=.int .i64 u∧wr=w1) (fun _ _=>0)
 case atStart=>exact ⟨rfl,rfl⟩
 case round =>
   obtain ⟨rfl,rfl⟩:=hrel
   go_wp2
   go_end0
   exact ⟨rfl,p1⟩
theorem must_ok {w:World} {p:Nat} {l:List UInt8} {i:Nat} {u:Int} (h:JR w p l i) (hu:pk l i=u) (hi:i + 1≤1000000) :
   Calls Tryz.prog 124 #[.pointer (some ⟨p,0,none⟩),.int .i64 u] w fun e w'=>e=.returned (.tuple #[])∧JR w' p l (i + 1)∧Chg [p] w w':=by
 have PK:=peek_any h
 rw [hu] at PK
 clear hu
 go_enter Tryz.func124,Tryz.ntmps124
 go_wp2_with fail
 refine PK.mono ?_
 rintro e w1 ⟨rfl,p1⟩
 have h1:=h.pur p1
 have c1:=h1.c1
 have f1:=h1.f 1
 have wr1:IntKind.i64.wrap ((i:Int) + 1)=i + 1:=IntWalk.i64_in _ (by omega)
 have S:=h1.seti (i + 1) ((i:Int) + 1) (by omega) hi
 have HS:=Lib.hid (And.intro S.1 ((Chg.of_pur (S:=[p]) p1).trans S.2))
 clear PK h h1 S p1
 go_wp2
 go_end0
 exact ⟨rfl,HS.out⟩
end Li
namespace Li
def UT (w:World):Prop:=Lib.Utf8Tabs 9 10 w
theorem UT.pur {w w':World} (h:UT w) (hp:Pur w w'):UT w':=Utf8Tabs_below h hp
def ascB (l:List UInt8):Bool:=l.all fun c=>decide (c.toNat < 128)
theorem ewide_b (l:List UInt8) (h:ascB l=true) (hl:l.length≤1000000) {w:World} (hT:UT w) :
   Calls Tryz.prog 51 #[.string ⟨l.toArray⟩] w fun e w'=>e=.returned (.string ⟨(wide8 l).toArray⟩)∧Pur w w':=by
 have W:=fun w hT=>wide_any l w hT hl
 rw [wide_ascii _ (fun c hc=>of_decide_eq_true (List.all_eq_true.1 h c hc))] at W
 go_enter Tryz.func51,Tryz.ntmps51
 go_wp2_with fail
 refine (W _ hT).mono ?_
 rintro e w2 ⟨rfl,h2⟩
 go_wp2
 go_ret
 exact ⟨rfl,h2⟩
theorem word_any {w:World} {p:Nat} {l:List UInt8} {i:Nat} (h:JR w p l i) (s:List UInt8) (hs:ascB s=true) (hl:s.length≤100) (hT:UT w) (hi:i≤900000) :
   Calls Tryz.prog 94 #[.pointer (some ⟨p,0,none⟩),.string ⟨s.toArray⟩] w fun e w'=>e=.returned (.bool (cutU l i ((i:Int) + s.length) == wide8 s))∧JR w' p l (if (cutU l i ((i:Int) + s.length) == wide8 s)=true then i + s.length else i)∧Chg [p] w w':=by
 have CU:=fun w=>cut_any l (i:Int) ((i:Int) + s.length) w (by have:=h.len;omega)
 have WD:∀ z:PW w,Calls Tryz.prog 51 #[.string ⟨s.toArray⟩] z.to fun e w'=>e=.returned (.string ⟨(wide8 s).toArray⟩)∧Pur z.to w':=fun z=>ewide_b s hs (by omega) (hT.pur z.pur)
 have q0:∀ z:PW w,z.to.cell? ⟨p,0,none⟩=some (.string ⟨l.toArray⟩):=fun z=>(h.pur z.pur).c0
 have q1:∀ z:PW w,z.to.cell? ⟨p,1,none⟩=some (.int .i64 (i:Int)):=fun z=>(h.pur z.pur).c1
 have wr1:IntKind.i64.wrap ((i:Int) + s.length)=(i:Int) + s.length:=IntWalk.i64_in _ (by omega)
 generalize cutU l i ((i:Int) + s.length)=C at *
 generalize wide8 s=S at *
 obtain ⟨b,hb⟩:∃ b,(C == S)=b:=⟨_,rfl⟩
 rw [hb]
 have hfin:∀ w1,Pur w w1→JR w1 p l i:=fun w1 hp=>h.pur hp
 clear h hs
 go_enter Tryz.func94,Tryz.ntmps94
 go_wp2_with fail
 refine wp_region_pur (by kernel_rfl) (by kernel_rfl) ?_
 repeat (go_big_quiet_step (((first | (go_at_call 63;with_reducible exact quiet_pur (CU _)) | (go_at_call 51;with_reducible exact quiet_pur (WD _))))))
 refine wpQuiet_nil ?_
 intro w1 h1
 have H1:=hfin _ h1
 have c1:=H1.c1
 have f1:=H1.f 1
 have X:=H1.seti (i + s.length) ((i:Int) + s.length) (by omega) (by omega)
 have HS:=Lib.hid (And.intro X.1 ((Chg.of_pur (S:=[p]) h1).trans X.2))
 have HP:=Lib.hid (And.intro H1 (Chg.of_pur (S:=[p]) h1))
 clear q0 q1 WD CU H1 X hfin hT
 cases b with
 | false =>
   go_wp2
   go_ret
   exact ⟨rfl,HP.out⟩
 | true =>
   go_wp2
   go_ret
   exact ⟨rfl,HS.out⟩
/-- where a reader stands -/
def posOf (p:Nat) (w:World):Nat:=match w.cell? ⟨p,1,none⟩ with
 | some (.int _ x)=>x.toNat
 | _=>0
/-- digits stand from i on, k of them, and none behind -/
def Digs (l:List UInt8) (i k:Nat):Prop:=(∀ j,j < k→48≤pk l (i + j)∧pk l (i + j)≤57)∧¬(48≤pk l (i + k)∧pk l (i + k)≤57)
theorem digits_ok {w:World} {p:Nat} {l:List UInt8} {i k:Nat} (h:JR w p l i) (hd:Digs l i k) (hk:0 < k) (hi:i + k≤900000) :
   Calls Tryz.prog 127 #[.pointer (some ⟨p,0,none⟩)] w fun e w'=>e=.returned (.tuple #[])∧JR w' p l (i + k)∧Chg [p] w w':=by
 have c1:=h.c1
 have HD:=Lib.hid hd
 clear hd
 go_enter Tryz.func127,Tryz.ntmps127
 go_wp2
 clear c1
 go_loopw [] (fun wr=>∃ n:Nat,n≤k∧JR wr p l (i + n)∧Chg [p] w wr) (fun wr=>k + 1 - (posOf p wr - i))
 case atStart=>exact ⟨0,by omega,h,Chg.refl _ _⟩
 case round =>
   obtain ⟨n,hn,H,G⟩:=hrel
   have P1:=peek_any H
   have P2:=fun w2 (hp:Pur wr w2)=>peek_any (H.pur hp)
   have hcell:=H.c1
   by_cases hnk:n < k
   · obtain ⟨b1,b2⟩:=HD.out.1 n hnk
     generalize pk l (i + n)=u at *
     have d1:decide ((48:Int)≤u)=true:=decide_eq_true b1
     have d2:decide (u≤(57:Int))=true:=decide_eq_true b2
     have wr1:IntKind.i64.wrap (((i + n:Nat):Int) + 1)=((i + n:Nat):Int) + 1:=IntWalk.i64_in _ (by omega)
     clear b1 b2
     go_wp2_with fail
     refine P1.mono ?_
     rintro e w1 ⟨rfl,p1⟩
     have P2:=P2 _ p1
     clear P1
     go_wp2_with fail
     refine P2.mono ?_
     rintro e w2 ⟨rfl,p2⟩
     have H2:=H.pur (p1.trans p2)
     have X:=H2.seti (i + (n + 1)) ((i:Int) + n + 1) (by omega) (by omega)
     have G2:=(G.pur (p1.trans p2)).trans X.2
     have c1:=H2.c1
     have f1:=H2.f 1
     have c1':=X.1.c1
     clear P2 H
     go_wp2
     go_roundw
     case rel=>exact ⟨n + 1,by omega,X.1,G2⟩
     case measure=>(try simp only [wr1]);simp only [posOf,hcell,c1'];omega
   · obtain rfl:n=k:=by omega
     have hno:=HD.out.2
     generalize pk l (i + n)=u at *
     obtain ⟨b,hb⟩:∃ b,decide ((48:Int)≤u)=b:=⟨_,rfl⟩
     have hne:(((i + n:Nat):Int) == (i:Int))=false:=beq_eq_false_iff_ne.2 (by omega)
     cases b with
     | true =>
       have d2:decide (u≤(57:Int))=false:=decide_eq_false (fun h=>hno ⟨of_decide_eq_true hb,h⟩)
       clear hno
       go_wp2_with fail
       refine P1.mono ?_
       rintro e w1 ⟨rfl,p1⟩
       have P2:=P2 _ p1
       clear P1
       go_wp2_with fail
       refine P2.mono ?_
       rintro e w2 ⟨rfl,p2⟩
       have H2:=H.pur (p1.trans p2)
       have c1:=H2.c1
       have G2:=G.pur (p1.trans p2)
       clear P2 H
       go_wp2
       go_end0
       exact ⟨rfl,H2,G2⟩
     | false =>
       clear hno P2
       go_wp2_with fail
       refine P1.mono ?_
       rintro e w1 ⟨rfl,p1⟩
       have H2:=H.pur p1
       have c1:=H2.c1
       have G2:=G.pur p1
       clear P1 H
       go_wp2
       go_end0
       exact ⟨rfl,H2,G2⟩
end Li
namespace Li
theorem copyCheck_chg (B b:Nat) (bs:List Value) (w:World) (h:Lib.IsBuilder 90 5 B b bs w) :
   Calls Tryz.prog 150 #[.pointer (some ⟨b,0,none⟩)] w fun e w'=>e=.returned (.tuple #[])∧Lib.BuilderAt 90 5 B b (.pointer (some ⟨b,0,none⟩)) bs w'∧Chg [b] w w':=by
 rcases h with h | h
 · refine (copyCheck_fresh b w h.cell0 h.shape h.frozen0).mono ?_
   rintro e w' ⟨rfl,rfl⟩
   exact ⟨rfl,h.used _,(Chg.refl [b] w).setCell (.inl (by simp)) _⟩
 · refine (copyCheck_used b w h.cell0).mono ?_
   rintro e w' ⟨rfl,rfl⟩
   exact ⟨rfl,h,Chg.refl _ _⟩
theorem bld_wr {B b g n:Nat} {acc s:List UInt8} {c:Nat} {w:World} (h:Lib.IsBuilder 90 5 B b (Lib.byteCells acc) w) (hg:w.heap[g]?=some (.cells (Lib.byteCells s).toArray 5 (0,0))) (hn:s.length=n) (hgb:g≠b) (hn0:0 < n) (hlen:acc.length + n≤140737488355327) (hBw:B≤w.heap.size) :
   Calls Tryz.prog 126 #[.pointer (some ⟨b,0,none⟩),.slice (some ⟨g,0,none⟩) n c] w fun e w'=>e=.returned (.tuple #[.int .i64 n,.nilIface])∧Lib.IsBuilder 90 5 B b (Lib.byteCells (acc ++ s)) w'∧Below B w w':=by
 obtain ⟨i0,hi,hz0,hz1,hz2⟩:=info_parts byte_info
 have CC:=copyCheck_chg B b (Lib.byteCells acc) w h
 have hBb:B≤b:=by rcases h with h | h <;> exact h.1
 go_enter Tryz.func126,Tryz.ntmps126
 go_wp2_with fail
 refine CC.mono ?_
 rintro e w1 ⟨rfl,h1,hc1⟩
 have hb1:Below B w w1:=⟨hc1.os,hc1.tape,hc1.output,hc1.size,fun k hk=>hc1.block k (by omega) (by simp;omega)⟩
 obtain ⟨hB,v,hbk,hown,hne⟩:=h1
 have hg1:=bk_chg hg hc1 (by simpa using hgb)
 have c0:w1.cell? ⟨b,0,none⟩=some (.pointer (some ⟨b,0,none⟩)):=by rw [Lib.cell_of_heap hbk];rfl
 have c1:w1.cell? ⟨b,1,none⟩=some v:=by rw [Lib.cell_of_heap hbk];rfl
 have hnews:∀ (j:Nat) u,(Lib.byteCells s)[j]?=some u→w1.cell? ((⟨g,0,none⟩:Addr).add j)=some u:=World.news_of_block (cs:=(Lib.byteCells s).toArray) hg1
 have hones:∀ u∈Lib.byteCells s,u.oneCell'=true:=fun u hu=>by
   obtain ⟨x,-,rfl⟩:=List.mem_map.1 hu
   rfl
 have hls:(Lib.byteCells s).length=n * 1:=by rw [byteCells_length];omega
 clear CC h
 go_wp2_with (at_builtin;refine wpList_append_own _ rfl _ _ 75 rfl B 5 i0 (.int .u8 0) 1 1 Tryz.underlying75 hi hz0 hz1 hz2 rfl (by decide) _ _ _ rfl hown ⟨g,0,none⟩ n c (Lib.byteCells s) rfl hls hnews hones ?c3 ?c4 ?c5 ?_)
 case c3=>rw [byteCells_length];unfold maxLen;omega
 case c4=>rw [byteCells_length];omega
 case c5=>have:=hb1.size;omega
 intro v' w2 hown' hgrow _
 have hlt:b < w1.heap.size:=bk_lt hbk
 have hb2:w2.heap[b]?=some (.cells #[.pointer (some ⟨b,0,none⟩),v] 90 (0,0)):=by
   rw [hgrow.block b hlt (fun e=>hne e.symm)]
   exact hbk
 have d0:w2.cell? ⟨b,0,none⟩=some (.pointer (some ⟨b,0,none⟩)):=by rw [Lib.cell_of_heap hb2];rfl
 have d1:w2.cell? ⟨b,1,none⟩=some v:=by rw [Lib.cell_of_heap hb2];rfl
 have f1:w2.frozen? ⟨b,1,none⟩=false:=Lib.frozen_of_heap hb2 1
 obtain ⟨ao,n',cap,rfl⟩:∃ ao n' cap,v'=.slice ao n' cap:=by
   rcases hown'.2 with ⟨hv,_⟩ | ⟨g,cap,cur,hv,_⟩
   · exact ⟨_,_,_,hv⟩
   · exact ⟨_,_,_,hv⟩
 have e1:(Lib.byteCells acc ++ Lib.byteCells s).length=(Lib.byteCells acc).length + n:=by rw [List.length_append,byteCells_length,byteCells_length,hn]
 have HF:Lib.IsBuilder 90 5 B b (Lib.byteCells (acc ++ s)) (w2.setCell ⟨b,1,none⟩ (.slice ao n' cap)):=by
   rw [← byteCells_append]
   exact .inr (Lib.BuilderAt.put (T:=90) (e:=5) hB hb2 (bs':=Lib.byteCells acc ++ Lib.byteCells s) (by rw [e1];exact hown') (by decide))
 have HG:Below B w (w2.setCell ⟨b,1,none⟩ (.slice ao n' cap)):=(hb1.grown hgrow (by have:=hb1.size;omega) (fun k hk=>(hown.lt k hk).1)).setCell (p:=⟨b,1,none⟩) hB _
 clear hown' hgrow hown hnews hones
 go_wp2
 go_ret2
 exact ⟨rfl,HF,HG⟩
theorem pk_at {l:List UInt8} {i:Nat} (h:0≤pk l i):i < l.length / 2∧pk l i=at16 l i:=by
 unfold pk at h ⊢
 by_cases hi:i < l.length / 2
 · rw [if_pos hi];exact ⟨hi,rfl⟩
 · rw [if_neg hi] at h;omega
theorem sub_unit {l:List UInt8} {i j:Nat} (hij:i≤j) (hj:j < l.length / 2):sub l (2 * i) (2 * j) ++ [UInt8.ofNat (at16 l j / 256),UInt8.ofNat (at16 l j % 256)]=sub l (2 * i) (2 * (j + 1)):=by
 have h1:=sub_append l (a:=2 * i) (b:=2 * j) (c:=2 * j + 2) (by omega) (by omega)
 have e:sub l (2 * j) (2 * j + 2)=[UInt8.ofNat (at16 l j / 256),UInt8.ofNat (at16 l j % 256)]:=by
   have b1:=by8_lt l (2 * j)
   have b2:=by8_lt l (2 * j + 1)
   unfold at16
   rw [show (by8 l (2 * j) * 256 + by8 l (2 * j + 1)) / 256=by8 l (2 * j) by omega,show (by8 l (2 * j) * 256 + by8 l (2 * j + 1)) % 256=by8 l (2 * j + 1) by omega]
   have d1:2 * j < l.length:=by omega
   have d2:2 * j + 1 < l.length:=by omega
   have e3:l.drop (2 * j)=l[2 * j] :: l[2 * j + 1] :: l.drop (2 * j + 1 + 1):=by rw [List.drop_eq_getElem_cons d1,List.drop_eq_getElem_cons d2]
   unfold sub by8
   rw [show 2 * j + 2 - 2 * j=2 by omega,e3]
   simp [d1,d2]
   rw [e3]
   rfl
 rw [← e,h1]
 rfl
theorem text_plain {w:World} {p:Nat} {l:List UInt8} {i k:Nat} (h:JR w p l i) (hq:pk l i=34) (hk:∀ j,j < k→pk l (i + 1 + j)≠34∧pk l (i + 1 + j)≠92∧32≤pk l (i + 1 + j)) (he:pk l (i + 1 + k)=34) (hi:i + k + 2≤900000) :
   Calls Tryz.prog 93 #[.pointer (some ⟨p,0,none⟩)] w fun e w'=>e=.returned (.string ⟨(sub l (2 * (i + 1)) (2 * (i + 1 + k))).toArray⟩)∧JR w' p l (i + k + 2)∧Chg [p] w w':=by
 have MU:=must_ok h hq (by omega)
 have hpw:=bk_lt h.own
 have HK:=Lib.hid hk
 have HE:=Lib.hid he
 clear hk he hq
 go_enter Tryz.func93,Tryz.ntmps93
 go_wp2_with fail
 refine MU.mono ?_
 rintro e w1 ⟨rfl,H1,G1⟩
 clear MU h
 have hs1:=G1.size
 have HB0:Lib.IsBuilder 90 5 w1.heap.size w1.heap.size (Lib.byteCells []) (w1.alloc (.cells #[.pointer none,.slice none 0 0] 90)):=Lib.fresh_isBuilder _ _ w1
 have P2:Pur w1 (w1.alloc (.cells #[.pointer none,.slice none 0 0] 90)):=(Pur.refl _).alloc _
 have H2:=H1.pur P2
 have G2:=G1.pur P2
 have hs2:w1.heap.size < (w1.alloc (.cells #[.pointer none,.slice none 0 0] 90)).heap.size:=by rw [show (w1.alloc (.cells #[.pointer none,.slice none 0 0] 90)).heap.size=w1.heap.size + 1 from Array.size_push _];omega
 go_wp2_with fail
 generalize w1.alloc (.cells #[.pointer none,.slice none 0 0] 90)=w2 at *
 go_loopw [] (fun wr=>∃ n:Nat,n≤k∧JR wr p l (i + 1 + n)∧Chg [p] w wr∧w1.heap.size < wr.heap.size∧Lib.IsBuilder 90 5 w1.heap.size w1.heap.size (Lib.byteCells (sub l (2 * (i + 1)) (2 * (i + 1 + n)))) wr) (fun wr=>k + 1 - (posOf p wr - (i + 1)))
 case atStart=>exact ⟨0,by omega,H2,G2,hs2,by rw [Nat.add_zero,sub_nil l (Nat.le_refl _)];exact HB0⟩
 case round =>
   obtain ⟨n,hn,H,G,hsz,HB⟩:=hrel
   have P1:=peek_any H
   have P2:=fun w2 (hp:Pur wr w2)=>peek_any (H.pur hp)
   have hcell0:=H.c1
   by_cases hnk:n < k
   · obtain ⟨b1,b2,b3⟩:=HK.out n hnk
     obtain ⟨hlt,hpk⟩:=pk_at (by omega:0≤pk l (i + 1 + n))
     have HSU:=Lib.hid (sub_unit (l:=l) (i:=i + 1) (j:=i + 1 + n) (by omega) hlt)
     rw [hpk] at b1 b2 b3 P1 P2
     have hu:=at16_lt l (i + 1 + n)
     generalize at16 l (i + 1 + n)=u at *
     have d1:((u:Int) == 34)=false:=beq_eq_false_iff_ne.2 b1
     have d2:((u:Int) == 92)=false:=beq_eq_false_iff_ne.2 b2
     have d3:decide ((u:Int) < 32)=false:=decide_eq_false (by omega)
     clear b1 b2 b3 hpk
     go_wp2_with fail
     refine P1.mono ?_
     rintro e w3 ⟨rfl,p3⟩
     have P2:=P2 _ p3
     clear P1
     go_wp2_with fail
     refine P2.mono ?_
     rintro e w4 ⟨rfl,p4⟩
     have p34:=p3.trans p4
     have H4:=H.pur p34
     have c1:=H4.c1
     have f1:=H4.f 1
     have X:=H4.seti (i + 1 + (n + 1)) ((i:Int) + 1 + n + 1) (by omega) (by omega)
     clear P2 H
     go_wp2_with fail
     have hsz4:(w4.setCell ⟨p,1,none⟩ (.int .i64 ((i:Int) + 1 + n + 1))).heap.size=w4.heap.size:=by simp [World.setCell]
     have hpB:p < w1.heap.size:=by omega
     have hcs:(#[Value.int .u8 ((u:Int) / 256),.int .u8 ((u:Int) % 256)]:Array Value)=(Lib.byteCells [UInt8.ofNat (u / 256),UInt8.ofNat (u % 256)]).toArray:=by
       have e1:(((UInt8.ofNat (u / 256)).toNat:Nat):Int)=(u:Int) / 256:=by rw [UInt8.toNat_ofNat',Nat.mod_eq_of_lt (show u / 256 < 2 ^ 8 by omega)];omega
       have e2:(((UInt8.ofNat (u % 256)).toNat:Nat):Int)=(u:Int) % 256:=by rw [UInt8.toNat_ofNat',Nat.mod_eq_of_lt (show u % 256 < 2 ^ 8 by omega)];omega
       rw [show (Lib.byteCells [UInt8.ofNat (u / 256),UInt8.ofNat (u % 256)]).toArray=#[.int .u8 (((UInt8.ofNat (u / 256)).toNat:Nat):Int),.int .u8 (((UInt8.ofNat (u % 256)).toNat:Nat):Int)] from rfl,e1,e2]
     have hg:=bk_new (w4.setCell ⟨p,1,none⟩ (.int .i64 ((i:Int) + 1 + n + 1))) (.cells #[.int .u8 ((u:Int) / 256),.int .u8 ((u:Int) % 256)] 5)
     rw [hsz4] at hg
     have hg:=hg.trans (congrArg (fun c=>some (Obj.cells c 5 (0,0))) hcs)
     have hB4:=bld_chg HB (Chg.of_pur (S:=[p]) p34) hpB
     have hB5:=bld_chg (bld_chg hB4 X.2 hpB) (Chg.of_pur (S:=[p]) ((Pur.refl _).alloc (.cells #[.int .u8 ((u:Int) / 256),.int .u8 ((u:Int) % 256)] 5))) hpB
     have p5:Pur (w4.setCell ⟨p,1,none⟩ (.int .i64 ((i:Int) + 1 + n + 1))) ((w4.setCell ⟨p,1,none⟩ (.int .i64 ((i:Int) + 1 + n + 1))).alloc (.cells #[.int .u8 ((u:Int) / 256),.int .u8 ((u:Int) % 256)] 5)):=(Pur.refl _).alloc _
     have H5:=X.1.pur p5
     have G5:=((G.pur p34).trans X.2).pur p5
     have hs4:=p34.size
     have hs5:=p5.size
     have hacc:(sub l (2 * (i + 1)) (2 * (i + 1 + n))).length≤l.length:=by unfold sub;simp;omega
     have hl6:=H4.len
     have hne:w4.heap.size≠w1.heap.size:=by omega
     have WR:=bld_wr (g:=w4.heap.size) (s:=[UInt8.ofNat (u / 256),UInt8.ofNat (u % 256)]) (n:=2) (c:=2) hB5 hg rfl hne (by omega) (by omega) (by omega)
     rw [HSU.out] at WR
     clear hB4 hB5 X H4 c1 f1 hg hcs p5 HB
     generalize (w4.setCell ⟨p,1,none⟩ (.int .i64 ((i:Int) + 1 + n + 1))).alloc (.cells #[.int .u8 ((u:Int) / 256),.int .u8 ((u:Int) % 256)] 5)=w5 at *
     refine WR.mono ?_
     rintro e w6 ⟨rfl,HB6,hb6⟩
     have H6:JR w6 p l (i + 1 + (n + 1)):=⟨(hb6.block p hpB).trans H5.own,H5.len,H5.le⟩
     have G6:=G5.below hb6 (by omega) hb6.size
     have c1':=H6.c1
     have hs6:=hb6.size
     clear WR H5 G5 hb6
     go_wp2
     go_roundw
     case rel=>exact ⟨n + 1,by omega,H6,G6,by omega,HB6⟩
     case measure=>simp only [posOf,hcell0,c1'];omega
   · obtain rfl:n=k:=by omega
     rw [HE.out] at P1
     have hpB:p < w1.heap.size:=by omega
     clear P2
     go_wp2_with fail
     refine P1.mono ?_
     rintro e w3 ⟨rfl,p3⟩
     have H3:=H.pur p3
     have c1:=H3.c1
     have f1:=H3.f 1
     have X:=H3.seti (i + n + 2) ((i:Int) + 1 + n + 1) (by omega) (by omega)
     have G4:=(G.pur p3).trans X.2
     have HB4:=bld_chg (bld_chg HB (Chg.of_pur (S:=[p]) p3) hpB) X.2 hpB
     have hs3:=p3.size
     have hs4:w1.heap.size≤(w3.setCell ⟨p,1,none⟩ (.int .i64 ((i:Int) + 1 + n + 1))).heap.size:=by simp [World.setCell];omega
     have ST:=Tryz.Builder_String_any w1.heap.size w1.heap.size (sub l (2 * (i + 1)) (2 * (i + 1 + n))) _ HB4 hs4
     clear P1 H HB HB4
     go_wp2_with fail
     refine ST.mono ?_
     rintro e w5 ⟨rfl,hb5⟩
     have H5:JR w5 p l (i + n + 2):=⟨(hb5.block p hpB).trans X.1.own,X.1.len,X.1.le⟩
     have G5:=G4.below hb5 (by omega) hb5.size
     clear ST X hb5
     go_wp2
     go_ret
     exact ⟨rfl,H5,G5⟩
end Li
namespace Li
theorem cutU_in (l:List UInt8) (i j:Nat) (hj:j≤l.length / 2) (hij:i≤j):cutU l (i:Int) (j:Int)=sub l (2 * i) (2 * j):=by
 unfold cutU clamp
 congr 1 <;> omega
theorem chg_below {w0 w w':World} {p:Nat} (hc:Chg [p] w w') (hp:Pur w0 w) (hpl:w0.heap.size≤p):Pur w0 w' :=
 ⟨hc.os.trans hp.os,hc.tape.trans hp.tape,hc.output.trans hp.output,Nat.le_trans hp.size hc.size,fun k hk=>(hc.block k (Nat.lt_of_lt_of_le hk hp.size) (by simp;omega)).trans (hp.block k hk)⟩
theorem number_int {w0 w:World} {p:Nat} {l:List UInt8} {i k x:Nat} (h:JR w p l i) (hp0:Pur w0 w) (hpl:w0.heap.size≤p) (hd:Digs l i k) (hk:0 < k) (h0:pk l i≠48) (h1:pk l (i + k)≠46∧pk l (i + k)≠101∧pk l (i + k)≠69) (hi:i + k≤900000)
   (NU:∀ w',Pur w0 w'→Calls Tryz.prog 128 #[.string ⟨(sub l (2 * i) (2 * (i + k))).toArray⟩] w' fun e w''=>e=.returned (.float .f64 x)∧Pur w' w'') :
   Calls Tryz.prog 95 #[.pointer (some ⟨p,0,none⟩)] w fun e w'=>e=.returned (.agg #[.int .i64 3,.float .f64 x,.string ⟨#[]⟩,.int .i64 0])∧JR w' p l (i + k)∧Chg [p] w w':=by
 have P1:Pur w (w.alloc (.cells #[.int .i64 0,.float .f64 0,.string ⟨#[]⟩,.int .i64 0] 25)):=(Pur.refl w).alloc _
 have RB:=bk_new w (.cells #[.int .i64 0,.float .f64 0,.string ⟨#[]⟩,.int .i64 0] 25)
 have hlast:=hd.1 (k - 1) (by omega)
 rw [show i + (k - 1)=i + k - 1 by omega] at hlast
 have hin:=(pk_at (by omega:0≤pk l (i + k - 1))).1
 have hb0:=hd.1 0 hk
 rw [Nat.add_zero] at hb0
 have hcut:=cutU_in l i (i + k) (by omega) (by omega)
 have CU:=fun w=>cut_any l (i:Int) ((i + k:Nat):Int) w (by have:=h.len;omega)
 rw [hcut,show ((i + k:Nat):Int)=(i:Int) + k from Int.natCast_add i k] at CU
 have DG:=fun w' (H:JR w' p l i)=>digits_ok H hd hk hi
 have PK0:=fun w' (H:JR w' p l i)=>peek_any H
 have PK1:=fun w' (H:JR w' p l (i + k))=>peek_any H
 have d1:(pk l i == 45)=false:=beq_eq_false_iff_ne.2 (by omega)
 have d2:(pk l i == 48)=false:=beq_eq_false_iff_ne.2 h0
 have d3:(pk l (i + k) == 46)=false:=beq_eq_false_iff_ne.2 h1.1
 have d4:(pk l (i + k) == 101)=false:=beq_eq_false_iff_ne.2 h1.2.1
 have d5:(pk l (i + k) == 69)=false:=beq_eq_false_iff_ne.2 h1.2.2
 have hpw:=bk_lt h.own
 have hne:p≠w.heap.size:=by omega
 generalize pk l i=u at *
 generalize pk l (i + k)=u2 at *
 generalize sub l (2 * i) (2 * (i + k))=t at *
 clear hd hlast hb0 h0 h1 hcut hin
 have H1:=h.pur P1
 have hp1:=hp0.trans P1
 go_enter Tryz.func95,Tryz.ntmps95
 generalize hW:w.alloc (.cells #[.int .i64 0,.float .f64 0,.string ⟨#[]⟩,.int .i64 0] 25)=w1 at *
 have hW:=Lib.hid hW
 have c1:=H1.c1
 go_wp2_with fail
 try rw [hW.out]
 refine (PK0 _ H1).mono ?_
 rintro e w2 ⟨rfl,p2⟩
 have H2:=H1.pur p2
 go_wp2_with fail
 refine (PK0 _ H2).mono ?_
 rintro e w3 ⟨rfl,p3⟩
 have H3:=H2.pur p3
 have p13:=p2.trans p3
 clear H2 p2 p3
 go_wp2_with fail
 refine (DG _ H3).mono ?_
 rintro e w4 ⟨rfl,H4,G4⟩
 clear H3 DG PK0
 go_wp2_with fail
 refine (PK1 _ H4).mono ?_
 rintro e w5 ⟨rfl,p5⟩
 have H5:=H4.pur p5
 go_wp2_with fail
 refine (PK1 _ H5).mono ?_
 rintro e w6 ⟨rfl,p6⟩
 have H6:=H5.pur p6
 go_wp2_with fail
 refine (PK1 _ H6).mono ?_
 rintro e w7 ⟨rfl,p7⟩
 have H7:=H6.pur p7
 have G7:Chg [p] w1 w7:=((Chg.of_pur (S:=[p]) p13).trans G4).pur ((p5.trans p6).trans p7)
 have hp7:=chg_below G7 hp1 hpl
 have R7:=bk_chg RB G7 (by simp;omega)
 have q0:∀ z:PW w7,z.to.cell? ⟨p,0,none⟩=some (.string ⟨l.toArray⟩):=fun z=>(H7.pur z.pur).c0
 have q1:∀ z:PW w7,z.to.cell? ⟨p,1,none⟩=some (.int .i64 ((i:Int) + k)):=fun z=>by have:=(H7.pur z.pur).c1;rwa [show ((i + k:Nat):Int)=(i:Int) + k from Int.natCast_add i k] at this
 have NU7:∀ z:PW w7,Calls Tryz.prog 128 #[.string ⟨t.toArray⟩] z.to fun e w''=>e=.returned (.float .f64 x)∧Pur z.to w'':=fun z=>NU z.to (hp7.trans z.pur)
 have EN:=fun w=>enumber_any x w
 clear PK1 H4 H5 H6 p5 p6 p7 G4 p13 NU RB c1
 go_wp2_with fail
 refine wp_region_pur_tail 12 (by kernel_rfl) (by kernel_rfl) ?_
 simp only [List.take_succ_cons,List.take_zero,List.drop_succ_cons,List.drop_zero]
 repeat (go_big_quiet_step (((first | (go_at_call 63;with_reducible exact quiet_pur (CU _)) | (go_at_call 128;with_reducible exact quiet_pur (NU7 _)) | (go_at_call 52;with_reducible exact quiet_pur (EN _))))))
 refine wpQuiet_nil ?_
 intro w8 h8
 have R8:=bk_pur R7 h8
 obtain ⟨⟨s0,s1⟩,⟨s2,s3⟩,⟨s4,s5⟩,⟨s6,s7⟩⟩:=st4_steps (y:=Va.zero) (x:=⟨3,x,[],0⟩) R8
 have R9:=st4_at (y:=Va.zero) (x:=⟨3,x,[],0⟩) R8
 have H9:JR (st4 w8 w.heap.size ⟨3,x,[],0⟩) p l (i + k):=⟨st4_other (H7.pur h8).own hne,H7.len,H7.le⟩
 have G9:Chg [p] w (st4 w8 w.heap.size ⟨3,x,[],0⟩):=by
   have g8:Chg [p] w w8:=((Chg.of_pur (S:=[p]) P1).trans G7).pur h8
   exact (((g8.setCell (a:=⟨w.heap.size,0,none⟩) (.inr (Nat.le_refl _)) _).setCell (a:=⟨w.heap.size,1,none⟩) (.inr (Nat.le_refl _)) _).setCell (a:=⟨w.heap.size,2,none⟩) (.inr (Nat.le_refl _)) _).setCell (a:=⟨w.heap.size,3,none⟩) (.inr (Nat.le_refl _)) _
 simp only [st4,Va.zero] at s0 s1 s2 s3 s4 s5 s6 s7 R9 H9 G9
 have HF:=Lib.hid (And.intro R9 (And.intro H9 G9))
 clear R8 R9 H9 G9 H7 G7 R7 q0 q1 NU7 CU EN
 go_wp2
 refine bodyPost_ret (results_cell_row rfl _ _ w.heap.size 25 _ (0,0) _ rfl HF.out.1 Tryz.underlying25 rfl (by kernel_rfl)) rfl ⟨rfl,HF.out.2⟩
end Li
namespace Li
/-- a node that holds a value alone -/
def leaf (v:Va):Array Value:=#[.int .i64 v.kind,.float .f64 v.num,.string ⟨v.text.toArray⟩,.int .i64 v.ref,.bool false,.slice none 0 0,.slice none 0 0,.bool false]
theorem set1 {w:World} {b:Nat} {T:TypeId} {cs cs':Array Value} (i:Nat) (y c:Value) (h:w.heap[b]?=some (.cells cs T (0,0))) (hy:cs[i]?=some y) (hc:cs.setIfInBounds i c=cs') :
   (w.frozen? ⟨b,i,none⟩=false∧w.cell? ⟨b,i,none⟩=some y)∧(w.setCell ⟨b,i,none⟩ c).heap[b]?=some (.cells cs' T (0,0))∧Chg [b] w (w.setCell ⟨b,i,none⟩ c):=by
 subst hc
 exact ⟨⟨bk_free h i,bk_cell h i y hy⟩,bk_set h i c,(Chg.refl [b] w).setCell (.inl (by simp)) c⟩
theorem jn8 {w:World} {b:Nat} {T:TypeId} {y0 y1 y2 y3 y4 y5 y6 y7:Value} (c0 c1 c2 c3 c4 c5 c6 c7:Value) (h:w.heap[b]?=some (.cells #[y0,y1,y2,y3,y4,y5,y6,y7] T (0,0))) :
   (w.frozen? ⟨b,0,none⟩=false∧w.cell? ⟨b,0,none⟩=some y0) ∧
   ((w.setCell ⟨b,0,none⟩ c0).frozen? ⟨b,1,none⟩=false∧(w.setCell ⟨b,0,none⟩ c0).cell? ⟨b,1,none⟩=some y1) ∧
   (((w.setCell ⟨b,0,none⟩ c0).setCell ⟨b,1,none⟩ c1).frozen? ⟨b,2,none⟩=false∧((w.setCell ⟨b,0,none⟩ c0).setCell ⟨b,1,none⟩ c1).cell? ⟨b,2,none⟩=some y2) ∧
   ((((w.setCell ⟨b,0,none⟩ c0).setCell ⟨b,1,none⟩ c1).setCell ⟨b,2,none⟩ c2).frozen? ⟨b,3,none⟩=false∧(((w.setCell ⟨b,0,none⟩ c0).setCell ⟨b,1,none⟩ c1).setCell ⟨b,2,none⟩ c2).cell? ⟨b,3,none⟩=some y3) ∧
   (((((w.setCell ⟨b,0,none⟩ c0).setCell ⟨b,1,none⟩ c1).setCell ⟨b,2,none⟩ c2).setCell ⟨b,3,none⟩ c3).frozen? ⟨b,4,none⟩=false∧((((w.setCell ⟨b,0,none⟩ c0).setCell ⟨b,1,none⟩ c1).setCell ⟨b,2,none⟩ c2).setCell ⟨b,3,none⟩ c3).cell? ⟨b,4,none⟩=some y4) ∧
   ((((((w.setCell ⟨b,0,none⟩ c0).setCell ⟨b,1,none⟩ c1).setCell ⟨b,2,none⟩ c2).setCell ⟨b,3,none⟩ c3).setCell ⟨b,4,none⟩ c4).frozen? ⟨b,5,none⟩=false∧(((((w.setCell ⟨b,0,none⟩ c0).setCell ⟨b,1,none⟩ c1).setCell ⟨b,2,none⟩ c2).setCell ⟨b,3,none⟩ c3).setCell ⟨b,4,none⟩ c4).cell? ⟨b,5,none⟩=some y5) ∧
   (((((((w.setCell ⟨b,0,none⟩ c0).setCell ⟨b,1,none⟩ c1).setCell ⟨b,2,none⟩ c2).setCell ⟨b,3,none⟩ c3).setCell ⟨b,4,none⟩ c4).setCell ⟨b,5,none⟩ c5).frozen? ⟨b,6,none⟩=false∧((((((w.setCell ⟨b,0,none⟩ c0).setCell ⟨b,1,none⟩ c1).setCell ⟨b,2,none⟩ c2).setCell ⟨b,3,none⟩ c3).setCell ⟨b,4,none⟩ c4).setCell ⟨b,5,none⟩ c5).cell? ⟨b,6,none⟩=some y6) ∧
   ((((((((w.setCell ⟨b,0,none⟩ c0).setCell ⟨b,1,none⟩ c1).setCell ⟨b,2,none⟩ c2).setCell ⟨b,3,none⟩ c3).setCell ⟨b,4,none⟩ c4).setCell ⟨b,5,none⟩ c5).setCell ⟨b,6,none⟩ c6).frozen? ⟨b,7,none⟩=false∧(((((((w.setCell ⟨b,0,none⟩ c0).setCell ⟨b,1,none⟩ c1).setCell ⟨b,2,none⟩ c2).setCell ⟨b,3,none⟩ c3).setCell ⟨b,4,none⟩ c4).setCell ⟨b,5,none⟩ c5).setCell ⟨b,6,none⟩ c6).cell? ⟨b,7,none⟩=some y7) ∧
   ((((((((w.setCell ⟨b,0,none⟩ c0).setCell ⟨b,1,none⟩ c1).setCell ⟨b,2,none⟩ c2).setCell ⟨b,3,none⟩ c3).setCell ⟨b,4,none⟩ c4).setCell ⟨b,5,none⟩ c5).setCell ⟨b,6,none⟩ c6).setCell ⟨b,7,none⟩ c7).heap[b]?=some (.cells #[c0,c1,c2,c3,c4,c5,c6,c7] T (0,0))∧Chg [b] w ((((((((w.setCell ⟨b,0,none⟩ c0).setCell ⟨b,1,none⟩ c1).setCell ⟨b,2,none⟩ c2).setCell ⟨b,3,none⟩ c3).setCell ⟨b,4,none⟩ c4).setCell ⟨b,5,none⟩ c5).setCell ⟨b,6,none⟩ c6).setCell ⟨b,7,none⟩ c7):=by
 obtain ⟨k0,h0,g0⟩:=set1 (cs':=#[c0,y1,y2,y3,y4,y5,y6,y7]) 0 y0 c0 h rfl rfl
 obtain ⟨k1,h1,g1⟩:=set1 (cs':=#[c0,c1,y2,y3,y4,y5,y6,y7]) 1 y1 c1 h0 rfl rfl
 obtain ⟨k2,h2,g2⟩:=set1 (cs':=#[c0,c1,c2,y3,y4,y5,y6,y7]) 2 y2 c2 h1 rfl rfl
 obtain ⟨k3,h3,g3⟩:=set1 (cs':=#[c0,c1,c2,c3,y4,y5,y6,y7]) 3 y3 c3 h2 rfl rfl
 obtain ⟨k4,h4,g4⟩:=set1 (cs':=#[c0,c1,c2,c3,c4,y5,y6,y7]) 4 y4 c4 h3 rfl rfl
 obtain ⟨k5,h5,g5⟩:=set1 (cs':=#[c0,c1,c2,c3,c4,c5,y6,y7]) 5 y5 c5 h4 rfl rfl
 obtain ⟨k6,h6,g6⟩:=set1 (cs':=#[c0,c1,c2,c3,c4,c5,c6,y7]) 6 y6 c6 h5 rfl rfl
 obtain ⟨k7,h7,g7⟩:=set1 (cs':=#[c0,c1,c2,c3,c4,c5,c6,c7]) 7 y7 c7 h6 rfl rfl
 exact ⟨k0,k1,k2,k3,k4,k5,k6,k7,h7,(((((((g0.trans g1).trans g2).trans g3).trans g4).trans g5).trans g6).trans g7)⟩
theorem jn4 {w:World} {b:Nat} {T:TypeId} {y0 y1 y2 y3 y4 y5 y6 y7:Value} (c0 c1 c2 c3:Value) (h:w.heap[b]?=some (.cells #[y0,y1,y2,y3,y4,y5,y6,y7] T (0,0))) :
   (w.frozen? ⟨b,0,none⟩=false∧w.cell? ⟨b,0,none⟩=some y0) ∧
   ((w.setCell ⟨b,0,none⟩ c0).frozen? ⟨b,1,none⟩=false∧(w.setCell ⟨b,0,none⟩ c0).cell? ⟨b,1,none⟩=some y1) ∧
   (((w.setCell ⟨b,0,none⟩ c0).setCell ⟨b,1,none⟩ c1).frozen? ⟨b,2,none⟩=false∧((w.setCell ⟨b,0,none⟩ c0).setCell ⟨b,1,none⟩ c1).cell? ⟨b,2,none⟩=some y2) ∧
   ((((w.setCell ⟨b,0,none⟩ c0).setCell ⟨b,1,none⟩ c1).setCell ⟨b,2,none⟩ c2).frozen? ⟨b,3,none⟩=false∧(((w.setCell ⟨b,0,none⟩ c0).setCell ⟨b,1,none⟩ c1).setCell ⟨b,2,none⟩ c2).cell? ⟨b,3,none⟩=some y3) ∧
   ((((w.setCell ⟨b,0,none⟩ c0).setCell ⟨b,1,none⟩ c1).setCell ⟨b,2,none⟩ c2).setCell ⟨b,3,none⟩ c3).heap[b]?=some (.cells #[c0,c1,c2,c3,y4,y5,y6,y7] T (0,0))∧Chg [b] w ((((w.setCell ⟨b,0,none⟩ c0).setCell ⟨b,1,none⟩ c1).setCell ⟨b,2,none⟩ c2).setCell ⟨b,3,none⟩ c3):=by
 obtain ⟨k0,h0,g0⟩:=set1 (cs':=#[c0,y1,y2,y3,y4,y5,y6,y7]) 0 y0 c0 h rfl rfl
 obtain ⟨k1,h1,g1⟩:=set1 (cs':=#[c0,c1,y2,y3,y4,y5,y6,y7]) 1 y1 c1 h0 rfl rfl
 obtain ⟨k2,h2,g2⟩:=set1 (cs':=#[c0,c1,c2,y3,y4,y5,y6,y7]) 2 y2 c2 h1 rfl rfl
 obtain ⟨k3,h3,g3⟩:=set1 (cs':=#[c0,c1,c2,c3,y4,y5,y6,y7]) 3 y3 c3 h2 rfl rfl
 exact ⟨k0,k1,k2,k3,h3,(((g0.trans g1).trans g2).trans g3)⟩
end Li
end Go.Proofs.YtgdolcoiihagfaaGreatDoor
