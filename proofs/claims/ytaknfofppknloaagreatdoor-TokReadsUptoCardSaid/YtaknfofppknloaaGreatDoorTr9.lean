/- Layer 2, the document's answer: a tag. -/
import Derived.Test.YtaknfofppknloaaGreatDoorTr8
import Derived.Test.YtaknfofppknloaaGreatDoorTk16
namespace Go.Proofs.YtaknfofppknloaaGreatDoor
open Go Go.RowKit
set_option linter.all false
namespace Tk
variable {w : World} {r : Ro} {cs : Cs} {i e : Nat} {wh : Nat × Nat}
def Tagv (u : Value) : Prop := ∃ (k a b : Int) (nm tx : List UInt8) (x : Option Addr) (m c : Nat) (em : Bool), u = .agg #[.int .i64 k, .string ⟨nm.toArray⟩, .slice x m c, .string ⟨tx.toArray⟩, .int .i64 a, .int .i64 b, .bool em]
/-- how a tag ends: the token, its attributes in a new row -/
def RTag (w : World) (r : Ro) (cs : Cs) (i : Nat) (wh : Nat × Nat) (q : R Tok) (e : Ending) (w' : World) : Prop := match q with
  | .ok (t, z) => ∃ av, e = .returned (.agg ((t.fin cs).cells av).toArray) ∧ w'.ownsRow w.heap.size 40 4 av t.attrs.length ((t.attrs.map (Attr.fin cs)).flatMap AttrV.cells) ∧ ∃ j, cs.drop j = z ∧ i < j ∧ j ≤ cs.length ∧ Sc w' r cs j 0 wh ∧ Chg [r.p] w w'
  | .error (k, n) => (∃ u, e = .returned u ∧ Tagv u) ∧ ∃ j, i < j ∧ j ≤ cs.length + 1 ∧ n ≠ 0 ∧ Sc w' r cs j n (place cs (cs.length - k)) ∧ Chg [r.p] w w'
set_option maxRecDepth 100000 in
/-- the attributes, where a fault has been told: none -/
theorem rattrs_err (h : Sc w r cs i e wh) (he : e ≠ 0) : Calls Tryz.prog 38 #[.pointer (some ⟨r.p, 0, none⟩)] w fun e' w' => e' = .returned (.slice none 0 0) ∧ w = w' := by
  have c4 := h.c4
  have dn : ((e : Int) == 0) = false := by rw [beq_eq_false_iff_ne]; omega
  clear h
  go_enter Tryz.func38, Tryz.ntmps38
  go_wp2
  go_loopw [3] (fun v wr => v = .slice none 0 0 ∧ wr = w) (fun _ _ => 0)
  case atStart => exact ⟨rfl, rfl⟩
  case round =>
    obtain ⟨rfl, rfl⟩ := hrel
    go_wp2
    go_ret
    exact ⟨rfl, rfl⟩
theorem fin7 {w0 : World} (h : Sc w r cs i e wh) (g : Chg [r.p] w0 w) {b : Nat} {a0 a1 a2 a3 a4 a5 a6 : Value} (K : w.heap[b]? = some (.cells #[a0, a1, a2, a3, a4, a5, a6] 38)) (hb : b ∉ r.p :: r.row) (hw : w0.heap.size ≤ b) (v0 v1 v2 v3 v4 v5 v6 : Value) :
    Sc (((((((w.setCell ⟨b, 0, none⟩ v0).setCell ⟨b, 1, none⟩ v1).setCell ⟨b, 2, none⟩ v2).setCell ⟨b, 3, none⟩ v3).setCell ⟨b, 4, none⟩ v4).setCell ⟨b, 5, none⟩ v5).setCell ⟨b, 6, none⟩ v6) r cs i e wh ∧
    Chg [r.p] w0 (((((((w.setCell ⟨b, 0, none⟩ v0).setCell ⟨b, 1, none⟩ v1).setCell ⟨b, 2, none⟩ v2).setCell ⟨b, 3, none⟩ v3).setCell ⟨b, 4, none⟩ v4).setCell ⟨b, 5, none⟩ v5).setCell ⟨b, 6, none⟩ v6) ∧
    (((((((w.setCell ⟨b, 0, none⟩ v0).setCell ⟨b, 1, none⟩ v1).setCell ⟨b, 2, none⟩ v2).setCell ⟨b, 3, none⟩ v3).setCell ⟨b, 4, none⟩ v4).setCell ⟨b, 5, none⟩ v5).setCell ⟨b, 6, none⟩ v6).heap[b]? = some (.cells #[v0, v1, v2, v3, v4, v5, v6] 38 (0, 0)) := by
  refine ⟨?_, ?_, ?_⟩
  · exact ((((((h.set_other hb v0).set_other hb v1).set_other hb v2).set_other hb v3).set_other hb v4).set_other hb v5).set_other hb v6
  · exact ((((((g.setCell (.inr hw) v0).setCell (.inr hw) v1).setCell (.inr hw) v2).setCell (.inr hw) v3).setCell (.inr hw) v4).setCell (.inr hw) v5).setCell (.inr hw) v6
  · clear h g
    have k0 : (w.setCell ⟨b, 0, none⟩ v0).heap[b]? = some (.cells #[v0, a1, a2, a3, a4, a5, a6] 38 (0, 0)) := bk_set K 0 v0
    generalize w.setCell ⟨b, 0, none⟩ v0 = W0 at k0 ⊢
    have k1 : (W0.setCell ⟨b, 1, none⟩ v1).heap[b]? = some (.cells #[v0, v1, a2, a3, a4, a5, a6] 38 (0, 0)) := bk_set k0 1 v1
    generalize W0.setCell ⟨b, 1, none⟩ v1 = W1 at k1 ⊢
    have k2 : (W1.setCell ⟨b, 2, none⟩ v2).heap[b]? = some (.cells #[v0, v1, v2, a3, a4, a5, a6] 38 (0, 0)) := bk_set k1 2 v2
    generalize W1.setCell ⟨b, 2, none⟩ v2 = W2 at k2 ⊢
    have k3 : (W2.setCell ⟨b, 3, none⟩ v3).heap[b]? = some (.cells #[v0, v1, v2, v3, a4, a5, a6] 38 (0, 0)) := bk_set k2 3 v3
    generalize W2.setCell ⟨b, 3, none⟩ v3 = W3 at k3 ⊢
    have k4 : (W3.setCell ⟨b, 4, none⟩ v4).heap[b]? = some (.cells #[v0, v1, v2, v3, v4, a5, a6] 38 (0, 0)) := bk_set k3 4 v4
    generalize W3.setCell ⟨b, 4, none⟩ v4 = W4 at k4 ⊢
    have k5 : (W4.setCell ⟨b, 5, none⟩ v5).heap[b]? = some (.cells #[v0, v1, v2, v3, v4, v5, a6] 38 (0, 0)) := bk_set k4 5 v5
    generalize W4.setCell ⟨b, 5, none⟩ v5 = W5 at k5 ⊢
    have k6 : (W5.setCell ⟨b, 6, none⟩ v6).heap[b]? = some (.cells #[v0, v1, v2, v3, v4, v5, v6] 38 (0, 0)) := bk_set k5 6 v6
    generalize W5.setCell ⟨b, 6, none⟩ v6 = W6 at k6 ⊢
    exact k6
theorem row7 {base : Nat} {t : TypeId} {size : Nat} {v : Value} {n : Nat} {xs : List Value} (h : w.ownsRow base t size v n xs) {r : Nat} (ha : v.ownBlock ≠ some r) (v0 v1 v2 v3 v4 v5 v6 : Value) :
    (((((((w.setCell ⟨r, 0, none⟩ v0).setCell ⟨r, 1, none⟩ v1).setCell ⟨r, 2, none⟩ v2).setCell ⟨r, 3, none⟩ v3).setCell ⟨r, 4, none⟩ v4).setCell ⟨r, 5, none⟩ v5).setCell ⟨r, 6, none⟩ v6).ownsRow base t size v n xs :=
  row_set (row_set (row_set (row_set (row_set (row_set (row_set h (a := ⟨r, 0, none⟩) ha v0) (a := ⟨r, 1, none⟩) ha v1) (a := ⟨r, 2, none⟩) ha v2) (a := ⟨r, 3, none⟩) ha v3) (a := ⟨r, 4, none⟩) ha v4) (a := ⟨r, 5, none⟩) ha v5) (a := ⟨r, 6, none⟩) ha v6
set_option maxRecDepth 100000 in
set_option maxHeartbeats 16000000 in
theorem rtag_any (h : Sc w r cs i 0 wh) (hi : i < cs.length) : Calls Tryz.prog 17 #[.pointer (some ⟨r.p, 0, none⟩)] w fun e w' => RTag w r cs i wh (tag (cs.drop i)) e w' := by
  have hcl := h.clen
  have hps := h.lt
  go_enter Tryz.func17, Tryz.ntmps17
  go_wp2
  obtain ⟨wa, hwa⟩ : ∃ wa, wa = w.alloc (.cells #[.int .i64 0, .string ⟨#[]⟩, .slice none 0 0, .string ⟨#[]⟩, .int .i64 0, .int .i64 0, .bool false] 38) := ⟨_, rfl⟩
  have pa : Pur w wa := by rw [hwa]; exact (Pur.refl _).alloc _
  have KRa : wa.heap[w.heap.size]? = some (.cells #[.int .i64 0, .string ⟨#[]⟩, .slice none 0 0, .string ⟨#[]⟩, .int .i64 0, .int .i64 0, .bool false] 38) := by rw [hwa]; exact bk_new _ _
  rw [← hwa]
  clear hwa
  have h1 := h.pur pa
  have G1 : Chg [r.p] w wa := .of_pur pa
  have hRa : w.heap.size ∉ r.p :: r.row := fun hm => by have := h.all_lt _ hm; omega
  have hRw : w.heap.size ≤ w.heap.size := by omega
  have hRb := bk_lt KRa
  have c2 := h1.c2
  have c3 := h1.c3
  obtain ⟨ga, gc, hav, hgc, hga, hsp⟩ := h1.ashape
  rw [hav] at c2
  obtain ⟨s0, s1⟩ := hsp i (by omega)
  have hi1' : (i : Int) < (cs.length : Int) + 1 := by omega
  clear hsp hav
  have hxa := (Pur.refl wa).alloc (.cells #[.int .i64 0, .string ⟨#[]⟩, .slice none 0 0, .string ⟨#[]⟩, .int .i64 0, .int .i64 0, .bool false] 38)
  have z2 := c2
  have z3 := c3
  have zs0 := s0
  have zs1 := s1
  rw [← hxa.cell (by exact h1.lt)] at z2 z3
  rw [← hxa.cell (by exact hga)] at zs0 zs1
  go_region
  obtain ⟨w5, hw5⟩ : ∃ w5, w5 = (wa.alloc (.cells #[.int .i64 1, .string ⟨#[]⟩, .slice none 0 0, .string ⟨#[]⟩, .int .i64 ((place cs i).1 : Int), .int .i64 ((place cs i).2 : Int), .bool false] 38)).drew := ⟨_, rfl⟩
  have p5 : Pur wa w5 := by rw [hw5]; exact ((Pur.refl _).alloc _).drew
  have K5 : w5.heap[wa.heap.size]? = some (.cells #[.int .i64 1, .string ⟨#[]⟩, .slice none 0 0, .string ⟨#[]⟩, .int .i64 ((place cs i).1 : Int), .int .i64 ((place cs i).2 : Int), .bool false] 38) := by rw [hw5]; exact bk_new _ _
  rw [← hw5]
  clear hw5
  have KR5 := bk_pur KRa p5
  have h5 := h1.pur p5
  have G5 := G1.pur p5
  have hLa : wa.heap.size ∉ r.p :: r.row := fun hm => by have := h1.all_lt _ hm; omega
  have hLw : w.heap.size ≤ wa.heap.size := G1.size
  have hLp : r.p < wa.heap.size := h1.lt
  have hne : w.heap.size ≠ wa.heap.size := by omega
  have hTB := bk_lt K5
  have hLb : wa.heap.size < w5.heap.size := hTB
  generalize wa.heap.size = TB at *
  have hpl : cs.length - (cs.length - i) = i := by omega
  clear hxa z2 z3 zs0 zs1 c2 s0 s1 c3 h1 p5
  have c3 := h5.c3
  have f3 := h5.f 3
  have wi : IntKind.i64.wrap ((i : Int) + 1) = (i : Int) + 1 := IntWalk.i64_in _ (by omega)
  have wi2 : IntKind.i64.wrap ((i : Int) + 2) = (i : Int) + 2 := IntWalk.i64_in _ (by omega)
  have wi3 : IntKind.i64.wrap ((i : Int) + 1 + 1) = (i : Int) + 2 := by rw [show (i : Int) + 1 + 1 = (i : Int) + 2 by omega]; exact wi2
  have h6 := h5.seti (i + 1) ((i : Int) + 1) (by omega)
  have c6 := Chg.seti r w5 3 (.int .i64 ((i : Int) + 1))
  have K6 := bk_chg K5 c6 (by simp; omega)
  have KR6 := bk_chg KR5 c6 (by simp; omega)
  have G6 := G5.trans c6
  have hRp : r.p < w.heap.size := hps
  have hlow : ∀ (u : Value) (w' : World) n xs, w'.ownsRow w5.heap.size 40 4 u n xs → ∀ g, u.ownBlock = some g → g ∉ [r.p] := fun u w' n xs hx g hg hm => by have := (hx.lt g hg).1; simp only [List.mem_singleton] at hm; omega
  have hLo : ∀ (u : Value) (w' : World) n xs, w'.ownsRow w5.heap.size 40 4 u n xs → u.ownBlock ≠ some TB := fun u w' n xs hx hg => by have := (hx.lt _ hg).1; omega
  have hLr : ∀ (u : Value) (w' : World) n xs, w'.ownsRow w5.heap.size 40 4 u n xs → u.ownBlock ≠ some w.heap.size := fun u w' n xs hx hg => by have := (hx.lt _ hg).1; omega
  have hgen : w.heap.size ≤ w5.heap.size := G5.size
  have CC := c_any h6 (i + 1) (by omega)
  rw [Int.natCast_add] at CC
  have hTG : hd (fun c => c == 47) ((cs.drop i).drop 1) = on (fun c => c == 47) (pk (cs.drop (i + 1))) := by rw [on_pk, List.drop_drop]
  rcases Decidable.em (pk (cs.drop (i + 1)) = 47) with hx | hx
  · have h47 : hd (fun c => c == 47) ((cs.drop i).drop 1) = true := by rw [hTG, hx]; rfl
    have hil : i + 1 < cs.length := by
      rcases Nat.lt_or_ge (i + 1) cs.length with g | g
      · exact g
      · rw [List.drop_of_length_le g] at hx; simp [pk] at hx
    have HT := Lib.hid (show tag (cs.drop i) = (name (cs.drop (i + 2))).and fun nm r1 => (takeC 62 (blanks r1)).and fun _ z => .ok (⟨2, nm, [], [], cs.length - i, false⟩, z) by
      unfold tag; rw [if_pos h47, List.drop_drop, List.length_drop])
    rw [hx] at CC
    clear hTG hx h47
    have c3 := h6.c3
    have f3 := h6.f 3
    have h7 := h6.seti (i + 2) ((i : Int) + 2) (by omega)
    have c7 := Chg.seti r (w5.setCell ⟨r.p, 3, none⟩ (.int .i64 ((i : Int) + 1))) 3 (.int .i64 ((i : Int) + 2))
    have K7 := bk_chg K6 c7 (by simp; omega)
    have KR7 := bk_chg KR6 c7 (by simp; omega)
    have G7 := G6.trans c7
    have x0 := bk_cell K7 0 _ rfl
    have f0 := bk_free K7 0
    have K8 := bk_set K7 0 (.int .i64 2)
    have KR8 := bk_other KR7 (a := ⟨TB, 0, none⟩) hne (.int .i64 2)
    have h8 := h7.set_other (a := ⟨TB, 0, none⟩) hLa (.int .i64 2)
    have G8 := G7.setCell (a := ⟨TB, 0, none⟩) (.inr hLw) (.int .i64 2)
    have NM := rname_any h8 (by omega)
    go_wp2_with fail
    refine CC.mono ?_
    rintro e w6 ⟨rfl, rfl⟩
    rcases hnm : name (cs.drop (i + 2)) with ⟨k, n⟩ | ⟨nm, r1⟩
    · rw [hnm] at NM HT
      have HS := Lib.hid (show tag (cs.drop i) = .error (k, n) by rw [HT.out]; rfl)
      clear HT hnm CC
      go_wp2_with fail
      refine NM.mono ?_
      rintro e w9 ⟨⟨_, rfl, ul, rfl, hul⟩, i9, b9, d9, hn, h9, c9⟩
      clear NM K5 K6 K7 KR5 KR6 KR7 G5 G6 G7 h5 h6 h7
      have K9 := bk_chg K8 c9 (by simp; omega)
      have KR9 := bk_chg KR8 c9 (by simp; omega)
      have G9 := G8.trans c9
      have x1 := bk_cell K9 1 _ rfl
      have f1 := bk_free K9 1
      have K10 := bk_set K9 1 (.string ⟨(ul).toArray⟩)
      have KR10 := bk_other KR9 (a := ⟨TB, 1, none⟩) hne (.string ⟨(ul).toArray⟩)
      have h10 := h9.set_other (a := ⟨TB, 1, none⟩) hLa (.string ⟨(ul).toArray⟩)
      have G10 := G9.setCell (a := ⟨TB, 1, none⟩) (.inr hLw) (.string ⟨(ul).toArray⟩)
      have B := rblanks_any h10 (by omega)
      clear K8 KR8 h8 h9
      go_wp2_with fail
      refine B.mono ?_
      rintro e w11 ⟨rfl, i11, -, b11, d11, h11, c11⟩
      clear B
      have K11 := bk_chg K10 c11 (by simp; omega)
      have KR11 := bk_chg KR10 c11 (by simp; omega)
      have G11 := G10.trans c11
      clear K9 KR9 K10 KR10 h10
      have y0 := bk_cell K11 0 (.int .i64 2) rfl
      have g0 := bk_free KR11 0
      have y1 := bk_cell K11 1 (.string ⟨(ul).toArray⟩) rfl
      have g1 := bk_free KR11 1
      have y2 := bk_cell K11 2 (.slice none 0 0) rfl
      have g2 := bk_free KR11 2
      have y3 := bk_cell K11 3 (.string ⟨#[]⟩) rfl
      have g3 := bk_free KR11 3
      have y4 := bk_cell K11 4 (.int .i64 ((place cs i).1 : Int)) rfl
      have g4 := bk_free KR11 4
      have y5 := bk_cell K11 5 (.int .i64 ((place cs i).2 : Int)) rfl
      have g5 := bk_free KR11 5
      have y6 := bk_cell K11 6 (.bool false) rfl
      have g6 := bk_free KR11 6
      have q0 := bk_cell KR11 0 _ rfl
      have q1 := bk_cell KR11 1 _ rfl
      have q2 := bk_cell KR11 2 _ rfl
      have q3 := bk_cell KR11 3 _ rfl
      have q4 := bk_cell KR11 4 _ rfl
      have q5 := bk_cell KR11 5 _ rfl
      have q6 := bk_cell KR11 6 _ rfl
      have c4 := h11.c4
      have dn : ((n : Int) == 0) = false := by rw [beq_eq_false_iff_ne]; omega
      have HF := fin7 h11 G11 KR11 hRa hRw (.int .i64 2) (.string ⟨(ul).toArray⟩) (.slice none 0 0) (.string ⟨#[]⟩) (.int .i64 ((place cs i).1 : Int)) (.int .i64 ((place cs i).2 : Int)) (.bool false)
      go_wp2
      (try simp only [Exit.inBlock, Exit.then])
      refine bodyPost_ret (results_cell_row rfl _ _ w.heap.size 38 _ (0, 0) _ rfl HF.2.2 Tryz.underlying38 rfl (by kernel_rfl)) rfl ?_
      rw [HS.out]
      exact ⟨⟨_, rfl, ⟨_, _, _, _, _, _, _, _, _, rfl⟩⟩, i11, by omega, by omega, hn, HF.1, HF.2.1⟩
    rw [hnm] at NM HT
    simp only [and_ok] at HT
    clear hnm CC
    go_wp2_with fail
    refine NM.mono ?_
    rintro e w9 ⟨rfl, i9, a9, b9, d9, h9, c9⟩
    clear NM K5 K6 K7 KR5 KR6 KR7 G5 G6 G7 h5 h6 h7
    have K9 := bk_chg K8 c9 (by simp; omega)
    have KR9 := bk_chg KR8 c9 (by simp; omega)
    have G9 := G8.trans c9
    have x1 := bk_cell K9 1 _ rfl
    have f1 := bk_free K9 1
    have K10 := bk_set K9 1 (.string ⟨(narrow nm).toArray⟩)
    have KR10 := bk_other KR9 (a := ⟨TB, 1, none⟩) hne (.string ⟨(narrow nm).toArray⟩)
    have h10 := h9.set_other (a := ⟨TB, 1, none⟩) hLa (.string ⟨(narrow nm).toArray⟩)
    have G10 := G9.setCell (a := ⟨TB, 1, none⟩) (.inr hLw) (.string ⟨(narrow nm).toArray⟩)
    have B := rblanks_any h10 (by omega)
    rw [a9] at B
    clear K8 KR8 h8 h9 a9
    go_wp2_with fail
    refine B.mono ?_
    rintro e w11 ⟨rfl, i11, a11, b11, d11, h11, c11⟩
    clear B
    have K11 := bk_chg K10 c11 (by simp; omega)
    have KR11 := bk_chg KR10 c11 (by simp; omega)
    have G11 := G10.trans c11
    clear K9 KR9 K10 KR10 h10
    have ON := rone_any h11 (by omega) 62
    rw [a11] at ON
    clear a11
    have c4 := h11.c4
    rcases hto : takeC 62 (blanks r1) with ⟨k, n⟩ | ⟨u, z⟩
    · rw [hto] at ON HT
      have HS := Lib.hid (show tag (cs.drop i) = .error (k, n) by rw [HT.out]; rfl)
      clear HT hto
      go_wp2_with fail
      refine ON.mono ?_
      rintro e w12 ⟨⟨_, rfl, rfl⟩, i12, b12, d12, hn, h12, c12⟩
      clear ON c4
      have K12 := bk_chg K11 c12 (by simp; omega)
      have KR12 := bk_chg KR11 c12 (by simp; omega)
      have G12 := G11.trans c12
      have y0 := bk_cell K12 0 (.int .i64 2) rfl
      have g0 := bk_free KR12 0
      have y1 := bk_cell K12 1 (.string ⟨(narrow nm).toArray⟩) rfl
      have g1 := bk_free KR12 1
      have y2 := bk_cell K12 2 (.slice none 0 0) rfl
      have g2 := bk_free KR12 2
      have y3 := bk_cell K12 3 (.string ⟨#[]⟩) rfl
      have g3 := bk_free KR12 3
      have y4 := bk_cell K12 4 (.int .i64 ((place cs i).1 : Int)) rfl
      have g4 := bk_free KR12 4
      have y5 := bk_cell K12 5 (.int .i64 ((place cs i).2 : Int)) rfl
      have g5 := bk_free KR12 5
      have y6 := bk_cell K12 6 (.bool false) rfl
      have g6 := bk_free KR12 6
      have q0 := bk_cell KR12 0 _ rfl
      have q1 := bk_cell KR12 1 _ rfl
      have q2 := bk_cell KR12 2 _ rfl
      have q3 := bk_cell KR12 3 _ rfl
      have q4 := bk_cell KR12 4 _ rfl
      have q5 := bk_cell KR12 5 _ rfl
      have q6 := bk_cell KR12 6 _ rfl
      have c4 := h12.c4
      have dn : ((n : Int) == 0) = false := by rw [beq_eq_false_iff_ne]; omega
      have HF := fin7 h12 G12 KR12 hRa hRw (.int .i64 2) (.string ⟨(narrow nm).toArray⟩) (.slice none 0 0) (.string ⟨#[]⟩) (.int .i64 ((place cs i).1 : Int)) (.int .i64 ((place cs i).2 : Int)) (.bool false)
      go_wp2
      (try simp only [Exit.inBlock, Exit.then])
      refine bodyPost_ret (results_cell_row rfl _ _ w.heap.size 38 _ (0, 0) _ rfl HF.2.2 Tryz.underlying38 rfl (by kernel_rfl)) rfl ?_
      rw [HS.out]
      exact ⟨⟨_, rfl, ⟨_, _, _, _, _, _, _, _, _, rfl⟩⟩, i12, by omega, by omega, hn, HF.1, HF.2.1⟩
    rw [hto] at ON HT
    simp only [and_ok] at HT
    clear hto
    go_wp2_with fail
    refine ON.mono ?_
    rintro e w12 ⟨rfl, i12, a12, b12, d12, h12, c12⟩
    clear ON c4
    replace a12 := Lib.hid a12
    have HS := HT
    have K12 := bk_chg K11 c12 (by simp; omega)
    have KR12 := bk_chg KR11 c12 (by simp; omega)
    have G12 := G11.trans c12
    have y0 := bk_cell K12 0 (.int .i64 2) rfl
    have g0 := bk_free KR12 0
    have y1 := bk_cell K12 1 (.string ⟨(narrow nm).toArray⟩) rfl
    have g1 := bk_free KR12 1
    have y2 := bk_cell K12 2 (.slice none 0 0) rfl
    have g2 := bk_free KR12 2
    have y3 := bk_cell K12 3 (.string ⟨#[]⟩) rfl
    have g3 := bk_free KR12 3
    have y4 := bk_cell K12 4 (.int .i64 ((place cs i).1 : Int)) rfl
    have g4 := bk_free KR12 4
    have y5 := bk_cell K12 5 (.int .i64 ((place cs i).2 : Int)) rfl
    have g5 := bk_free KR12 5
    have y6 := bk_cell K12 6 (.bool false) rfl
    have g6 := bk_free KR12 6
    have q0 := bk_cell KR12 0 _ rfl
    have q1 := bk_cell KR12 1 _ rfl
    have q2 := bk_cell KR12 2 _ rfl
    have q3 := bk_cell KR12 3 _ rfl
    have q4 := bk_cell KR12 4 _ rfl
    have q5 := bk_cell KR12 5 _ rfl
    have q6 := bk_cell KR12 6 _ rfl
    have c4 := h12.c4
    have HF := fin7 h12 G12 KR12 hRa hRw (.int .i64 2) (.string ⟨(narrow nm).toArray⟩) (.slice none 0 0) (.string ⟨#[]⟩) (.int .i64 ((place cs i).1 : Int)) (.int .i64 ((place cs i).2 : Int)) (.bool false)
    go_wp2
    (try simp only [Exit.inBlock, Exit.then])
    refine bodyPost_ret (results_cell_row rfl _ _ w.heap.size 38 _ (0, 0) _ rfl HF.2.2 Tryz.underlying38 rfl (by kernel_rfl)) rfl ?_
    rw [HS.out]
    exact ⟨.slice none 0 0, by simp [Tok.fin, TokV.cells, hpl, narrow_nil'], World.ownsRow_nil _ _ _ _, i12, a12.out, by omega, by omega, HF.1, HF.2.1⟩
  · have h47 : hd (fun c => c == 47) ((cs.drop i).drop 1) = false := by
      rw [hTG]
      unfold on
      rw [Bool.and_eq_false_iff]
      rcases Int.lt_or_le (pk (cs.drop (i + 1))) 0 with g | g
      · exact .inl (by simp; omega)
      · exact .inr (by simp; omega)
    have HT := Lib.hid (show tag (cs.drop i) = (name (cs.drop (i + 1))).and fun nm r1 => (attrs r1).and fun l r2 =>
          if hd (fun c => c == 47) r2 then (takeC 62 (r2.drop 1)).and fun _ z => .ok (⟨1, nm, l, [], cs.length - i, true⟩, z)
          else (takeC 62 r2).and fun _ z => .ok (⟨1, nm, l, [], cs.length - i, false⟩, z) by
      unfold tag; rw [if_neg (by rw [h47]; simp), List.drop_drop, List.length_drop])
    have dx : (pk (cs.drop (i + 1)) == 47) = false := by rw [beq_eq_false_iff_ne]; exact hx
    generalize pk (cs.drop (i + 1)) = px at *
    clear hTG hx h47
    have NM := rname_any h6 (by omega)
    go_wp2_with fail
    refine CC.mono ?_
    rintro e w7 ⟨rfl, rfl⟩
    rcases hnm : name (cs.drop (i + 1)) with ⟨k, n⟩ | ⟨nm, r1⟩
    · rw [hnm] at NM HT
      have HS := Lib.hid (show tag (cs.drop i) = .error (k, n) by rw [HT.out]; rfl)
      clear HT hnm CC
      go_wp2_with fail
      refine NM.mono ?_
      rintro e w9 ⟨⟨_, rfl, ul, rfl, hul⟩, i9, b9, d9, hn, h9, c9⟩
      clear NM K5 KR5 G5 h5
      have K9 := bk_chg K6 c9 (by simp; omega)
      have KR9 := bk_chg KR6 c9 (by simp; omega)
      have G9 := G6.trans c9
      have x1 := bk_cell K9 1 _ rfl
      have f1 := bk_free K9 1
      have K10 := bk_set K9 1 (.string ⟨(ul).toArray⟩)
      have KR10 := bk_other KR9 (a := ⟨TB, 1, none⟩) hne (.string ⟨(ul).toArray⟩)
      have h10 := h9.set_other (a := ⟨TB, 1, none⟩) hLa (.string ⟨(ul).toArray⟩)
      have G10 := G9.setCell (a := ⟨TB, 1, none⟩) (.inr hLw) (.string ⟨(ul).toArray⟩)
      have B := rattrs_err h10 hn
      clear K6 KR6 h6 h9
      go_wp2_with fail
      refine B.mono ?_
      rintro e w11 ⟨rfl, rfl⟩
      clear B
      have x2 := bk_cell K10 2 _ rfl
      have f2 := bk_free K10 2
      have K11 := bk_set K10 2 (.slice none 0 0)
      have KR11 := bk_other KR10 (a := ⟨TB, 2, none⟩) hne (.slice none 0 0)
      have h11 := h10.set_other (a := ⟨TB, 2, none⟩) hLa (.slice none 0 0)
      have G11 := G10.setCell (a := ⟨TB, 2, none⟩) (.inr hLw) (.slice none 0 0)
      clear K9 KR9 K10 KR10 h10
      have y0 := bk_cell K11 0 (.int .i64 1) rfl
      have g0 := bk_free KR11 0
      have y1 := bk_cell K11 1 (.string ⟨(ul).toArray⟩) rfl
      have g1 := bk_free KR11 1
      have y2 := bk_cell K11 2 (.slice none 0 0) rfl
      have g2 := bk_free KR11 2
      have y3 := bk_cell K11 3 (.string ⟨#[]⟩) rfl
      have g3 := bk_free KR11 3
      have y4 := bk_cell K11 4 (.int .i64 ((place cs i).1 : Int)) rfl
      have g4 := bk_free KR11 4
      have y5 := bk_cell K11 5 (.int .i64 ((place cs i).2 : Int)) rfl
      have g5 := bk_free KR11 5
      have y6 := bk_cell K11 6 (.bool false) rfl
      have g6 := bk_free KR11 6
      have q0 := bk_cell KR11 0 _ rfl
      have q1 := bk_cell KR11 1 _ rfl
      have q2 := bk_cell KR11 2 _ rfl
      have q3 := bk_cell KR11 3 _ rfl
      have q4 := bk_cell KR11 4 _ rfl
      have q5 := bk_cell KR11 5 _ rfl
      have q6 := bk_cell KR11 6 _ rfl
      have c4 := h11.c4
      have dn : ((n : Int) == 0) = false := by rw [beq_eq_false_iff_ne]; omega
      have HF := fin7 h11 G11 KR11 hRa hRw (.int .i64 1) (.string ⟨(ul).toArray⟩) (.slice none 0 0) (.string ⟨#[]⟩) (.int .i64 ((place cs i).1 : Int)) (.int .i64 ((place cs i).2 : Int)) (.bool false)
      go_wp2
      (try simp only [Exit.inBlock, Exit.then])
      refine bodyPost_ret (results_cell_row rfl _ _ w.heap.size 38 _ (0, 0) _ rfl HF.2.2 Tryz.underlying38 rfl (by kernel_rfl)) rfl ?_
      rw [HS.out]
      exact ⟨⟨_, rfl, ⟨_, _, _, _, _, _, _, _, _, rfl⟩⟩, i9, by omega, by omega, hn, HF.1, HF.2.1⟩
    rw [hnm] at NM HT
    simp only [and_ok] at HT
    clear hnm CC
    go_wp2_with fail
    refine NM.mono ?_
    rintro e w9 ⟨rfl, i9, a9, b9, d9, h9, c9⟩
    clear NM K5 KR5 G5 h5
    have K9 := bk_chg K6 c9 (by simp; omega)
    have KR9 := bk_chg KR6 c9 (by simp; omega)
    have G9 := G6.trans c9
    have x1 := bk_cell K9 1 _ rfl
    have f1 := bk_free K9 1
    have K10 := bk_set K9 1 (.string ⟨(narrow nm).toArray⟩)
    have KR10 := bk_other KR9 (a := ⟨TB, 1, none⟩) hne (.string ⟨(narrow nm).toArray⟩)
    have h10 := h9.set_other (a := ⟨TB, 1, none⟩) hLa (.string ⟨(narrow nm).toArray⟩)
    have G10 := G9.setCell (a := ⟨TB, 1, none⟩) (.inr hLw) (.string ⟨(narrow nm).toArray⟩)
    have AT := rattrs_any h10 (by omega)
    rw [a9] at AT
    clear K6 KR6 h6 h9 a9
    have hsz := G10.size
    have hsz5 := c9.size
    rcases hat : attrs r1 with ⟨k, n⟩ | ⟨l, r2⟩
    · rw [hat] at AT HT
      have HS := Lib.hid (show tag (cs.drop i) = .error (k, n) by rw [HT.out]; rfl)
      clear HT hat
      go_wp2_with fail
      refine AT.mono ?_
      rintro e w11 ⟨⟨xa, xm, xc, rfl⟩, i11, b11, d11, hn, h11, c11⟩
      clear AT
      have K11 := bk_chg K10 c11 (by simp; omega)
      have KR11 := bk_chg KR10 c11 (by simp; omega)
      have G11 := G10.trans c11
      have x2 := bk_cell K11 2 _ rfl
      have f2 := bk_free K11 2
      have K12 := bk_set K11 2 (.slice xa xm xc)
      have KR12 := bk_other KR11 (a := ⟨TB, 2, none⟩) hne (.slice xa xm xc)
      have h12 := h11.set_other (a := ⟨TB, 2, none⟩) hLa (.slice xa xm xc)
      have G12 := G11.setCell (a := ⟨TB, 2, none⟩) (.inr hLw) (.slice xa xm xc)
      clear K9 KR9 K10 KR10 h10 K11 KR11 h11
      have y0 := bk_cell K12 0 (.int .i64 1) rfl
      have g0 := bk_free KR12 0
      have y1 := bk_cell K12 1 (.string ⟨(narrow nm).toArray⟩) rfl
      have g1 := bk_free KR12 1
      have y2 := bk_cell K12 2 (.slice xa xm xc) rfl
      have g2 := bk_free KR12 2
      have y3 := bk_cell K12 3 (.string ⟨#[]⟩) rfl
      have g3 := bk_free KR12 3
      have y4 := bk_cell K12 4 (.int .i64 ((place cs i).1 : Int)) rfl
      have g4 := bk_free KR12 4
      have y5 := bk_cell K12 5 (.int .i64 ((place cs i).2 : Int)) rfl
      have g5 := bk_free KR12 5
      have y6 := bk_cell K12 6 (.bool false) rfl
      have g6 := bk_free KR12 6
      have q0 := bk_cell KR12 0 _ rfl
      have q1 := bk_cell KR12 1 _ rfl
      have q2 := bk_cell KR12 2 _ rfl
      have q3 := bk_cell KR12 3 _ rfl
      have q4 := bk_cell KR12 4 _ rfl
      have q5 := bk_cell KR12 5 _ rfl
      have q6 := bk_cell KR12 6 _ rfl
      have c4 := h12.c4
      have dn : ((n : Int) == 0) = false := by rw [beq_eq_false_iff_ne]; omega
      have HF := fin7 h12 G12 KR12 hRa hRw (.int .i64 1) (.string ⟨(narrow nm).toArray⟩) (.slice xa xm xc) (.string ⟨#[]⟩) (.int .i64 ((place cs i).1 : Int)) (.int .i64 ((place cs i).2 : Int)) (.bool false)
      go_wp2
      (try simp only [Exit.inBlock, Exit.then])
      refine bodyPost_ret (results_cell_row rfl _ _ w.heap.size 38 _ (0, 0) _ rfl HF.2.2 Tryz.underlying38 rfl (by kernel_rfl)) rfl ?_
      rw [HS.out]
      exact ⟨⟨_, rfl, ⟨_, _, _, _, _, _, _, _, _, rfl⟩⟩, i11, by omega, by omega, hn, HF.1, HF.2.1⟩
    rw [hat] at AT HT
    simp only [and_ok] at HT
    clear hat
    go_wp2_with fail
    refine AT.mono ?_
    rintro e w11 ⟨_, rfl, hav11, i11, a11, b11, d11, h11, c11⟩
    obtain ⟨xa, xc, rfl⟩ := row_shape hav11
    replace hav11 := row_mono hav11 (show w5.heap.size ≤ _ by have := hsz5; simp only [World.setCell, Array.size_modify] at this ⊢; omega)
    clear AT
    have K11 := bk_chg K10 c11 (by simp; omega)
    have KR11 := bk_chg KR10 c11 (by simp; omega)
    have G11 := G10.trans c11
    have x2 := bk_cell K11 2 _ rfl
    have f2 := bk_free K11 2
    have K12 := bk_set K11 2 (.slice xa l.length xc)
    have KR12 := bk_other KR11 (a := ⟨TB, 2, none⟩) hne (.slice xa l.length xc)
    have h12 := h11.set_other (a := ⟨TB, 2, none⟩) hLa (.slice xa l.length xc)
    have G12 := G11.setCell (a := ⟨TB, 2, none⟩) (.inr hLw) (.slice xa l.length xc)
    have hav12 := row_set hav11 (a := ⟨TB, 2, none⟩) (fun e => hLo _ _ _ _ hav11 e) (.slice xa l.length xc)
    clear K9 KR9 K10 KR10 h10 K11 KR11 h11
    have c3 := h12.c3
    have c4 := h12.c4
    have CD := c_any h12 i11 (by omega)
    have hTG : hd (fun c => c == 47) r2 = on (fun c => c == 47) (pk (cs.drop i11)) := by rw [on_pk, a11]
    rcases Decidable.em (pk (cs.drop i11) = 47) with hx | hx
    · have h47 : hd (fun c => c == 47) r2 = true := by rw [hTG, hx]; rfl
      have hil : i11 < cs.length := by
        rcases Nat.lt_or_ge i11 cs.length with g | g
        · exact g
        · rw [List.drop_of_length_le g] at hx; simp [pk] at hx
      have HT := Lib.hid (show tag (cs.drop i) = (takeC 62 (r2.drop 1)).and fun _ z => .ok (⟨1, nm, l, [], cs.length - i, true⟩, z) by
        rw [HT.out, if_pos h47])
      rw [hx] at CD
      have a13 : cs.drop (i11 + 1) = r2.drop 1 := by rw [← a11, List.drop_drop]
      clear hTG hx h47 a11
      have wj : IntKind.i64.wrap ((i11 : Int) + 1) = (i11 : Int) + 1 := IntWalk.i64_in _ (by omega)
      have f3 := h12.f 3
      have h13 := h12.seti (i11 + 1) ((i11 : Int) + 1) (by omega)
      have c13 := Chg.seti r (w11.setCell ⟨TB, 2, none⟩ (.slice xa l.length xc)) 3 (.int .i64 ((i11 : Int) + 1))
      have K13 := bk_chg K12 c13 (by simp; omega)
      have KR13 := bk_chg KR12 c13 (by simp; omega)
      have G13 := G12.trans c13
      have hav13 := row_chg hav12 c13 (hlow _ _ _ _ hav12)
      have x6 := bk_cell K13 6 _ rfl
      have f6 := bk_free K13 6
      have K14 := bk_set K13 6 (.bool true)
      have KR14 := bk_other KR13 (a := ⟨TB, 6, none⟩) hne (.bool true)
      have h14 := h13.set_other (a := ⟨TB, 6, none⟩) hLa (.bool true)
      have G14 := G13.setCell (a := ⟨TB, 6, none⟩) (.inr hLw) (.bool true)
      have hav14 := row_set hav13 (a := ⟨TB, 6, none⟩) (fun e => hLo _ _ _ _ hav13 e) (.bool true)
      have ON := rone_any h14 (by omega) 62
      rw [a13] at ON
      go_wp2_with fail
      refine CD.mono ?_
      rintro e w6 ⟨rfl, rfl⟩
      clear CD a13 K12 KR12 h12 K13 KR13 h13
      have c4 := h14.c4
      rcases hto : takeC 62 (r2.drop 1) with ⟨k, n⟩ | ⟨u, z⟩
      · rw [hto] at ON HT
        have HS := Lib.hid (show tag (cs.drop i) = .error (k, n) by rw [HT.out]; rfl)
        clear HT hto
        go_wp2_with fail
        refine ON.mono ?_
        rintro e w15 ⟨⟨_, rfl, rfl⟩, i15, b15, d15, hn, h15, c15⟩
        clear ON c4
        have K15 := bk_chg K14 c15 (by simp; omega)
        have KR15 := bk_chg KR14 c15 (by simp; omega)
        have G15 := G14.trans c15
        have y0 := bk_cell K15 0 (.int .i64 1) rfl
        have g0 := bk_free KR15 0
        have y1 := bk_cell K15 1 (.string ⟨(narrow nm).toArray⟩) rfl
        have g1 := bk_free KR15 1
        have y2 := bk_cell K15 2 (.slice xa l.length xc) rfl
        have g2 := bk_free KR15 2
        have y3 := bk_cell K15 3 (.string ⟨#[]⟩) rfl
        have g3 := bk_free KR15 3
        have y4 := bk_cell K15 4 (.int .i64 ((place cs i).1 : Int)) rfl
        have g4 := bk_free KR15 4
        have y5 := bk_cell K15 5 (.int .i64 ((place cs i).2 : Int)) rfl
        have g5 := bk_free KR15 5
        have y6 := bk_cell K15 6 (.bool true) rfl
        have g6 := bk_free KR15 6
        have q0 := bk_cell KR15 0 _ rfl
        have q1 := bk_cell KR15 1 _ rfl
        have q2 := bk_cell KR15 2 _ rfl
        have q3 := bk_cell KR15 3 _ rfl
        have q4 := bk_cell KR15 4 _ rfl
        have q5 := bk_cell KR15 5 _ rfl
        have q6 := bk_cell KR15 6 _ rfl
        have c4 := h15.c4
        have dn : ((n : Int) == 0) = false := by rw [beq_eq_false_iff_ne]; omega
        have HF := fin7 h15 G15 KR15 hRa hRw (.int .i64 1) (.string ⟨(narrow nm).toArray⟩) (.slice xa l.length xc) (.string ⟨#[]⟩) (.int .i64 ((place cs i).1 : Int)) (.int .i64 ((place cs i).2 : Int)) (.bool true)
        go_wp2
        (try simp only [Exit.inBlock, Exit.then])
        refine bodyPost_ret (results_cell_row rfl _ _ w.heap.size 38 _ (0, 0) _ rfl HF.2.2 Tryz.underlying38 rfl (by kernel_rfl)) rfl ?_
        rw [HS.out]
        exact ⟨⟨_, rfl, ⟨_, _, _, _, _, _, _, _, _, rfl⟩⟩, i15, by omega, by omega, hn, HF.1, HF.2.1⟩
      rw [hto] at ON HT
      simp only [and_ok] at HT
      clear hto
      go_wp2_with fail
      refine ON.mono ?_
      rintro e w15 ⟨rfl, i15, a15, b15, d15, h15, c15⟩
      clear ON c4
      replace a15 := Lib.hid a15
      have HS := HT
      have K15 := bk_chg K14 c15 (by simp; omega)
      have KR15 := bk_chg KR14 c15 (by simp; omega)
      have G15 := G14.trans c15
      have hav15 := row_chg hav14 c15 (hlow _ _ _ _ hav14)
      have y0 := bk_cell K15 0 (.int .i64 1) rfl
      have g0 := bk_free KR15 0
      have y1 := bk_cell K15 1 (.string ⟨(narrow nm).toArray⟩) rfl
      have g1 := bk_free KR15 1
      have y2 := bk_cell K15 2 (.slice xa l.length xc) rfl
      have g2 := bk_free KR15 2
      have y3 := bk_cell K15 3 (.string ⟨#[]⟩) rfl
      have g3 := bk_free KR15 3
      have y4 := bk_cell K15 4 (.int .i64 ((place cs i).1 : Int)) rfl
      have g4 := bk_free KR15 4
      have y5 := bk_cell K15 5 (.int .i64 ((place cs i).2 : Int)) rfl
      have g5 := bk_free KR15 5
      have y6 := bk_cell K15 6 (.bool true) rfl
      have g6 := bk_free KR15 6
      have q0 := bk_cell KR15 0 _ rfl
      have q1 := bk_cell KR15 1 _ rfl
      have q2 := bk_cell KR15 2 _ rfl
      have q3 := bk_cell KR15 3 _ rfl
      have q4 := bk_cell KR15 4 _ rfl
      have q5 := bk_cell KR15 5 _ rfl
      have q6 := bk_cell KR15 6 _ rfl
      have c4 := h15.c4
      have HF := fin7 h15 G15 KR15 hRa hRw (.int .i64 1) (.string ⟨(narrow nm).toArray⟩) (.slice xa l.length xc) (.string ⟨#[]⟩) (.int .i64 ((place cs i).1 : Int)) (.int .i64 ((place cs i).2 : Int)) (.bool true)
      have hav9 := row7 hav15 (r := w.heap.size) (fun e => hLr _ _ _ _ hav15 e) (.int .i64 1) (.string ⟨(narrow nm).toArray⟩) (.slice xa l.length xc) (.string ⟨#[]⟩) (.int .i64 ((place cs i).1 : Int)) (.int .i64 ((place cs i).2 : Int)) (.bool true)
      go_wp2
      (try simp only [Exit.inBlock, Exit.then])
      refine bodyPost_ret (results_cell_row rfl _ _ w.heap.size 38 _ (0, 0) _ rfl HF.2.2 Tryz.underlying38 rfl (by kernel_rfl)) rfl ?_
      rw [HS.out]
      exact ⟨_, by simp [Tok.fin, TokV.cells, hpl, narrow_nil'], row_mono hav9 hgen, i15, a15.out, by omega, by omega, HF.1, HF.2.1⟩
    · have h47 : hd (fun c => c == 47) r2 = false := by
        rw [hTG]
        unfold on
        rw [Bool.and_eq_false_iff]
        rcases Int.lt_or_le (pk (cs.drop i11)) 0 with g | g
        · exact .inl (by simp; omega)
        · exact .inr (by simp; omega)
      have HT := Lib.hid (show tag (cs.drop i) = (takeC 62 r2).and fun _ z => .ok (⟨1, nm, l, [], cs.length - i, false⟩, z) by
        rw [HT.out, if_neg (by rw [h47]; simp)])
      have dx2 : (pk (cs.drop i11) == 47) = false := by rw [beq_eq_false_iff_ne]; exact hx
      have ON := rone_any h12 (by omega) 62
      rw [a11] at ON
      generalize pk (cs.drop i11) = py at *
      clear hTG hx h47 a11
      go_wp2_with fail
      refine CD.mono ?_
      rintro e w6 ⟨rfl, rfl⟩
      clear CD c3
      rcases hto : takeC 62 r2 with ⟨k, n⟩ | ⟨u, z⟩
      · rw [hto] at ON HT
        have HS := Lib.hid (show tag (cs.drop i) = .error (k, n) by rw [HT.out]; rfl)
        clear HT hto
        go_wp2_with fail
        refine ON.mono ?_
        rintro e w15 ⟨⟨_, rfl, rfl⟩, i15, b15, d15, hn, h15, c15⟩
        clear ON c4
        have K15 := bk_chg K12 c15 (by simp; omega)
        have KR15 := bk_chg KR12 c15 (by simp; omega)
        have G15 := G12.trans c15
        have y0 := bk_cell K15 0 (.int .i64 1) rfl
        have g0 := bk_free KR15 0
        have y1 := bk_cell K15 1 (.string ⟨(narrow nm).toArray⟩) rfl
        have g1 := bk_free KR15 1
        have y2 := bk_cell K15 2 (.slice xa l.length xc) rfl
        have g2 := bk_free KR15 2
        have y3 := bk_cell K15 3 (.string ⟨#[]⟩) rfl
        have g3 := bk_free KR15 3
        have y4 := bk_cell K15 4 (.int .i64 ((place cs i).1 : Int)) rfl
        have g4 := bk_free KR15 4
        have y5 := bk_cell K15 5 (.int .i64 ((place cs i).2 : Int)) rfl
        have g5 := bk_free KR15 5
        have y6 := bk_cell K15 6 (.bool false) rfl
        have g6 := bk_free KR15 6
        have q0 := bk_cell KR15 0 _ rfl
        have q1 := bk_cell KR15 1 _ rfl
        have q2 := bk_cell KR15 2 _ rfl
        have q3 := bk_cell KR15 3 _ rfl
        have q4 := bk_cell KR15 4 _ rfl
        have q5 := bk_cell KR15 5 _ rfl
        have q6 := bk_cell KR15 6 _ rfl
        have c4 := h15.c4
        have dn : ((n : Int) == 0) = false := by rw [beq_eq_false_iff_ne]; omega
        have HF := fin7 h15 G15 KR15 hRa hRw (.int .i64 1) (.string ⟨(narrow nm).toArray⟩) (.slice xa l.length xc) (.string ⟨#[]⟩) (.int .i64 ((place cs i).1 : Int)) (.int .i64 ((place cs i).2 : Int)) (.bool false)
        go_wp2
        (try simp only [Exit.inBlock, Exit.then])
        refine bodyPost_ret (results_cell_row rfl _ _ w.heap.size 38 _ (0, 0) _ rfl HF.2.2 Tryz.underlying38 rfl (by kernel_rfl)) rfl ?_
        rw [HS.out]
        exact ⟨⟨_, rfl, ⟨_, _, _, _, _, _, _, _, _, rfl⟩⟩, i15, by omega, by omega, hn, HF.1, HF.2.1⟩
      rw [hto] at ON HT
      simp only [and_ok] at HT
      clear hto
      go_wp2_with fail
      refine ON.mono ?_
      rintro e w15 ⟨rfl, i15, a15, b15, d15, h15, c15⟩
      clear ON c4
      replace a15 := Lib.hid a15
      have HS := HT
      have K15 := bk_chg K12 c15 (by simp; omega)
      have KR15 := bk_chg KR12 c15 (by simp; omega)
      have G15 := G12.trans c15
      have hav15 := row_chg hav12 c15 (hlow _ _ _ _ hav12)
      have y0 := bk_cell K15 0 (.int .i64 1) rfl
      have g0 := bk_free KR15 0
      have y1 := bk_cell K15 1 (.string ⟨(narrow nm).toArray⟩) rfl
      have g1 := bk_free KR15 1
      have y2 := bk_cell K15 2 (.slice xa l.length xc) rfl
      have g2 := bk_free KR15 2
      have y3 := bk_cell K15 3 (.string ⟨#[]⟩) rfl
      have g3 := bk_free KR15 3
      have y4 := bk_cell K15 4 (.int .i64 ((place cs i).1 : Int)) rfl
      have g4 := bk_free KR15 4
      have y5 := bk_cell K15 5 (.int .i64 ((place cs i).2 : Int)) rfl
      have g5 := bk_free KR15 5
      have y6 := bk_cell K15 6 (.bool false) rfl
      have g6 := bk_free KR15 6
      have q0 := bk_cell KR15 0 _ rfl
      have q1 := bk_cell KR15 1 _ rfl
      have q2 := bk_cell KR15 2 _ rfl
      have q3 := bk_cell KR15 3 _ rfl
      have q4 := bk_cell KR15 4 _ rfl
      have q5 := bk_cell KR15 5 _ rfl
      have q6 := bk_cell KR15 6 _ rfl
      have c4 := h15.c4
      have HF := fin7 h15 G15 KR15 hRa hRw (.int .i64 1) (.string ⟨(narrow nm).toArray⟩) (.slice xa l.length xc) (.string ⟨#[]⟩) (.int .i64 ((place cs i).1 : Int)) (.int .i64 ((place cs i).2 : Int)) (.bool false)
      have hav9 := row7 hav15 (r := w.heap.size) (fun e => hLr _ _ _ _ hav15 e) (.int .i64 1) (.string ⟨(narrow nm).toArray⟩) (.slice xa l.length xc) (.string ⟨#[]⟩) (.int .i64 ((place cs i).1 : Int)) (.int .i64 ((place cs i).2 : Int)) (.bool false)
      go_wp2
      (try simp only [Exit.inBlock, Exit.then])
      refine bodyPost_ret (results_cell_row rfl _ _ w.heap.size 38 _ (0, 0) _ rfl HF.2.2 Tryz.underlying38 rfl (by kernel_rfl)) rfl ?_
      rw [HS.out]
      exact ⟨_, by simp [Tok.fin, TokV.cells, hpl, narrow_nil'], row_mono hav9 hgen, i15, a15.out, by omega, by omega, HF.1, HF.2.1⟩
end Tk
end Go.Proofs.YtaknfofppknloaaGreatDoor
