/- Layer 2, the document's answer: a declaration. -/
import Derived.Test.YtaknfofppknloaaGreatDoorTr11
import Derived.Test.YtaknfofppknloaaGreatDoorTrQ
namespace Go.Proofs.YtaknfofppknloaaGreatDoor
open Go Go.RowKit
set_option linter.all false
namespace Tk
variable {w : World} {r : Ro} {cs : Cs} {i e : Nat} {wh : Nat × Nat}
theorem attr_at {base : Nat} {xa : Option Addr} {xc : Nat} {l : List Attr} (h : w.ownsRow base 40 4 (.slice xa l.length xc) l.length ((l.map (Attr.fin cs)).flatMap AttrV.cells)) (k : Nat) (hk : k < l.length) :
    ∃ g, xa = some ⟨g, 0, none⟩ ∧ w.cell? ⟨g, 4 * k, none⟩ = some (.string ⟨(narrow l[k].nm).toArray⟩) ∧ w.cell? ⟨g, 4 * k + 1, none⟩ = some (.string ⟨(narrow l[k].val).toArray⟩) ∧ w.cell? ⟨g, k * 4, none⟩ = some (.string ⟨(narrow l[k].nm).toArray⟩) ∧ w.cell? ⟨g, k * 4 + 1, none⟩ = some (.string ⟨(narrow l[k].val).toArray⟩) := by
  obtain ⟨g, c, e, _, hg, hc, hx⟩ := row_at h (by omega)
  cases e
  have ha : (l.map (Attr.fin cs))[k]? = some (Attr.fin cs l[k]) := by rw [List.getElem?_map, List.getElem?_eq_getElem hk]; rfl
  have a0 := (hx (4 * k + 0) _ (attr_cells _ k 0 _ ha (by omega))).1
  have a1 := (hx (4 * k + 1) _ (attr_cells _ k 1 _ ha (by omega))).1
  refine ⟨g, rfl, a0, a1, ?_, ?_⟩
  · rw [Nat.mul_comm]; exact a0
  · rw [Nat.mul_comm]; exact a1
set_option maxRecDepth 100000 in
set_option maxHeartbeats 40000000 in
theorem rdecl_any (h : Sc w r cs 0 0 wh) : Calls Tryz.prog 12 #[.pointer (some ⟨r.p, 0, none⟩)] w fun e w' => Ends w r cs 0 wh (decl cs) (fun _ => .tuple #[]) (fun u => u = .tuple #[]) 3 e w' := by
  have hcl := h.clen
  have HB := here_any h [60, 63, 120, 109, 108] (by omega) (by decide)
  rw [show nats [60, 63, 120, 109, 108] = tXml from rfl, List.drop_zero] at HB
  rcases hp : pre tXml cs with _ | _
  · rw [hp] at HB
    have HS := Lib.hid (show decl cs = .ok ((), cs) by unfold decl; rw [hp]; simp)
    clear hp
    go_enter Tryz.func12, Tryz.ntmps12
    go_wp2_with fail
    refine HB.mono ?_
    rintro e1 w1 ⟨rfl, p1⟩
    go_wp2
    refine bodyPost_ret (results_none rfl _ _ _) rfl ?_
    rw [HS.out]
    exact ⟨rfl, 0, by simp, by omega, by omega, h.pur p1, .of_pur p1⟩
  rw [hp] at HB
  have CC := fun w' (h' : Sc w' r cs 0 0 wh) => c_any h' 5 (by omega)
  have BL := fun w => rblank_any (pk (cs.drop 5)) w (on_pk' blank _ w)
  rw [on_pk] at BL
  rcases hb : hd blank (cs.drop 5) with _ | _
  · rw [hb] at BL
    have HS := Lib.hid (show decl cs = .ok ((), cs) by unfold decl; rw [hp, hb]; simp)
    clear hp hb
    generalize pk (cs.drop 5) = px at *
    go_enter Tryz.func12, Tryz.ntmps12
    go_wp2_with fail
    refine HB.mono ?_
    rintro e1 w1 ⟨rfl, p1⟩
    go_wp2_with fail
    refine (CC _ (h.pur p1)).mono ?_
    rintro e1 w2 ⟨rfl, rfl⟩
    go_wp2_with fail
    refine (BL _).mono ?_
    rintro e1 w2 ⟨rfl, rfl⟩
    go_wp2
    refine bodyPost_ret (results_none rfl _ _ _) rfl ?_
    rw [HS.out]
    exact ⟨rfl, 0, by simp, by omega, by omega, h.pur p1, .of_pur p1⟩
  rw [hb] at BL
  have h5l : 5 < cs.length := by
    rcases Nat.lt_or_ge 5 cs.length with g | g
    · exact g
    · rw [List.drop_of_length_le g] at hb; cases hb
  have HC : decl cs = (attrs (cs.drop 5)).and fun l r => if declOk l && pre [63, 62] r then .ok ((), r.drop 2) else .error (cs.length, 21) := by
    unfold decl; rw [hp, hb]; rfl
  replace HC := Lib.hid HC
  have hok := h.okd 5
  clear hp hb
  generalize pk (cs.drop 5) = px at *
  go_enter Tryz.func12, Tryz.ntmps12
  go_wp2_with fail
  refine HB.mono ?_
  rintro e1 w1 ⟨rfl, p1⟩
  have h1 := h.pur p1
  have g1 : Chg [r.p] w w1 := .of_pur p1
  go_wp2_with fail
  refine (CC _ h1).mono ?_
  rintro e1 w2 ⟨rfl, rfl⟩
  go_wp2_with fail
  refine (BL _).mono ?_
  rintro e1 w2 ⟨rfl, rfl⟩
  have f3 := h1.f 3
  have c3a := h1.c3
  have h2 := h1.seti 5 5 (by omega)
  have g2 := g1.trans (Chg.seti r w1 3 (.int .i64 5))
  have AT := rattrs_any h2 (by omega)
  clear HB CC BL
  rcases hat : attrs (cs.drop 5) with ⟨k, n⟩ | ⟨l, r2⟩
  · rw [hat] at AT HC
    have HS := Lib.hid (show decl cs = .error (k, n) by rw [HC.out]; rfl)
    clear HC hat hok
    go_wp2_with fail
    refine AT.mono ?_
    rintro e1 w3 ⟨⟨xa, xm, xc, rfl⟩, i3, b3, d3, hn, h3, c3⟩
    have c4 := h3.c4
    have dn : ((n : Int) != 0) = true := by rw [bne_iff_ne]; omega
    go_wp2
    refine bodyPost_ret (results_none rfl _ _ _) rfl ?_
    rw [HS.out]
    exact ⟨⟨_, rfl, rfl⟩, i3, by omega, by omega, hn, h3, g2.trans c3⟩
  have hlo := attrs_ok hat hok
  rw [hat] at AT HC
  simp only [and_ok] at HC
  clear hat hok
  go_wp2_with fail
  refine AT.mono ?_
  rintro e1 w3 ⟨_, rfl, hav3, i2, a2, b2, d2, h3, c3⟩
  obtain ⟨xa, xc, rfl⟩ := row_shape hav3
  replace hav3 := row_mono hav3 (show w.heap.size ≤ _ from g2.size)
  have g3 := g2.trans c3
  clear AT c3 h2 g2 f3 c3a
  have c4 := h3.c4
  have c3 := h3.c3
  have hll : l.length ≤ 9223372036854775807 := by
    rcases hav3.2 with ⟨_, h0⟩ | ⟨g, cap, cur, e, hb, hg, hnc, hcm, hcs, hx⟩
    · omega
    · unfold maxLen at hcm; omega
  have HE := here_any h3 [63, 62] (by omega) (by decide)
  rw [show nats [63, 62] = [63, 62] from rfl, a2] at HE
  have a2' := Lib.hid a2
  clear a2
  have a2 := a2'
  obtain ⟨q, hq⟩ : ∃ q, pre [63, 62] r2 = q := ⟨_, rfl⟩
  rw [hq] at HE HC
  have hqp := Lib.hid hq
  clear hq a2'
  go_wp2_with fail
  refine HE.mono ?_
  rintro e1 w4 ⟨rfl, p4⟩
  have h4 := h3.pur p4
  have g4 := g3.pur p4
  have hav4 := row_pur hav3 p4
  have HR := Lib.hid (decl_run l q hlo)
  clear HE h3 g3 hav3 p4 c4 c3
  go_wp2
  go_loopw [3, 4, 5] (fun s o kk wr => ∃ (k wn : Nat) (ok : Bool), k ≤ l.length ∧ wn ≤ 3 ∧ kk = .int .i64 k ∧ s = .int .i64 wn ∧ o = .bool ok ∧ Sc wr r cs i2 0 wh ∧ Chg [r.p] w wr ∧ wr.ownsRow w.heap.size 40 4 (.slice xa l.length xc) l.length ((l.map (Attr.fin cs)).flatMap AttrV.cells) ∧ Hid ((declOk l && q) = runW (l.drop k) wn ok)) (fun _ _ kk _ => l.length + 1 - (intOf kk).toNat)
  case atStart => exact ⟨0, 0, q, by omega, by omega, rfl, rfl, rfl, h4, g4, hav4, Lib.hid (by rw [← HR.out, List.drop_zero])⟩
  case round =>
    clear h4 g4 hav4 HR
    obtain ⟨k, wn, ok, hk, hwn, rfl, rfl, rfl, h4, G4, hav4, H⟩ := hrel
    by_cases hkl : k < l.length
    · have hkl' : (k : Int) < l.length := by omega
      have wk : IntKind.i64.wrap ((k : Int) + 1) = (k : Int) + 1 := IntWalk.i64_in _ (by omega)
      have hdr : l.drop k = l[k] :: l.drop (k + 1) := List.drop_eq_getElem_cons hkl
      obtain ⟨x, hnx⟩ : ∃ x, narrow l[k].nm = x := ⟨_, rfl⟩
      obtain ⟨y, hny⟩ : ∃ y, narrow l[k].val = y := ⟨_, rfl⟩
      obtain ⟨z, hsm⟩ : ∃ z, y.map sm8 = z := ⟨_, rfl⟩
      have hyl : y.length ≤ 1000000 := by
        have a1 := (hlo l[k] (List.getElem_mem hkl)).2.2
        have a2 := narrow_len l[k].val
        rw [hny] at a2
        rw [List.length_drop] at a1
        omega
      have SM := fun w => rsmall_any y w hyl
      rw [hsm] at SM
      have CA := fun (w' : World) (hx : w'.ownsRow w.heap.size 40 4 (.slice xa l.length xc) l.length ((l.map (Attr.fin cs)).flatMap AttrV.cells)) => attr_at hx k hkl
      simp only [hnx, hny] at CA
      have CB := CA _ hav4
      obtain ⟨ga, rfl, C0, C1, D0, D1⟩ := CB
      have HV : ∀ (want : Nat) (res : Option Nat), wnt wn l[k] = res → (declOk l && q) = (match res with | some v => runW (l.drop (k + 1)) v ok | none => runW (l.drop (k + 1)) wn false) := fun want res hr => by rw [H.out, hdr, runW, hr]; cases res <;> rfl
      have HW : wnt wn l[k] = (if (x == [118, 101, 114, 115, 105, 111, 110]) && (wn == 0) && (y == [49, 46, 48]) then some 1 else if (x == [101, 110, 99, 111, 100, 105, 110, 103]) && (wn == 1) && (z == [117, 116, 102, 45, 56]) then some 2 else if (x == [115, 116, 97, 110, 100, 97, 108, 111, 110, 101]) && (wn == 1 || wn == 2) && (y == [121, 101, 115] || y == [110, 111]) then some 3 else none) := by
        rw [wnt, hnx, hny, hsm]
      clear H hdr
      have hw4 : wn = 0 ∨ wn = 1 ∨ wn = 2 ∨ wn = 3 := by omega
      rcases hxv : (x == [118, 101, 114, 115, 105, 111, 110]) with _ | _
      · rcases hxe : (x == [101, 110, 99, 111, 100, 105, 110, 103]) with _ | _
        · rcases hxs : (x == [115, 116, 97, 110, 100, 97, 108, 111, 110, 101]) with _ | _
          · have HS := Lib.hid (HV 0 none (by rw [HW, hxv, hxe, hxs]; rfl))
            clear HV HW CA
            go_wp2
            go_roundw
            case rel => exact ⟨k + 1, wn, false, by omega, by omega, by go_num, rfl, rfl, h4, G4, hav4, HS⟩
            case measure => simp [intOf]; omega
          · rw [hxv, hxe, hxs] at HW
            simp only [Bool.true_and, Bool.false_and, Bool.false_eq_true, if_false] at HW
            rcases hw4 with rfl | rfl | rfl | rfl
            · have HS := Lib.hid (HV 0 none (by rw [HW]; rfl))
              clear HV HW CA
              go_wp2
              go_roundw
              case rel => exact ⟨k + 1, 0, false, by omega, by omega, by go_num, rfl, rfl, h4, G4, hav4, HS⟩
              case measure => simp [intOf]; omega
            · rcases hyy : (y == [121, 101, 115]) with _ | _
              · rcases hyn : (y == [110, 111]) with _ | _
                · have HS := Lib.hid (HV 0 none (by rw [HW, hyy, hyn]; rfl))
                  clear HV HW CA
                  go_wp2
                  go_roundw
                  case rel => exact ⟨k + 1, 1, false, by omega, by omega, by go_num, rfl, rfl, h4, G4, hav4, HS⟩
                  case measure => simp [intOf]; omega
                · have HS := Lib.hid (HV 0 (some 3) (by rw [HW, hyy, hyn]; rfl))
                  clear HV HW CA
                  go_wp2
                  go_roundw
                  case rel => exact ⟨k + 1, 3, ok, by omega, by omega, by go_num, rfl, rfl, h4, G4, hav4, HS⟩
                  case measure => simp [intOf]; omega
              · have HS := Lib.hid (HV 0 (some 3) (by rw [HW, hyy]; rfl))
                clear HV HW CA
                go_wp2
                go_roundw
                case rel => exact ⟨k + 1, 3, ok, by omega, by omega, by go_num, rfl, rfl, h4, G4, hav4, HS⟩
                case measure => simp [intOf]; omega
            · rcases hyy : (y == [121, 101, 115]) with _ | _
              · rcases hyn : (y == [110, 111]) with _ | _
                · have HS := Lib.hid (HV 0 none (by rw [HW, hyy, hyn]; rfl))
                  clear HV HW CA
                  go_wp2
                  go_roundw
                  case rel => exact ⟨k + 1, 2, false, by omega, by omega, by go_num, rfl, rfl, h4, G4, hav4, HS⟩
                  case measure => simp [intOf]; omega
                · have HS := Lib.hid (HV 0 (some 3) (by rw [HW, hyy, hyn]; rfl))
                  clear HV HW CA
                  go_wp2
                  go_roundw
                  case rel => exact ⟨k + 1, 3, ok, by omega, by omega, by go_num, rfl, rfl, h4, G4, hav4, HS⟩
                  case measure => simp [intOf]; omega
              · have HS := Lib.hid (HV 0 (some 3) (by rw [HW, hyy]; rfl))
                clear HV HW CA
                go_wp2
                go_roundw
                case rel => exact ⟨k + 1, 3, ok, by omega, by omega, by go_num, rfl, rfl, h4, G4, hav4, HS⟩
                case measure => simp [intOf]; omega
            · have HS := Lib.hid (HV 0 none (by rw [HW]; rfl))
              clear HV HW CA
              go_wp2
              go_roundw
              case rel => exact ⟨k + 1, 3, false, by omega, by omega, by go_num, rfl, rfl, h4, G4, hav4, HS⟩
              case measure => simp [intOf]; omega
        · have hxs : (x == [115, 116, 97, 110, 100, 97, 108, 111, 110, 101]) = false := by rw [beq_iff_eq.1 hxe]; decide
          rw [hxv, hxe, hxs] at HW
          simp only [Bool.true_and, Bool.false_and, Bool.false_eq_true, if_false] at HW
          rcases hw4 with rfl | rfl | rfl | rfl
          · have HS := Lib.hid (HV 0 none (by rw [HW]; rfl))
            clear HV HW CA
            go_wp2
            go_roundw
            case rel => exact ⟨k + 1, 0, false, by omega, by omega, by go_num, rfl, rfl, h4, G4, hav4, HS⟩
            case measure => simp [intOf]; omega
          · rcases hzu : (z == [117, 116, 102, 45, 56]) with _ | _
            · have HS := Lib.hid (HV 0 none (by rw [HW, hzu]; rfl))
              clear HV HW
              go_wp2_with fail
              refine (SM _).mono ?_
              rintro e1 w5 ⟨rfl, p5⟩
              have hav5 := row_pur hav4 p5
              obtain ⟨ga', hga', E0, E1, F0, F1⟩ := CA _ hav5
              cases hga'
              clear CA C0 C1 D0 D1
              go_wp2
              go_roundw
              case rel => exact ⟨k + 1, 1, false, by omega, by omega, by go_num, rfl, rfl, h4.pur p5, G4.pur p5, hav5, HS⟩
              case measure => simp [intOf]; omega
            · have HS := Lib.hid (HV 0 (some 2) (by rw [HW, hzu]; rfl))
              clear HV HW
              go_wp2_with fail
              refine (SM _).mono ?_
              rintro e1 w5 ⟨rfl, p5⟩
              have hav5 := row_pur hav4 p5
              obtain ⟨ga', hga', E0, E1, F0, F1⟩ := CA _ hav5
              cases hga'
              clear CA C0 C1 D0 D1
              go_wp2
              go_roundw
              case rel => exact ⟨k + 1, 2, ok, by omega, by omega, by go_num, rfl, rfl, h4.pur p5, G4.pur p5, hav5, HS⟩
              case measure => simp [intOf]; omega
          · have HS := Lib.hid (HV 0 none (by rw [HW]; rfl))
            clear HV HW CA
            go_wp2
            go_roundw
            case rel => exact ⟨k + 1, 2, false, by omega, by omega, by go_num, rfl, rfl, h4, G4, hav4, HS⟩
            case measure => simp [intOf]; omega
          · have HS := Lib.hid (HV 0 none (by rw [HW]; rfl))
            clear HV HW CA
            go_wp2
            go_roundw
            case rel => exact ⟨k + 1, 3, false, by omega, by omega, by go_num, rfl, rfl, h4, G4, hav4, HS⟩
            case measure => simp [intOf]; omega
      · have hxe : (x == [101, 110, 99, 111, 100, 105, 110, 103]) = false := by rw [beq_iff_eq.1 hxv]; decide
        have hxs : (x == [115, 116, 97, 110, 100, 97, 108, 111, 110, 101]) = false := by rw [beq_iff_eq.1 hxv]; decide
        rw [hxv, hxe, hxs] at HW
        simp only [Bool.true_and, Bool.false_and, Bool.false_eq_true, if_false] at HW
        rcases hw4 with rfl | rfl | rfl | rfl
        · simp only [BEq.rfl, Bool.true_and] at HW
          rcases hy1 : (y == [49, 46, 48]) with _ | _
          · rw [hy1] at HW
            have HS := Lib.hid (HV 0 none (by rw [HW]; rfl))
            clear HV HW CA
            go_wp2
            go_roundw
            case rel => exact ⟨k + 1, 0, false, by omega, by omega, by go_num, rfl, rfl, h4, G4, hav4, HS⟩
            case measure => simp [intOf]; omega
          · rw [hy1] at HW
            have HS := Lib.hid (HV 0 (some 1) (by rw [HW]; rfl))
            clear HV HW CA
            go_wp2
            go_roundw
            case rel => exact ⟨k + 1, 1, ok, by omega, by omega, by go_num, rfl, rfl, h4, G4, hav4, HS⟩
            case measure => simp [intOf]; omega
        · have HS := Lib.hid (HV 0 none (by rw [HW]; rfl))
          clear HV HW CA
          go_wp2
          go_roundw
          case rel => exact ⟨k + 1, 1, false, by omega, by omega, by go_num, rfl, rfl, h4, G4, hav4, HS⟩
          case measure => simp [intOf]; omega
        · have HS := Lib.hid (HV 0 none (by rw [HW]; rfl))
          clear HV HW CA
          go_wp2
          go_roundw
          case rel => exact ⟨k + 1, 2, false, by omega, by omega, by go_num, rfl, rfl, h4, G4, hav4, HS⟩
          case measure => simp [intOf]; omega
        · have HS := Lib.hid (HV 0 none (by rw [HW]; rfl))
          clear HV HW CA
          go_wp2
          go_roundw
          case rel => exact ⟨k + 1, 3, false, by omega, by omega, by go_num, rfl, rfl, h4, G4, hav4, HS⟩
          case measure => simp [intOf]; omega
    · obtain rfl : k = l.length := by omega
      have hkl' : ¬ (l.length : Int) < l.length := by omega
      have HF : (declOk l && q) = (ok && wn != 0) := by rw [H.out, List.drop_length, runW]
      clear H
      have c3 := h4.c3
      have f3 := h4.f 3
      have wj : IntKind.i64.wrap ((i2 : Int) + 2) = (i2 : Int) + 2 := IntWalk.i64_in _ (by omega)
      rcases ok with _ | _
      · have HS := Lib.hid (show decl cs = .error (cs.length, 21) by rw [HC.out, HF]; rfl)
        have BO := bad_ok h4 0 21 (by omega)
        clear HF HC
        go_wp2_with fail
        refine BO.mono ?_
        rintro e1 w5 ⟨rfl, h5, c5⟩
        clear c3 f3
        have c3 := h5.c3
        have f3 := h5.f 3
        have h6 := h5.seti (i2 + 2) ((i2 : Int) + 2) (by omega)
        have g6 := (G4.trans c5).trans (Chg.seti r w5 3 (.int .i64 ((i2 : Int) + 2)))
        go_wp2
        refine bodyPost_end (results_none rfl _ _ _) rfl ?_
        rw [HS.out]
        exact ⟨⟨_, rfl, rfl⟩, i2 + 2, by omega, by omega, by omega, by rw [Nat.sub_self]; exact h6, g6⟩
      · by_cases hw0 : wn = 0
        · subst hw0
          have HS := Lib.hid (show decl cs = .error (cs.length, 21) by rw [HC.out, HF]; rfl)
          have BO := bad_ok h4 0 21 (by omega)
          clear HF HC
          go_wp2_with fail
          refine BO.mono ?_
          rintro e1 w5 ⟨rfl, h5, c5⟩
          clear c3 f3
          have c3 := h5.c3
          have f3 := h5.f 3
          have h6 := h5.seti (i2 + 2) ((i2 : Int) + 2) (by omega)
          have g6 := (G4.trans c5).trans (Chg.seti r w5 3 (.int .i64 ((i2 : Int) + 2)))
          go_wp2
          refine bodyPost_end (results_none rfl _ _ _) rfl ?_
          rw [HS.out]
          exact ⟨⟨_, rfl, rfl⟩, i2 + 2, by omega, by omega, by omega, by rw [Nat.sub_self]; exact h6, g6⟩
        · have dw : ((wn : Int) == 0) = false := by rw [beq_eq_false_iff_ne]; omega
          have hg : (declOk l && q) = true := by rw [HF]; simp [hw0]
          have HS := Lib.hid (show decl cs = .ok ((), r2.drop 2) by rw [HC.out, hg]; rfl)
          have hq2 : q = true := by cases q <;> simp_all
          have hpl := pre_len' (hqp.out.trans hq2)
          rw [← a2.out, List.length_drop] at hpl
          simp only [List.length_cons, List.length_nil] at hpl
          have e6 : cs.drop (i2 + 2) = r2.drop 2 := by rw [← a2.out, List.drop_drop]
          replace e6 := Lib.hid e6
          have h6 := h4.seti (i2 + 2) ((i2 : Int) + 2) (by omega)
          have g6 := G4.trans (Chg.seti r wr 3 (.int .i64 ((i2 : Int) + 2)))
          clear HF hg hqp a2 hq2 HC
          go_wp2
          refine bodyPost_end (results_none rfl _ _ _) rfl ?_
          rw [HS.out]
          exact ⟨rfl, i2 + 2, e6.out, by omega, by omega, h6, g6⟩
end Tk
end Go.Proofs.YtaknfofppknloaaGreatDoor
