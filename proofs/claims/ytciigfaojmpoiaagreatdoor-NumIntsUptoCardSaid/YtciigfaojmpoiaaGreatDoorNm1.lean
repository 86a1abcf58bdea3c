/- Layer 4: blanks; the plain text of a wide one; the bytes of a set. -/
import Derived.Test.YtciigfaojmpoiaaGreatDoorNmPure
import Derived.Test.YtciigfaojmpoiaaGreatDoorLu
import Derived.Test.YtciigfaojmpoiaaGreatDoorBlk
import Derived.Deep.CutBlock
import Derived.Maps.AppendAt
namespace Go.Proofs.YtciigfaojmpoiaaGreatDoor
open Go Go.RowKit
set_option linter.all false
namespace Nm
set_option maxRecDepth 100000 in
theorem blank_any (u : Nat) (w : World) : Calls Tryz.prog 62 #[.int .i64 (u : Int)] w fun e w' => e = .returned (.bool (blank u)) ∧ w = w' := by
  have hq : blank u = ((decide (9 ≤ (u : Int)) && decide ((u : Int) ≤ 13)) || ((u : Int) == 32 || ((u : Int) == 160 || (u : Int) == 65279))) := by
    rw [Bool.eq_iff_iff]
    simp only [blank, Bool.and_eq_true, Bool.or_eq_true, decide_eq_true_eq, beq_iff_eq]
    omega
  rw [hq]
  generalize (u : Int) = c
  clear hq
  rcases d1 : decide (9 ≤ c) with _ | _ <;> rcases d2 : decide (c ≤ 13) with _ | _ <;> rcases d3 : (c == 32) with _ | _ <;> rcases d4 : (c == 160) with _ | _ <;> rcases d5 : (c == 65279) with _ | _
  all_goals
    go_enter Tryz.func62, Tryz.ntmps62
    go_wp2
    go_ret
    exact ⟨rfl, rfl⟩
set_option maxRecDepth 100000 in
/-- a unit of the text in its box -/
theorem unit_in (l : List UInt8) (q i : Nat) (w : World) (hq : w.heap[q]? = some (.cells #[.string ⟨l.toArray⟩] 9 (0, 0))) (hs : l.length ≤ 9223372036854775807) (h : i < l.length / 2) :
    Calls Tryz.prog 60 #[.int .i64 (i : Int), .pointer (some ⟨q, 0, none⟩)] w fun e w' => e = .returned (.int .i64 (at16 l i : Int)) ∧ Pur w w' := by
  have c0 := bk_cell hq 0 _ rfl
  have A := at_in l i w hs h
  clear hq
  go_enter Tryz.func60, Tryz.ntmps60
  go_wp2_with fail
  refine A.mono ?_
  rintro e w1 ⟨rfl, p1⟩
  go_wp2
  go_ret
  exact ⟨rfl, p1⟩
/-- how plain ends -/
def PlainPost (w : World) (r : Option (List UInt8)) (e : Ending) (w' : World) : Prop := match r with
  | some t => e = .returned (.tuple #[.string ⟨t.toArray⟩, .bool true]) ∧ Pur w w'
  | none => e = .returned (.tuple #[.string ⟨#[]⟩, .bool false]) ∧ Pur w w'
set_option maxRecDepth 100000 in
set_option maxHeartbeats 16000000 in
theorem plain_any (l : List UInt8) (w : World) (hs : l.length ≤ 10000000) : Calls Tryz.prog 35 #[.string ⟨l.toArray⟩] w fun e w' => PlainPost w (plain l) e w' := by
  obtain ⟨i0, hi, hz0, hz1, hz2⟩ := info_parts infoU8
  obtain ⟨W1, hW1⟩ : ∃ W1, W1 = w.alloc (.cells #[.string ⟨l.toArray⟩] 9) := ⟨_, rfl⟩
  have p1 : Pur w W1 := by rw [hW1]; exact (Pur.refl _).alloc _
  have Q1 : W1.heap[w.heap.size]? = some (.cells #[.string ⟨l.toArray⟩] 9 (0, 0)) := by rw [hW1]; exact bk_new _ _
  have LEN := fun w => length_any l w (by omega)
  have hn : ∃ n, l.length / 2 = n := ⟨_, rfl⟩
  have HP := Lib.hid (show plain l = bytesGo l (toI l) (toI l - fromI l) (fromI l) from rfl)
  obtain ⟨F, hF⟩ : ∃ F, fromI l = F := ⟨_, rfl⟩
  obtain ⟨T, hT⟩ : ∃ T, toI l = T := ⟨_, rfl⟩
  have hFT := toI_le l
  have HF := Lib.hid (show F = fromGo l (l.length / 2) (l.length / 2) 0 from hF.symm)
  have HT := Lib.hid (show T = toGo l F (l.length / 2) by rw [← hF, ← hT]; rfl)
  rw [hF, hT] at hFT HP
  have UN := fun w' (h : Pur W1 w') (i : Nat) (hi : i < l.length / 2) => unit_in l w.heap.size i w' (bk_pur Q1 h) (by omega) hi
  obtain ⟨n, hn⟩ := hn
  rw [hn] at LEN hFT HF HT UN
  clear hF hT
  have hn1 : n ≤ 5000000 := by omega
  have c0 := bk_cell Q1 0 _ rfl
  go_enter Tryz.func35, Tryz.ntmps35
  go_wp2_with fail
  rw [← hW1]
  have hQ := Lib.hid Q1
  clear hW1 Q1
  generalize hq : w.heap.size = q at *
  refine (LEN _).mono ?_
  rintro e w2 ⟨rfl, rfl⟩
  clear LEN c0
  go_upto_block 0 with (fail)
  go_cut [4] from 11 to 21 (fun x wx => x = .int .i64 (F : Int) ∧ Pur W1 wx)
  case first =>
    clear HT hFT
    go_wp2_with fail
    go_loopw [4] (fun x wr => ∃ i f : Nat, x = .int .i64 (i : Int) ∧ i ≤ n ∧ n ≤ i + f ∧ Pur W1 wr ∧ Hid (F = fromGo l n f i)) (fun x _ => n + 1 - (intOf x).toNat)
    case atStart => exact ⟨0, n, rfl, by omega, by omega, Pur.refl _, HF⟩
    case round =>
      obtain ⟨i, f, rfl, i1, i2, hp, H⟩ := hrel
      by_cases hlt : i < n
      · have hlt' : (i : Int) < n := by omega
        obtain ⟨f, rfl⟩ : ∃ g, f = g + 1 := ⟨f - 1, by omega⟩
        have HS := Lib.hid (show F = if blank (at16 l i) then fromGo l n f (i + 1) else i by rw [H.out, fromGo, if_pos hlt])
        have U := UN _ hp i hlt
        have wn : IntKind.i64.wrap ((i : Int) + 1) = (i : Int) + 1 := IntWalk.i64_in _ (by omega)
        have BL := fun w => blank_any (at16 l i) w
        clear H HF
        rcases hb : blank (at16 l i) with _ | _
        · rw [hb] at HS BL
          have HS2 := Lib.hid (show F = i from HS.out)
          clear HS hb
          go_wp2_with fail
          refine U.mono ?_
          rintro e w3 ⟨rfl, p3⟩
          go_wp2_with fail
          refine (BL _).mono ?_
          rintro e w4 ⟨rfl, rfl⟩
          have hp3 := hp.trans p3
          clear BL U UN
          go_wp2
          go_meet
          exact ⟨by rw [HS2.out], hp3⟩
        · rw [hb] at HS BL
          have HS2 := Lib.hid (show F = fromGo l n f (i + 1) from HS.out)
          clear HS hb
          go_wp2_with fail
          refine U.mono ?_
          rintro e w3 ⟨rfl, p3⟩
          go_wp2_with fail
          refine (BL _).mono ?_
          rintro e w4 ⟨rfl, rfl⟩
          go_wp2
          go_roundw
          case rel => exact ⟨i + 1, f, by go_num, by omega, by omega, hp.trans p3, HS2⟩
          case measure => simp [intOf]; omega
      · have HS2 := Lib.hid (show F = i by
          rw [H.out]
          cases f with
          | zero => rfl
          | succ f => rw [fromGo, if_neg hlt])
        have hlt' : ¬ (i : Int) < n := by omega
        clear H UN HF
        go_wp2
        go_meet
        exact ⟨by rw [HS2.out], hp⟩
  case rest =>
    obtain ⟨rfl, pc⟩ := hcut
    clear HF
    go_upto_block 2 with (fail)
    go_cut [5] from 22 to 33 (fun x wx => x = .int .i64 (T : Int) ∧ Pur W1 wx)
    case first =>
      go_wp2_with fail
      go_loopw [5] (fun x wr => ∃ t : Nat, x = .int .i64 (t : Int) ∧ t ≤ n ∧ F ≤ t ∧ Pur W1 wr ∧ Hid (T = toGo l F t)) (fun x _ => (intOf x).toNat)
      case atStart => exact ⟨n, rfl, by omega, by omega, pc, HT⟩
      case round =>
        obtain ⟨t, rfl, t1, t2, hp, H⟩ := hrel
        by_cases hlt : F < t
        · have hlt' : (F : Int) < t := by omega
          have HS := Lib.hid (show T = if blank (at16 l (t - 1)) then toGo l F (t - 1) else t by
            rw [H.out]
            obtain ⟨t, rfl⟩ : ∃ g, t = g + 1 := ⟨t - 1, by omega⟩
            rw [toGo, if_pos hlt]
            rfl)
          have U := UN _ hp (t - 1) (by omega)
          rw [show ((t - 1 : Nat) : Int) = (t : Int) - 1 by omega] at U
          have wn : IntKind.i64.wrap ((t : Int) - 1) = (t : Int) - 1 := IntWalk.i64_in _ (by omega)
          have BL := fun w => blank_any (at16 l (t - 1)) w
          generalize at16 l (t - 1) = u at *
          clear H HT
          rcases hb : blank u with _ | _
          · rw [hb] at HS BL
            have HS2 := Lib.hid (show T = t from HS.out)
            clear HS hb
            go_wp2_with fail
            refine U.mono ?_
            rintro e w3 ⟨rfl, p3⟩
            go_wp2_with fail
            refine (BL _).mono ?_
            rintro e w4 ⟨rfl, rfl⟩
            have hp3 := hp.trans p3
            clear BL U UN
            go_wp2
            go_meet
            exact ⟨by rw [HS2.out], hp3⟩
          · rw [hb] at HS BL
            have HS2 := Lib.hid (show T = toGo l F (t - 1) from HS.out)
            clear HS hb
            go_wp2_with fail
            refine U.mono ?_
            rintro e w3 ⟨rfl, p3⟩
            go_wp2_with fail
            refine (BL _).mono ?_
            rintro e w4 ⟨rfl, rfl⟩
            go_wp2
            go_roundw
            case rel => exact ⟨t - 1, by rw [show ((t - 1 : Nat) : Int) = (t : Int) - 1 by omega], by omega, by omega, hp.trans p3, HS2⟩
            case measure => simp [intOf]; omega
        · have HS2 := Lib.hid (show T = t by
            rw [H.out]
            cases t with
            | zero => rfl
            | succ t => rw [toGo, if_neg hlt])
          have hlt' : ¬ (F : Int) < t := by omega
          clear H UN HT
          go_wp2
          go_meet
          exact ⟨by rw [HS2.out], hp⟩
    case rest =>
      obtain ⟨rfl, pc2⟩ := hcut
      clear HT pc
      have wd : IntKind.i64.wrap ((T : Int) - (F : Int)) = (T : Int) - (F : Int) := IntWalk.i64_in _ (by omega)
      go_wp2_with (at_make; (refine wpList_make_own _ rfl _ _ 55 rfl wc.heap.size 5 i0 (.int .u8 0) 1 Tryz.underlying55 hi hz0 hz1 .i64 .i64 _ (T - F) rfl rfl (by omega) (by rw [hz2]; omega) (by unfold maxLen; omega) (Nat.le_refl _) ?_); intro w0 hown0 hgrow0)
      clear wd
      have hp0 : Pur wc w0 := (Below.refl _ wc).grown hgrow0 (Nat.le_refl _) (fun k hk => by cases hk)
      have hpB : w.heap.size ≤ wc.heap.size := by rw [hq]; exact Nat.le_trans (Nat.le_of_lt (bk_lt hQ.out)) pc2.size
      have pw : Pur w wc := p1.trans pc2
      clear hgrow0
      obtain ⟨B, hB⟩ : ∃ B, wc.heap.size = B := ⟨_, rfl⟩
      have hBle := Nat.le_of_eq hB.symm
      have hBge := Nat.le_of_eq hB
      rw [hB] at hown0 hpB ⊢
      clear hB
      go_loopw [4, 7] (fun x o wr => ∃ (i f : Nat) (acc : List UInt8), x = .int .i64 (i : Int) ∧ i ≤ T ∧ F ≤ i ∧ T ≤ i + f ∧ acc.length ≤ i ∧ wr.ownsRow B 5 1 o acc.length (bv acc) ∧ Pur wc wr ∧ Hid (plain l = (bytesGo l T f i).map (acc ++ ·))) (fun x _ _ => T + 1 - (intOf x).toNat)
      case atStart => exact ⟨F, T - F, [], rfl, by omega, by omega, by omega, by simp, hown0, hp0, Lib.hid (by rw [HP.out]; cases bytesGo l T (T - F) F <;> rfl)⟩
      case round =>
        obtain ⟨i, f, acc, rfl, i1, i0', i2, hacc, hown, hp, H⟩ := hrel
        clear hown0 hp0 HP
        by_cases hlt : i < T
        · have hlt' : (i : Int) < T := by omega
          obtain ⟨f, rfl⟩ : ∃ g, f = g + 1 := ⟨f - 1, by omega⟩
          have U := UN _ (pc2.trans hp) i (by omega)
          have hu := at16_lt l i
          by_cases hbig : 127 < at16 l i
          · have HS := Lib.hid (show plain l = none by rw [H.out, bytesGo, if_pos hlt, if_pos hbig]; rfl)
            have hbig' : (127 : Int) < (at16 l i : Int) := by omega
            generalize at16 l i = u at *
            clear H UN hbig
            go_wp2_with fail
            refine U.mono ?_
            rintro e w3 ⟨rfl, p3⟩
            go_wp2
            go_ret2
            rw [HS.out]
            exact ⟨rfl, (pw.trans hp).trans p3⟩
          · have HS := Lib.hid (show plain l = (bytesGo l T f (i + 1)).map ((acc ++ [UInt8.ofNat (at16 l i)]) ++ ·) by
              rw [H.out, bytesGo, if_pos hlt, if_neg hbig]
              cases bytesGo l T f (i + 1) <;> simp)
            have hbig' : ¬ (127 : Int) < (at16 l i : Int) := by omega
            have U2 := fun w' h => UN w' (pc2.trans h) i (by omega)
            have wn : IntKind.i64.wrap ((i : Int) + 1) = (i : Int) + 1 := IntWalk.i64_in _ (by omega)
            have hbv : bv [UInt8.ofNat (at16 l i)] = [.int .u8 (at16 l i : Int)] := by
              simp only [bv, List.map_cons, List.map_nil, UInt8.toNat_ofNat']
              rw [show at16 l i % 2 ^ 8 = at16 l i by omega]
            have hBV := Lib.hid hbv
            generalize at16 l i = u at *
            clear H UN hbv
            go_wp2_with fail
            refine U.mono ?_
            rintro e w3 ⟨rfl, p3⟩
            go_wp2_with fail
            refine (U2 _ (hp.trans p3)).mono ?_
            rintro e w4 ⟨rfl, p4⟩
            have hp4 := (hp.trans p3).trans p4
            have hown4 := ownsRow_pur hown (p3.trans p4)
            have hB4 := Nat.le_trans hBle hp4.size
            clear U U2 hown
            go_wp2_with (at_builtin; (refine wpList_append_own _ rfl _ _ 55 rfl B 5 i0 (.int .u8 0) 1 1 Tryz.underlying55 hi hz0 hz1 hz2 rfl (by decide) _ _ _ rfl (ownsRow_pur hown4 ((Pur.refl _).alloc _)) ⟨w4.heap.size, 0, none⟩ 1 1 [.int .u8 (u : Int)] rfl rfl (cell_one_new _ _ _) (by intro x hx; simp at hx; subst hx; rfl) (by unfold maxLen; omega) (by omega) (by simp; omega) ?_))
            intro v5 w5 hown5 hgrow5 _
            have hp5 : Pur wc w5 := (hp4.alloc _).grown hgrow5 (by have := hp4.size; simp; omega) (fun k hk => Nat.le_trans hBge (hown4.lt k hk).1)
            rw [← hBV.out] at hown5
            clear hown4 hgrow5
            go_wp2
            go_roundw
            case rel => exact ⟨i + 1, f, acc ++ [UInt8.ofNat u], by go_num, by omega, by omega, by omega, by simp; omega, by rw [List.length_append, bv_append]; exact hown5, hp5, HS⟩
            case measure => simp [intOf]; omega
        · obtain rfl : i = T := by omega
          have HS := Lib.hid (show plain l = some acc by
            rw [H.out]
            cases f with
            | zero => simp [bytesGo]
            | succ f => rw [bytesGo, if_neg hlt]; simp)
          have hstr := run_str_of_own (P := Tryz.prog) wr 55 9 5 B _ acc.length acc rfl Tryz.underlying55 Tryz.underlying5 Tryz.underlying9 hown
          clear hown H
          go_wp2
          go_ret2
          rw [HS.out]
          exact ⟨rfl, pw.trans hp⟩
end Nm
end Go.Proofs.YtciigfaojmpoiaaGreatDoor
