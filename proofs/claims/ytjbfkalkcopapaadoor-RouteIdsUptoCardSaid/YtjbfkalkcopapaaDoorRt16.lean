/- RouteIds returns true. -/
import Derived.Test.YtjbfkalkcopapaaDoorRt15
import Derived.Deep.CutRange
namespace Go.Proofs.YtjbfkalkcopapaaDoor
open Go Go.RowKit
set_option linter.all false
theorem take_all_step {p : UInt8 → Bool} {l : Bytes} {n : Nat} (h : n < l.length) : (l.take (n + 1)).all p = ((l.take n).all p && p (l.getD n 0)) := by
  rw [List.take_succ_eq_append_getElem h, List.all_append]
  simp [List.getD_eq_getElem?_getD, h]
set_option maxRecDepth 100000 in
set_option maxHeartbeats 4000000 in
theorem ids_law (l : Bytes) (w : World) (hW : RW w) (hs : l.length ≤ 100000000) :
    Calls Tryd.prog 7 #[.string ⟨l.toArray⟩] w fun e w' => e = .returned (.bool true) ∧ Pur w w' := by
  have S := fun w => session_any l w (by omega)
  have F := find_lit (headS ++ l) nScxml _ rfl (by simp [headS]; omega)
  have hend : if okId l = true then rtFind (headS ++ l) nScxml = (⟨4, l, [], 0, []⟩, 0) else ((rtFind (headS ++ l) nScxml).2 = 190 ∨ rtFind (headS ++ l) nScxml = (⟨5, [115, 99, 120, 109, 108, 95] ++ l, [], 0, []⟩, 0)) := by
    by_cases h : okId l = true
    · rw [if_pos h]; exact session_right h
    · rw [if_neg h]; exact session_wrong (by simpa using h)
  generalize rtFind (headS ++ l) nScxml = r at *
  obtain ⟨⟨k, i, h, p, q⟩, n⟩ := r
  have HE := Lib.hid hend
  clear hend
  go_enter Tryd.func7, Tryd.ntmps7
  go_wp2_with fail
  refine (awake_any _ hW).mono ?_
  rintro e w0 ⟨rfl, h0⟩
  go_wp2_with fail
  refine (S _).mono ?_
  rintro e w' ⟨rfl, rfl⟩
  go_wp2_with fail
  refine (F _ (hW.pur h0)).mono ?_
  rintro e w1 ⟨rfl, h1⟩
  have K := Lib.hid (h0.trans h1)
  obtain ⟨pre, hpre⟩ : ∃ pre, pre = (decide (0 < l.length) && decide (l.length ≤ 64)) := ⟨_, rfl⟩
  have HPRE := Lib.hid hpre
  clear h0 h1 S F hW hpre
  go_upto_region 4 with (fail)
  go_cut [3, 4, 5] from 16 to 23 (fun a e t wx => a = .pointer (some ⟨w1.heap.size, 0, none⟩) ∧ e = .int .i64 n ∧ t = .bool pre ∧ wx = w1.alloc (.cells #[.int .i64 k, .string ⟨i.toArray⟩, .string ⟨h.toArray⟩, .int .i64 p, .string ⟨q.toArray⟩] 24))
  case first =>
    by_cases g0 : l.length = 0
    · have d0 : decide ((0 : Int) < l.length) = false := decide_eq_false (by omega)
      go_wp2
      go_meet
      refine ⟨rfl, rfl, ?_, rfl⟩
      rw [HPRE.out, decide_eq_false (show ¬ 0 < l.length by omega)]
      rfl
    · have d0 : decide ((0 : Int) < l.length) = true := decide_eq_true (by omega)
      go_wp2
      go_meet
      refine ⟨rfl, rfl, ?_, rfl⟩
      rw [HPRE.out, decide_eq_true (show 0 < l.length by omega)]
      simp
      try omega
  case rest =>
    obtain ⟨rfl, rfl, rfl, rfl⟩ := hcut
    go_wp2
    go_loop [5, 26] (fun t k => ∃ (n : Nat) (b : Bool), n ≤ l.length ∧ t = .bool b ∧ k = .int .i64 n ∧ Hid (b = (pre && (l.take n).all (fun c => idB c.toNat)))) (fun _ k => l.length + 1 - (intOf k).toNat)
    case atStart => exact ⟨0, pre, by omega, rfl, rfl, Lib.hid (by simp)⟩
    case round =>
      obtain ⟨m, b, hm, rfl, rfl, H⟩ := hrel
      by_cases hlt : m < l.length
      · have hlt' : (m : Int) < l.length := by omega
        have cb := by8_lt l m
        have HN := Lib.hid (take_all_step (p := fun c => idB c.toNat) hlt)
        rcases b with _ | _
        · have HX := Lib.hid (show false = (pre && (l.take (m + 1)).all (fun c => idB c.toNat)) by rw [HN.out, ← Bool.and_assoc, ← H.out]; rfl)
          clear H HN
          go_wp2
          go_round
          case rel => exact ⟨m + 1, _, by omega, rfl, by go_num, HX⟩
          case measure => simp [intOf]; omega
        · have HX := Lib.hid (show idB (by8 l m) = (pre && (l.take (m + 1)).all (fun c => idB c.toNat)) by rw [HN.out, ← Bool.and_assoc, ← H.out, Bool.true_and]; rfl)
          clear H HN
          go_wp2
          all_goals
            go_round
            case rel =>
              refine ⟨m + 1, _, by omega, rfl, by go_num, Lib.hid ?_⟩
              rw [← HX.out, Bool.eq_iff_iff]
              simp [idB, alnumB]
              try omega
            case measure => simp [intOf]; omega
      · obtain rfl : m = l.length := by omega
        have hok : b = okId l := by
          rw [H.out, HPRE.out, List.take_length]
          unfold okId
          cases l.all (fun c => idB c.toNat) <;> simp
        have hE := HE.out
        rw [← hok] at hE
        clear H HPRE HE hok
        rcases b with _ | _
        · rw [if_neg (by simp)] at hE
          rcases hE with hE | hE
          · have hE : n = 190 := hE
            subst hE
            go_wp2
            go_ret
            exact ⟨rfl, K.out.alloc _⟩
          · obtain ⟨hA, hn0⟩ := Prod.mk.inj hE
            clear hE
            subst hn0
            simp only [Adr.mk.injEq] at hA
            obtain ⟨rfl, rfl, rfl, rfl, rfl⟩ := hA
            go_wp2
            go_ret
            exact ⟨by first | rfl | simp, K.out.alloc _⟩
        · rw [if_pos rfl] at hE
          obtain ⟨hA, hn0⟩ := Prod.mk.inj hE
          clear hE
          subst hn0
          simp only [Adr.mk.injEq] at hA
          obtain ⟨rfl, rfl, rfl, rfl, rfl⟩ := hA
          have ta : adrEq ⟨4, i, [], 0, []⟩ ⟨4, i, [], 0, []⟩ = true := by simp [adrEq]
          go_wp2
          go_ret
          exact ⟨by first | rfl | simp, K.out.alloc _⟩
end Go.Proofs.YtjbfkalkcopapaaDoor
