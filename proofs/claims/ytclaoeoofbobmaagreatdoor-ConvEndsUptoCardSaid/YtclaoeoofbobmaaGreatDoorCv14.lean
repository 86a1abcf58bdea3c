/- Layer 9: the law ConvEnds, walked. -/
import Derived.Test.YtclaoeoofbobmaaGreatDoorCv13
import Derived.Test.YtclaoeoofbobmaaGreatDoorCvA
namespace Go.Proofs.YtclaoeoofbobmaaGreatDoor
open Go Go.RowKit
set_option linter.all false
namespace Cv
open P10
theorem ends_wf (n : Nat) : ∀ x ∈ ends n, ∀ v ∈ x.items, v.wf := by
  intro x hx v hv
  unfold ends at hx
  obtain ⟨k, -, rfl⟩ := List.mem_map.1 hx
  simp only [Ob.fresh] at hv
  cases k with
  | zero => simp [endI] at hv
  | succ k =>
    simp only [endI, List.mem_cons, List.not_mem_nil, or_false] at hv
    rcases hv with rfl | rfl <;> exact wf_obj _
set_option maxRecDepth 100000 in
set_option maxHeartbeats 32000000 in
theorem ends_law (n : Int) (w : World) (h0 : 0 ≤ n) (h1 : n < 256) (hW : CW w) :
    Calls Tryz.prog 3 #[.int .u8 n] w fun e w' => e = .returned (.bool true) ∧ Pur w w' := by
  have AW := awake_any hW
  have NH := fun w => new_st 1000 w
  simp only [hd_new 1000 (by decide) (by decide)] at NH
  obtain ⟨m, hm, hm40⟩ : ∃ m : Nat, (n % 40 : Int) = m ∧ m < 40 := ⟨(n % 40).toNat, by omega, by omega⟩
  have tm : n.tmod 40 = (m : Int) := by rw [Int.tmod_eq_emod_of_nonneg h0]; exact hm
  have wm : IntKind.u8.wrap (m : Int) = (m : Int) := IntWalk.u8_in _ (by omega)
  clear hm h0 h1
  go_enter Tryz.func3, Tryz.ntmps3
  go_wp2_with fail
  refine AW.mono ?_
  rintro e w1 ⟨rfl, p1⟩
  go_wp2_with fail
  refine (NH _).mono ?_
  rintro e w2 ⟨hh, rfl, A2⟩
  have R2 := array_st A2 (.slice none 0 0) [] (.inl ⟨rfl, rfl⟩) (by simp) (by decide)
  rw [ends_zero (by decide)] at R2
  have hW1 := hW.pur p1
  clear AW NH A2 hW
  go_wp2_with fail
  refine R2.mono ?_
  rintro e w3 ⟨rfl, A3, -⟩
  clear R2
  go_wp2
  go_loopw [4, 6, 22] (fun l u c wr => ∃ k : Nat, k ≤ m ∧ c = .int .u8 (k : Int) ∧ l = .int .i64 (k : Int) ∧ u = .int .i64 (unitsN k : Int) ∧ At w1 hh (cellsOf 1000) (fun _ => False) wr ⟨999 - 3 * (k : Int), ends (k + 1)⟩) (fun _ _ c _ => m + 1 - (intOf c).toNat)
  case atStart => exact ⟨0, by omega, rfl, rfl, rfl, A3⟩
  case round =>
    obtain ⟨k, hk, rfl, rfl, rfl, A⟩ := hrel
    clear A3
    by_cases hlt : k < m
    · have hlt' : (k : Int) < (m : Int) := by omega
      have A4 := (A.pure (((Pur.refl wr).alloc (.cells #[.int .i64 5, .float .f64 0, .string ⟨#[]⟩, .int .i64 (k : Int)] 30)).alloc (.cells #[.int .i64 5, .float .f64 0, .string ⟨#[]⟩, .int .i64 (k : Int), .int .i64 5, .float .f64 0, .string ⟨#[]⟩, .int .i64 (k : Int)] 30))).1
      have hsz : (wr.alloc (.cells #[.int .i64 5, .float .f64 0, .string ⟨#[]⟩, .int .i64 (k : Int)] 30)).heap.size = wr.heap.size + 1 := Array.size_push _
      have R4 := array_st A4 (.slice (some ⟨wr.heap.size + 1, 0, none⟩) 2 2) [objV k, objV k] (by rw [← hsz]; exact vread_new _ [objV k, objV k] _ _ rfl) (by intro x hx; simp only [List.mem_cons, List.not_mem_nil, or_false] at hx; rcases hx with rfl | rfl <;> exact wf_obj _) (by show 2 ≤ 1000000; decide)
      rw [ends_add (by omega)] at R4
      have wk : IntKind.u8.wrap ((k : Int) + 1) = (k : Int) + 1 := IntWalk.u8_in _ (by omega)
      have hu : unitsN k ≤ 100000 := by rw [units_is]; omega
      have v1 : IntKind.i64.wrap (2 * (unitsN k : Int)) = 2 * (unitsN k : Int) := IntWalk.i64_in _ (by omega)
      have v2 : IntKind.i64.wrap (2 * (unitsN k : Int) + 1) = 2 * (unitsN k : Int) + 1 := IntWalk.i64_in _ (by omega)
      have v3 : min (2 * (unitsN k : Int) + 1) 100000 = ((unitsN (k + 1) : Nat) : Int) := by rw [unitsN]; omega
      have HD : (⟨999 - 3 * (k : Int) - 3, ends (k + 2)⟩ : Hd) = ⟨999 - 3 * ((k + 1 : Nat) : Int), ends (k + 1 + 1)⟩ := by
        rw [show 999 - 3 * (k : Int) - 3 = 999 - 3 * ((k + 1 : Nat) : Int) by omega]
      rw [HD] at R4
      obtain ⟨u1, hu1⟩ : ∃ u1, unitsN (k + 1) = u1 := ⟨_, rfl⟩
      rw [hu1] at v3
      have HU := Lib.hid hu1
      clear hu1
      generalize unitsN k = u0 at *
      clear A A4 hsz HD hu
      go_wp2_with fail
      refine R4.mono ?_
      rintro e w5 ⟨rfl, A5, -⟩
      clear R4
      go_wp2
      go_roundw
      case rel => exact ⟨k + 1, by omega, by go_num, by go_num, by rw [HU.out], A5⟩
      case measure => simp [intOf]; omega
    · obtain rfl : k = m := by omega
      obtain ⟨s, HW5, hs, hd⟩ := At.hw A hW1 (ends_wf _)
      have PP := p1.trans A.pur
      subst hs
      have T5 := text_any ⟨5, 0, [], (k : Int)⟩ HW5 (wf_obj _)
      rw [hd, show (⟨5, 0, [], (k : Int)⟩ : Va) = objV (k : Int) from rfl, text_ends TX rfl] at T5
      have hu := units_is k
      have hel := endT_len k
      have h2 : 0 < 2 ^ k := Nat.two_pow_pos k
      clear HW5 A hW1 p1 tm hd
      by_cases hbig : 2 ^ k - 1 ≤ 8192
      · rw [if_pos hbig] at T5
        have hu2 : unitsN k = 2 ^ k - 1 := by rw [hu]; omega
        have d1 : decide ((8192 : Int) < (unitsN k : Int)) = false := by rw [decide_eq_false_iff_not]; omega
        have d2 : decide (8192 < unitsN k) = false := by rw [decide_eq_false_iff_not]; omega
        have v1 : IntKind.i64.wrap (2 * (unitsN k : Int)) = 2 * (unitsN k : Int) := IntWalk.i64_in _ (by omega)
        have v2 : (((endT k).length : Int) == 2 * (unitsN k : Int)) = true := by rw [beq_iff_eq, hel, hu2]; omega
        rw [show tv (some (endT k)) = .tuple #[.string ⟨(endT k).toArray⟩, .int .i64 0] from rfl] at T5
        simp only [objV, Va.v, Va.cells] at T5
        generalize unitsN k = u at *
        generalize endT k = t at *
        clear hu hel h2 hbig hu2
        go_wp2_with fail
        refine T5.mono ?_
        rintro e w6 ⟨rfl, p6⟩
        clear T5
        go_wp2
        go_ret
        exact ⟨rfl, PP.trans p6⟩
      · rw [if_neg hbig] at T5
        have d1 : decide ((8192 : Int) < (unitsN k : Int)) = true := by rw [decide_eq_true_eq, hu]; omega
        have d2 : decide (8192 < unitsN k) = true := by rw [decide_eq_true_eq, hu]; omega
        rw [show tv none = .tuple #[.string ⟨#[]⟩, .int .i64 112] from rfl] at T5
        simp only [objV, Va.v, Va.cells] at T5
        generalize unitsN k = u at *
        clear hu hel h2 hbig
        go_wp2_with fail
        refine T5.mono ?_
        rintro e w6 ⟨rfl, p6⟩
        clear T5
        go_wp2
        go_ret
        exact ⟨rfl, PP.trans p6⟩
end Cv
end Go.Proofs.YtclaoeoofbobmaaGreatDoor
