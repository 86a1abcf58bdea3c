/- Layer 5: strings.IndexRune at the letters of escapes; what stands behind a backslash. -/
import Derived.Test.YtepmneongpbglaaGreatDoorLk5
import Derived.Laws.Runes
import Derived.Laws.RangeString
import Derived.WalkMore
import Derived.Laws.BitsAllLaws
namespace Go.Proofs.YtepmneongpbglaaGreatDoor
open Go Go.RowKit
set_option linter.all false
namespace Lx
def set6 : List UInt8 := [98, 116, 110, 118, 102, 114]
theorem set6_ascii (n : Nat) (h : n < 6) : by8 set6 n < 128 := by
  have : ∀ n, n < 6 → by8 set6 n < 128 := by decide
  exact this n h
theorem index_hi (l : List UInt8) (c : UInt8) (h : ∀ b ∈ l, b.toNat < 128) (hc : 128 ≤ c.toNat) : Lib.indexByte l c = -1 := by
  induction l with
  | nil => rfl
  | cons b l ih =>
    have hb := h b (by simp)
    rw [Lib.indexByte, if_neg (by simp only [beq_iff_eq]; intro e; rw [e] at hb; omega), ih (fun b hb => h b (by simp [hb]))]
    rfl
theorem set6_all : ∀ b ∈ set6, b.toNat < 128 := by decide
set_option maxRecDepth 100000 in
set_option maxHeartbeats 4000000 in
theorem idx_hi (r : Int) (w : World) (h : r < 0 ∨ 128 ≤ r) (h0 : -1 ≤ r) (h1 : r ≤ 1114111) :
    Calls Tryz.prog 61 #[.string ⟨#[98, 116, 110, 118, 102, 114]⟩, .int .i32 r] w fun e w' => e = .returned (.int .i64 (-1)) ∧ Pur w w' := by
  by_cases hF : r = 65533
  · subst hF
    go_enter Tryz.func61, Tryz.ntmps61
    go_wp2
    go_loopw [176] (fun _ wr => ∃ n, n ≤ 6 ∧ wr = w.iter ⟨set6.toArray⟩ n) (fun _ wr => 7 - (match wr.heap[w.heap.size]? with | some (.stringIter _ n) => n | _ => 0))
    case atStart => exact ⟨0, by omega, rfl⟩
    case round =>
      obtain ⟨n, hn, rfl⟩ := hrel
      have hz : (⟨set6.toArray⟩ : ByteArray).size = 6 := rfl
      by_cases hlt : n < 6
      · have ha : ((⟨set6.toArray⟩ : ByteArray)[n]'(by rw [hz]; exact hlt)).toNat < 128 := by
          have e := set6_ascii n hlt
          unfold by8 at e
          rw [List.getD_eq_getElem?_getD, List.getElem?_eq_getElem (show n < set6.length from hlt), Option.getD_some] at e
          exact e
        have RN := fun ty => run_next_ascii (P := Tryz.prog) w ⟨set6.toArray⟩ n ty (by rw [hz]; exact hlt) ha
        generalize ((⟨set6.toArray⟩ : ByteArray)[n]'(by rw [hz]; exact hlt)).toNat = y at *
        have d1 : ((y : Int) == 65533) = false := by simp; omega
        go_wp2
        go_roundw
        case rel => exact ⟨n + 1, by omega, rfl⟩
        case measure => rw [World.iter_heap, World.iter_heap]; simp only; omega
      · obtain rfl : n = 6 := by omega
        have RN := fun ty => run_next_end (P := Tryz.prog) w ⟨set6.toArray⟩ 6 ty (by rw [hz]; omega)
        go_wp2
        go_ret
        exact ⟨rfl, (Pur.refl w).alloc _⟩
  · have d0 : (r == 65533) = false := by simpa using hF
    have hlo : ¬ (0 ≤ r ∧ r < 128) := by omega
    have VR := fun w => Tryz.utf8_ValidRune r w
    have b1 : (decide ((0 : Int) ≤ r) && decide (r < 128)) = false := by
      rcases h with h | h
      · simp; omega
      · simp; omega
    obtain ⟨p1, hp1⟩ : ∃ b, decide ((0 : Int) ≤ r) = b := ⟨_, rfl⟩
    obtain ⟨p2, hp2⟩ : ∃ b, decide (r < 128) = b := ⟨_, rfl⟩
    rw [hp1, hp2] at b1
    by_cases hv : Lib.validRune r = true
    · rw [hv] at VR
      have hval : Utf8.valid r = true := by
        simp only [Lib.validRune, decide_eq_true_eq] at hv
        simp only [Utf8.valid, Bool.or_eq_true, Bool.and_eq_true, decide_eq_true_eq]
        omega
      have h128 : 128 ≤ r := by
        simp only [Lib.validRune, decide_eq_true_eq] at hv
        omega
      obtain ⟨e1, e2, e3⟩ := encode_facts r hval h128
      obtain ⟨l, hl⟩ : ∃ l : List UInt8, Utf8.encode r = ⟨l.toArray⟩ := ⟨(Utf8.encode r).data.toList, by simp⟩
      rw [hl] at e1 e2 e3
      have hz : (⟨l.toArray⟩ : ByteArray).size = l.length := by show l.toArray.size = _; simp
      rw [hz] at e1 e2
      obtain ⟨x, hx, hx8⟩ : ∃ x, by8 l (l.length - 1) = x ∧ 128 ≤ x := by
        refine ⟨_, rfl, ?_⟩
        have h3 := e3 (by rw [hz]; omega)
        unfold by8
        rw [List.getD_eq_getElem?_getD, List.getElem?_eq_getElem (by omega)]
        simp only [hz] at h3
        exact h3
      have hxl : x < 256 := hx ▸ by8_lt l _
      obtain ⟨m, hm⟩ : ∃ m, l.length = m + 1 := ⟨l.length - 1, by omega⟩
      rw [hm] at hx e1 e2
      simp only [Nat.add_sub_cancel] at hx
      have hs1 := set6_ascii m (by omega)
      have hs2 : ∀ b ∈ sub set6 (m + 1) 6, b.toNat < 128 := fun b hb => set6_all b (List.mem_of_mem_drop (List.mem_of_mem_take hb))
      have IB := fun w => Tryz.strings_IndexByte ⟨(sub set6 (m + 1) 6).toArray⟩ (x : Int) w
      have hib : Lib.indexByte (sub set6 (m + 1) 6) ((x : Int).toNat.toUInt8) = -1 := index_hi _ _ hs2 (by simp; omega)
      have hlen : (l.length : Int) = (m : Int) + 1 := by omega
      have n1 : ((m : Int) + 1 - 1) = (m : Int) := by omega
      have n2 : (m : Int) < 6 := by omega
      have n3 : ((m : Int) + 1).toNat = m + 1 := by omega
      have n4 : (m : Int) + 1 ≤ 6 := by omega
      have n5 : (0 : Int) ≤ (m : Int) + 1 := by omega
      have n6 : m + 1 ≤ 6 := by omega
      have n7 : m ≤ 5 := by omega
      have n8 : m < l.length := by omega
      have n9 : (m : Int) < (l.length : Int) := by omega
      have n10 : (m : Int) < (m : Int) + 1 := by omega
      have d5 : ((by8 set6 m : Int) != (x : Int)) = true := by simp; omega
      have ws : IntKind.i64.wrap (m : Int) = (m : Int) := IntWalk.i64_in _ (by omega)
      have ws2 : IntKind.i64.wrap ((m : Int) + 1) = (m : Int) + 1 := IntWalk.i64_in _ (by omega)
      clear e3 hval
      unfold set6 at IB hib d5
      rw [hib] at IB
      replace IB := fun w => (IB w).mono fun _ _ ⟨a, b⟩ => And.intro a b.symm
      rcases p1 with _ | _ <;> rcases p2 with _ | _ <;> (try (exfalso; simp at b1; done))
      all_goals
        go_enter Tryz.func61, Tryz.ntmps61
        go_wp2_with fail
        refine (VR _).mono ?_
        rintro e w1 ⟨rfl, rfl⟩
        go_wp2
        go_step3
        go_wp2
        refine wp_loop_rounds 1 ?_
        rw [rounds_succ]
        go_wp2
        go_step3
        go_wp2
        go_region
        go_wp2
        refine wp_region_pur (by kernel_rfl) (by kernel_rfl) ?_
        repeat (quiet_step ((go_at_call 71; with_reducible exact quiet_eq (IB _))))
        refine wpQuiet_nil ?_
        intro wq hq
        go_wp2
        simp only [Exit.inBlock, Exit.then, Exit.noGoto_ret]
        refine bodyPost_ret (results_tmp rfl _ _ _) rfl ?_
        exact ⟨rfl, (Pur.refl _).drew.trans hq⟩
    · simp only [Bool.not_eq_true] at hv
      rw [hv] at VR
      rcases p1 with _ | _ <;> rcases p2 with _ | _ <;> (try (exfalso; simp at b1; done))
      all_goals
        go_enter Tryz.func61, Tryz.ntmps61
        go_wp2_with fail
        refine (VR _).mono ?_
        rintro e w1 ⟨rfl, rfl⟩
        go_wp2
        go_ret
        exact ⟨rfl, Pur.refl _⟩
/-- the place of an escape's letter -/
def escI (c : Nat) : Int := if c = 98 then 0 else if c = 116 then 1 else if c = 110 then 2 else if c = 118 then 3 else if c = 102 then 4 else if c = 114 then 5 else -1
theorem escI_tab : ∀ c : Nat, c < 128 → Lib.indexByte set6 ((c : Int).toNat.toUInt8) = escI c := by decide +kernel
theorem irune_any (c : Nat) (hc : okc c) (w : World) : Calls Tryz.prog 61 #[.string ⟨#[98, 116, 110, 118, 102, 114]⟩, .int .i32 (c : Int)] w fun e w' => e = .returned (.int .i64 (escI c)) ∧ Pur w w' := by
  by_cases h : c < 128
  · refine (Tryz.strings_IndexRune_ascii ⟨#[98, 116, 110, 118, 102, 114]⟩ (c : Int) w (by omega) (by omega)).mono ?_
    rintro e w' ⟨rfl, rfl⟩
    refine ⟨?_, Pur.refl _⟩
    rw [← escI_tab c h]
    rfl
  · have hc' : c ≤ 1114111 := by unfold okc at hc; omega
    have e1 : escI c = -1 := by
      unfold escI
      rw [if_neg (by omega), if_neg (by omega), if_neg (by omega), if_neg (by omega), if_neg (by omega), if_neg (by omega)]
    rw [e1]
    exact idx_hi (c : Int) w (.inr (by omega)) (by omega) (by omega)
end Lx
end Go.Proofs.YtepmneongpbglaaGreatDoor
