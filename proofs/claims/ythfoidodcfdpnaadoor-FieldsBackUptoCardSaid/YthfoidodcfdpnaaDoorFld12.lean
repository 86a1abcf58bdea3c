/- Write: the document's. -/
import Derived.Test.YthfoidodcfdpnaaDoorFld11
namespace Go.Proofs.YthfoidodcfdpnaaDoor
open Go Go.RowKit
/-- what the first n parts are, joined -/
def jto (fs : List Fld) (n : Nat) : Bytes := Lib.join ((fs.take n).map part) [38]
theorem joinTail_snoc (r : List Bytes) (p : Bytes) : Lib.joinTail [38] (r ++ [p]) = Lib.joinTail [38] r ++ 38 :: p := by simp [Lib.joinTail]
theorem jto_zero {fs : List Fld} {f : Fld} (hf : fs[0]? = some f) : jto fs (0 + 1) = part f := by
  unfold jto
  rw [List.take_add_one, hf]
  simp [Lib.join_one]
theorem jto_succ {fs : List Fld} {n : Nat} {f : Fld} (hf : fs[n]? = some f) (h0 : n ≠ 0) : jto fs (n + 1) = jto fs n ++ 38 :: part f := by
  unfold jto
  rw [List.take_add_one, hf]
  have hlt := (List.getElem?_eq_some_iff.1 hf).1
  cases hx : fs.take n with
  | nil =>
    have : (fs.take n).length = 0 := by rw [hx]; rfl
    rw [List.length_take] at this
    omega
  | cons g r =>
    simp only [List.map_append, List.map_cons, List.cons_append, Lib.join_cons, Option.toList_some, List.map_nil]
    rw [joinTail_snoc, List.append_assoc]
theorem jto_all (fs : List Fld) : jto fs fs.length = joined fs := by unfold jto joined; rw [List.take_length]
theorem jto_len {fs : List Fld} (hF : FSmall fs) (n : Nat) (hn : n ≤ 32) : (jto fs n).length ≤ 1920000064 := by
  have h := join_len ((fs.take n).map part) 60000001 (fun p hp => by
    obtain ⟨f, hf, rfl⟩ := List.mem_map.1 hp
    have := hF f (List.mem_of_mem_take hf)
    have := part_len f
    omega)
  have h2 : ((fs.take n).map part).length ≤ 32 := by rw [List.length_map, List.length_take]; omega
  have h3 := Nat.mul_le_mul_right (60000001 + 1) h2
  unfold jto
  omega
set_option maxRecDepth 100000 in
set_option maxHeartbeats 2000000 in
theorem rwrite_any (v : Value) (fs : List Fld) (w : World) (hR : FRead w v fs) (hs : fs.length ≤ 4611686018427387903) (hF : FSmall fs) :
    Calls Tryd.prog 16 #[v] w fun e w' => e = .returned (.tuple #[.string ⟨(write fs).1.toArray⟩, .int .i64 (write fs).2]) ∧ Pur w w' := by
  obtain ⟨a, c, rfl, hC⟩ := hR
  have HC := Lib.hid hC
  have HF := Lib.hid hF
  clear hC hF
  by_cases h32 : 32 < fs.length
  · have HP := Lib.hid (write_long h32)
    have d1 : decide ((32 : Int) < fs.length) = true := decide_eq_true (by omega)
    clear h32
    go_enter Tryd.func16, Tryd.ntmps16
    go_wp2
    go_ret2
    exact ⟨by rw [HP.out]; rfl, Pur.refl w⟩
  · have d1 : decide ((32 : Int) < fs.length) = false := decide_eq_false (by omega)
    go_enter Tryd.func16, Tryd.ntmps16
    go_wp2
    go_loopw [4, 5] (fun s k wr => ∃ n : Nat, n ≤ fs.length ∧ k = .int .i64 n ∧ s = .string ⟨(jto fs n).toArray⟩ ∧ Pur w wr) (fun _ k _ => fs.length + 1 - (intOf k).toNat)
    case atStart => exact ⟨0, by omega, rfl, rfl, Pur.refl w⟩
    case round =>
      obtain ⟨n, hn, rfl, rfl, hpr⟩ := hrel
      by_cases hlt : n < fs.length
      · have hlt' : (n : Int) < fs.length := by omega
        obtain ⟨f, hf⟩ : ∃ f, fs[n]? = some f := ⟨_, List.getElem?_eq_getElem hlt⟩
        obtain ⟨b, o, rfl, hb, c1, c2⟩ := HC.out n f hf
        rw [Nat.mul_comm 2 n] at c1 c2
        obtain ⟨f1, f2⟩ := f
        obtain ⟨l1, l2⟩ := HF.out _ (List.mem_of_getElem? hf)
        simp only at l1 l2
        have k1 : ∀ x : PW wr, x.to.cell? ⟨b, o + n * 2, none⟩ = some (.string ⟨f1.toArray⟩) := fun x => ((hpr.trans x.pur).cell (p := ⟨b, o + n * 2, none⟩) hb).trans c1
        have k2 : ∀ x : PW wr, x.to.cell? ⟨b, o + n * 2 + 1, none⟩ = some (.string ⟨f2.toArray⟩) := fun x => ((hpr.trans x.pur).cell (p := ⟨b, o + n * 2 + 1, none⟩) hb).trans c2
        have S1 := fun w => rcoded_any f1 w (by omega)
        have S2 := fun w => rcoded_any f2 w (by omega)
        have z0 := coded_len f1
        have z00 := coded_len f2
        have jl := jto_len HF.out n (by omega)
        have hz : (0 : Int) ≤ n := by omega
        by_cases h0 : n = 0
        · subst h0
          simp only [Nat.zero_mul, Nat.add_zero] at k1 k2
          have HT := Lib.hid (jto_zero hf)
          have e0 : jto fs 0 = [] := rfl
          have z1 : ¬ 9223372036854775807 < (coded f1).length + 1 := by omega
          have z2 : ¬ 9223372036854775807 < (coded f1).length + 1 + (coded f2).length := by omega
          have z3 : ¬ 9223372036854775807 < (coded f1).length := by omega
          clear hf c1 c2
          go_wp2
          refine wp_region_pur (by kernel_rfl) (by kernel_rfl) ?_
          repeat (quiet_step (((go_at_call 23; first | with_reducible exact quiet_pur (S1 _) | with_reducible exact quiet_pur (S2 _)))))
          refine wpQuiet_nil ?_
          intro wq hq
          go_wp2
          go_roundw
          case rel => exact ⟨0 + 1, by omega, by go_num, by rw [HT.out]; simp [part], hpr.trans hq⟩
          case measure => simp [intOf]; try omega
        · have HT := Lib.hid (jto_succ hf h0)
          generalize jto fs n = J at *
          have d2 : (0 : Int) < n := by omega
          have z0 : ¬ 9223372036854775807 < J.length + 1 := by omega
          have z1 : ¬ 9223372036854775807 < J.length + 1 + (coded f1).length := by omega
          have z2 : ¬ 9223372036854775807 < J.length + 1 + (coded f1).length + 1 := by omega
          have z3 : ¬ 9223372036854775807 < J.length + 1 + (coded f1).length + 1 + (coded f2).length := by omega
          have z4 : ¬ 9223372036854775807 < J.length + ((coded f1).length + 1) := by omega
          have z5 : ¬ 9223372036854775807 < J.length + ((coded f1).length + 1) + 1 := by omega
          have z6 : ¬ 9223372036854775807 < J.length + ((coded f1).length + 1 + 1) := by omega
          have z7 : ¬ 9223372036854775807 < J.length + ((coded f1).length + 1 + 1) + (coded f2).length := by omega
          clear hf c1 c2
          go_wp2
          refine wp_region_pur (by kernel_rfl) (by kernel_rfl) ?_
          repeat (quiet_step (((go_at_call 23; first | with_reducible exact quiet_pur (S1 _) | with_reducible exact quiet_pur (S2 _)))))
          refine wpQuiet_nil ?_
          intro wq hq
          go_wp2
          go_roundw
          case rel => exact ⟨n + 1, by omega, by go_num, by rw [HT.out]; simp [part], hpr.trans hq⟩
          case measure => simp [intOf]; omega
      · obtain rfl : n = fs.length := by omega
        rw [jto_all]
        have hle : (fs.length : Int) ≤ fs.length := by omega
        have h32' : fs.length ≤ 32 := by omega
        by_cases hbig : 4096 < (joined fs).length
        · have HP := Lib.hid (write_big h32' hbig)
          have d2 : decide ((4096 : Int) < ((joined fs).length : Int)) = true := decide_eq_true (by omega)
          go_wp2
          go_ret2
          exact ⟨by rw [HP.out]; rfl, hpr⟩
        · have HP := Lib.hid (write_ok h32' (Nat.le_of_not_lt hbig))
          have d2 : decide ((4096 : Int) < ((joined fs).length : Int)) = false := decide_eq_false (by omega)
          go_wp2
          go_ret2
          exact ⟨by rw [HP.out]; rfl, hpr⟩
end Go.Proofs.YthfoidodcfdpnaaDoor
