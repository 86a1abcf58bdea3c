/- The document's Read. -/
import Derived.Test.YtlgdkaeiadhiaaaGreatDoorHt10
import Derived.Test.YtlgdkaeiadhiaaaGreatDoorHtPure6
namespace Go.Proofs.YtlgdkaeiadhiaaaGreatDoor
open Go Go.RowKit
set_option linter.all false
attribute [local go_sem ↓] Go.wp_at_zero Go.wp_at_succ
def zeroM : Value := .agg #[.string ⟨#[]⟩, .slice none 0 0, .string ⟨#[]⟩, .int .i64 0]
/-- what the document's Read gives -/
def RGives (w : World) (r : Option Msg × Int) (e : Ending) (w' : World) : Prop := match r with
  | (none, n) => e = .returned (.tuple #[zeroM, .int .i64 n]) ∧ Pur w w'
  | (some m, _) => ∃ v, e = .returned (.tuple #[.agg #[.string ⟨m.first.toArray⟩, v, .string ⟨m.body.toArray⟩, .int .i64 (m.n : Nat)], .int .i64 0]) ∧ FRead w' v m.heads ∧ m.heads.length ≤ 100000 ∧ Pur w w'
theorem rgive_err {w w' : World} {n : Int} (h : Pur w w') : RGives w (none, n) (.returned (.tuple #[zeroM, .int .i64 n])) w' := ⟨rfl, h⟩
theorem stn_neg (s : Bytes) : decide (stn s < 0) = !(statusOf s).isSome := by
  unfold stn
  cases h : statusOf s with
  | none => rfl
  | some n =>
    have : 0 ≤ n := by
      unfold statusOf at h
      split at h
      · obtain rfl := Option.some.inj h; omega
      · cases h
    simp; omega
set_option maxRecDepth 100000 in
set_option maxHeartbeats 4000000 in
theorem rreadq_long (b : Bytes) (w : World) (hs : b.length ≤ 10000000) (hi : idx crlf2 b = none) (h : 4096 < b.length) :
    Calls Tryz.prog 23 #[.string ⟨b.toArray⟩, .bool true] w fun e w' => RGives w (readMsg (fun s => (reqLine s).isSome) true b) e w' := by
  have HNV := Lib.hid (idx_never b hi)
  rw [rd_long hi h]
  have e1 : decide ((4096 : Int) < b.length) = true := decide_eq_true (by omega)
  clear hi h
  go_enter Tryz.func23, Tryz.ntmps23
  go_wp2
  go_loop [6] (fun k => ∃ n : Nat, n ≤ b.length - 3 ∧ k = .int .i64 n) (fun k => b.length + 1 - (intOf k).toNat)
  case atStart => exact ⟨0, by omega, rfl⟩
  case round =>
    obtain ⟨n, hn, rfl⟩ := hrel
    by_cases hlt : n < b.length - 3
    · obtain ⟨m, hm⟩ : ∃ m : Nat, m = n + 4 := ⟨_, rfl⟩
      have hmi : (n : Int) + 4 = (m : Int) := by omega
      have l1 : decide (m ≤ b.length) = true := decide_eq_true (by omega)
      have l2 : (m : Int) ≤ b.length := by omega
      have l3 : (n : Int) ≤ m := by omega
      have l4 : n ≤ m := by omega
      have l5 : m ≤ b.length := by omega
      have hne : ¬ sub b n m = [13, 10, 13, 10] := fun e => HNV.out n (by omega) ((prefix_sub (t := crlf2) (l := b) (i := n) (by have e4 : crlf2.length = 4 := rfl; omega)).2 (by rw [show n + crlf2.length = m from hm.symm]; exact e))
      have t1 : (sub b n m != [13, 10, 13, 10]) = true := by simpa using hne
      have t2 : (sub b n m == [13, 10, 13, 10]) = false := by simpa using hne
      clear hne hm
      go_wp2
      go_round
      case rel => exact ⟨n + 1, by omega, by go_num⟩
      case measure => simp [intOf]; omega
    · have l1 : decide ((n : Int) + 4 ≤ b.length) = false := decide_eq_false (by omega)
      have l2 : decide ((b.length : Int) < (n : Int) + 4) = true := decide_eq_true (by omega)
      clear hlt
      go_wp2
      refine bodyPost_ret (v := .tuple #[zeroM, .int .i64 2]) (by simp [results, Tryz.results23, go_sem, zeroM]) rfl (rgive_err ?_)
      repeat (first | with_reducible exact Pur.refl w | refine Pur.setCell ?_ (by simp) _ | refine Pur.alloc ?_ _)
set_option maxRecDepth 100000 in
set_option maxHeartbeats 4000000 in
theorem rreadq_none (b : Bytes) (w : World) (hs : b.length ≤ 10000000) (hi : idx crlf2 b = none) (h : b.length ≤ 4096) :
    Calls Tryz.prog 23 #[.string ⟨b.toArray⟩, .bool true] w fun e w' => RGives w (readMsg (fun s => (reqLine s).isSome) true b) e w' := by
  have HNV := Lib.hid (idx_never b hi)
  rw [rd_none hi h]
  have e1 : decide ((4096 : Int) < b.length) = false := decide_eq_false (by omega)
  clear hi h
  go_enter Tryz.func23, Tryz.ntmps23
  go_wp2
  go_loop [6] (fun k => ∃ n : Nat, n ≤ b.length - 3 ∧ k = .int .i64 n) (fun k => b.length + 1 - (intOf k).toNat)
  case atStart => exact ⟨0, by omega, rfl⟩
  case round =>
    obtain ⟨n, hn, rfl⟩ := hrel
    by_cases hlt : n < b.length - 3
    · obtain ⟨m, hm⟩ : ∃ m : Nat, m = n + 4 := ⟨_, rfl⟩
      have hmi : (n : Int) + 4 = (m : Int) := by omega
      have l1 : decide (m ≤ b.length) = true := decide_eq_true (by omega)
      have l2 : (m : Int) ≤ b.length := by omega
      have l3 : (n : Int) ≤ m := by omega
      have l4 : n ≤ m := by omega
      have l5 : m ≤ b.length := by omega
      have hne : ¬ sub b n m = [13, 10, 13, 10] := fun e => HNV.out n (by omega) ((prefix_sub (t := crlf2) (l := b) (i := n) (by have e4 : crlf2.length = 4 := rfl; omega)).2 (by rw [show n + crlf2.length = m from hm.symm]; exact e))
      have t1 : (sub b n m != [13, 10, 13, 10]) = true := by simpa using hne
      have t2 : (sub b n m == [13, 10, 13, 10]) = false := by simpa using hne
      clear hne hm
      go_wp2
      go_round
      case rel => exact ⟨n + 1, by omega, by go_num⟩
      case measure => simp [intOf]; omega
    · have l1 : decide ((n : Int) + 4 ≤ b.length) = false := decide_eq_false (by omega)
      have l2 : decide ((b.length : Int) < (n : Int) + 4) = true := decide_eq_true (by omega)
      clear hlt
      go_wp2
      refine bodyPost_ret (v := .tuple #[zeroM, .int .i64 3]) (by simp [results, Tryz.results23, go_sem, zeroM]) rfl (rgive_err ?_)
      repeat (first | with_reducible exact Pur.refl w | refine Pur.setCell ?_ (by simp) _ | refine Pur.alloc ?_ _)
set_option maxRecDepth 100000 in
set_option maxHeartbeats 4000000 in
theorem rreadq_far (b : Bytes) (k : Nat) (w : World) (hs : b.length ≤ 10000000) (hi : idx crlf2 b = some k) (hk : 4096 < k + 4) :
    Calls Tryz.prog 23 #[.string ⟨b.toArray⟩, .bool true] w fun e w' => RGives w (readMsg (fun s => (reqLine s).isSome) true b) e w' := by
  have HAT := Lib.hid (idx_at b k hi)
  have hkb : k + 4 ≤ b.length := by have := idx_bound hi; have e : crlf2.length = 4 := rfl; omega
  rw [rd_far hi hk]
  clear hi
  go_enter Tryz.func23, Tryz.ntmps23
  go_wp2
  go_loop [6] (fun kk => ∃ n : Nat, n ≤ k ∧ kk = .int .i64 n) (fun kk => b.length + 1 - (intOf kk).toNat)
  case atStart => exact ⟨0, by omega, rfl⟩
  case round =>
    obtain ⟨n, hn, rfl⟩ := hrel
    obtain ⟨m, hm⟩ : ∃ m : Nat, m = n + 4 := ⟨_, rfl⟩
    have hmi : (n : Int) + 4 = (m : Int) := by omega
    have l1 : decide (m ≤ b.length) = true := decide_eq_true (by omega)
    have l2 : (m : Int) ≤ b.length := by omega
    have l3 : (n : Int) ≤ m := by omega
    have l4 : n ≤ m := by omega
    have l5 : m ≤ b.length := by omega
    have hpx := prefix_sub (t := crlf2) (l := b) (i := n) (by have e4 : crlf2.length = 4 := rfl; omega)
    rw [show n + crlf2.length = m from hm.symm] at hpx
    by_cases hlt : n < k
    · have hne : ¬ sub b n m = [13, 10, 13, 10] := fun e => HAT.out.2 n hlt (hpx.2 e)
      have t1 : (sub b n m != [13, 10, 13, 10]) = true := by simpa using hne
      have t2 : (sub b n m == [13, 10, 13, 10]) = false := by simpa using hne
      clear hne hm hpx
      go_wp2
      go_round
      case rel => exact ⟨n + 1, by omega, by go_num⟩
      case measure => simp [intOf]; omega
    · obtain rfl : n = k := by omega
      have heq : sub b n m = [13, 10, 13, 10] := hpx.1 HAT.out.1
      have t1 : (sub b n m != [13, 10, 13, 10]) = false := by rw [heq]; rfl
      have t2 : (sub b n m == [13, 10, 13, 10]) = true := by rw [heq]; rfl
      have f1 : decide ((b.length : Int) < (m : Int)) = false := decide_eq_false (by omega)
      have f2 : decide (b.length < m) = false := decide_eq_false (by omega)
      clear heq hpx hlt HAT
      have f3 : decide ((4096 : Int) < (m : Int)) = true := decide_eq_true (by omega)
      have f4 : decide (4096 < m) = true := decide_eq_true (by omega)
      clear hm
      go_wp2
      refine bodyPost_ret (v := .tuple #[zeroM, .int .i64 2]) (by simp [results, Tryz.results23, go_sem, zeroM]) rfl (rgive_err ?_)
      repeat (first | with_reducible exact Pur.refl w | refine Pur.setCell ?_ (by simp) _ | refine Pur.alloc ?_ _)
set_option maxRecDepth 100000 in
set_option maxHeartbeats 4000000 in
theorem rreadp_long (b : Bytes) (w : World) (hs : b.length ≤ 10000000) (hi : idx crlf2 b = none) (h : 4096 < b.length) :
    Calls Tryz.prog 23 #[.string ⟨b.toArray⟩, .bool false] w fun e w' => RGives w (readMsg (fun s => (statusOf s).isSome) false b) e w' := by
  have HNV := Lib.hid (idx_never b hi)
  rw [rd_long hi h]
  have e1 : decide ((4096 : Int) < b.length) = true := decide_eq_true (by omega)
  clear hi h
  go_enter Tryz.func23, Tryz.ntmps23
  go_wp2
  go_loop [6] (fun k => ∃ n : Nat, n ≤ b.length - 3 ∧ k = .int .i64 n) (fun k => b.length + 1 - (intOf k).toNat)
  case atStart => exact ⟨0, by omega, rfl⟩
  case round =>
    obtain ⟨n, hn, rfl⟩ := hrel
    by_cases hlt : n < b.length - 3
    · obtain ⟨m, hm⟩ : ∃ m : Nat, m = n + 4 := ⟨_, rfl⟩
      have hmi : (n : Int) + 4 = (m : Int) := by omega
      have l1 : decide (m ≤ b.length) = true := decide_eq_true (by omega)
      have l2 : (m : Int) ≤ b.length := by omega
      have l3 : (n : Int) ≤ m := by omega
      have l4 : n ≤ m := by omega
      have l5 : m ≤ b.length := by omega
      have hne : ¬ sub b n m = [13, 10, 13, 10] := fun e => HNV.out n (by omega) ((prefix_sub (t := crlf2) (l := b) (i := n) (by have e4 : crlf2.length = 4 := rfl; omega)).2 (by rw [show n + crlf2.length = m from hm.symm]; exact e))
      have t1 : (sub b n m != [13, 10, 13, 10]) = true := by simpa using hne
      have t2 : (sub b n m == [13, 10, 13, 10]) = false := by simpa using hne
      clear hne hm
      go_wp2
      go_round
      case rel => exact ⟨n + 1, by omega, by go_num⟩
      case measure => simp [intOf]; omega
    · have l1 : decide ((n : Int) + 4 ≤ b.length) = false := decide_eq_false (by omega)
      have l2 : decide ((b.length : Int) < (n : Int) + 4) = true := decide_eq_true (by omega)
      clear hlt
      go_wp2
      refine bodyPost_ret (v := .tuple #[zeroM, .int .i64 2]) (by simp [results, Tryz.results23, go_sem, zeroM]) rfl (rgive_err ?_)
      repeat (first | with_reducible exact Pur.refl w | refine Pur.setCell ?_ (by simp) _ | refine Pur.alloc ?_ _)
set_option maxRecDepth 100000 in
set_option maxHeartbeats 4000000 in
theorem rreadp_none (b : Bytes) (w : World) (hs : b.length ≤ 10000000) (hi : idx crlf2 b = none) (h : b.length ≤ 4096) :
    Calls Tryz.prog 23 #[.string ⟨b.toArray⟩, .bool false] w fun e w' => RGives w (readMsg (fun s => (statusOf s).isSome) false b) e w' := by
  have HNV := Lib.hid (idx_never b hi)
  rw [rd_none hi h]
  have e1 : decide ((4096 : Int) < b.length) = false := decide_eq_false (by omega)
  clear hi h
  go_enter Tryz.func23, Tryz.ntmps23
  go_wp2
  go_loop [6] (fun k => ∃ n : Nat, n ≤ b.length - 3 ∧ k = .int .i64 n) (fun k => b.length + 1 - (intOf k).toNat)
  case atStart => exact ⟨0, by omega, rfl⟩
  case round =>
    obtain ⟨n, hn, rfl⟩ := hrel
    by_cases hlt : n < b.length - 3
    · obtain ⟨m, hm⟩ : ∃ m : Nat, m = n + 4 := ⟨_, rfl⟩
      have hmi : (n : Int) + 4 = (m : Int) := by omega
      have l1 : decide (m ≤ b.length) = true := decide_eq_true (by omega)
      have l2 : (m : Int) ≤ b.length := by omega
      have l3 : (n : Int) ≤ m := by omega
      have l4 : n ≤ m := by omega
      have l5 : m ≤ b.length := by omega
      have hne : ¬ sub b n m = [13, 10, 13, 10] := fun e => HNV.out n (by omega) ((prefix_sub (t := crlf2) (l := b) (i := n) (by have e4 : crlf2.length = 4 := rfl; omega)).2 (by rw [show n + crlf2.length = m from hm.symm]; exact e))
      have t1 : (sub b n m != [13, 10, 13, 10]) = true := by simpa using hne
      have t2 : (sub b n m == [13, 10, 13, 10]) = false := by simpa using hne
      clear hne hm
      go_wp2
      go_round
      case rel => exact ⟨n + 1, by omega, by go_num⟩
      case measure => simp [intOf]; omega
    · have l1 : decide ((n : Int) + 4 ≤ b.length) = false := decide_eq_false (by omega)
      have l2 : decide ((b.length : Int) < (n : Int) + 4) = true := decide_eq_true (by omega)
      clear hlt
      go_wp2
      refine bodyPost_ret (v := .tuple #[zeroM, .int .i64 3]) (by simp [results, Tryz.results23, go_sem, zeroM]) rfl (rgive_err ?_)
      repeat (first | with_reducible exact Pur.refl w | refine Pur.setCell ?_ (by simp) _ | refine Pur.alloc ?_ _)
set_option maxRecDepth 100000 in
set_option maxHeartbeats 4000000 in
theorem rreadp_far (b : Bytes) (k : Nat) (w : World) (hs : b.length ≤ 10000000) (hi : idx crlf2 b = some k) (hk : 4096 < k + 4) :
    Calls Tryz.prog 23 #[.string ⟨b.toArray⟩, .bool false] w fun e w' => RGives w (readMsg (fun s => (statusOf s).isSome) false b) e w' := by
  have HAT := Lib.hid (idx_at b k hi)
  have hkb : k + 4 ≤ b.length := by have := idx_bound hi; have e : crlf2.length = 4 := rfl; omega
  rw [rd_far hi hk]
  clear hi
  go_enter Tryz.func23, Tryz.ntmps23
  go_wp2
  go_loop [6] (fun kk => ∃ n : Nat, n ≤ k ∧ kk = .int .i64 n) (fun kk => b.length + 1 - (intOf kk).toNat)
  case atStart => exact ⟨0, by omega, rfl⟩
  case round =>
    obtain ⟨n, hn, rfl⟩ := hrel
    obtain ⟨m, hm⟩ : ∃ m : Nat, m = n + 4 := ⟨_, rfl⟩
    have hmi : (n : Int) + 4 = (m : Int) := by omega
    have l1 : decide (m ≤ b.length) = true := decide_eq_true (by omega)
    have l2 : (m : Int) ≤ b.length := by omega
    have l3 : (n : Int) ≤ m := by omega
    have l4 : n ≤ m := by omega
    have l5 : m ≤ b.length := by omega
    have hpx := prefix_sub (t := crlf2) (l := b) (i := n) (by have e4 : crlf2.length = 4 := rfl; omega)
    rw [show n + crlf2.length = m from hm.symm] at hpx
    by_cases hlt : n < k
    · have hne : ¬ sub b n m = [13, 10, 13, 10] := fun e => HAT.out.2 n hlt (hpx.2 e)
      have t1 : (sub b n m != [13, 10, 13, 10]) = true := by simpa using hne
      have t2 : (sub b n m == [13, 10, 13, 10]) = false := by simpa using hne
      clear hne hm hpx
      go_wp2
      go_round
      case rel => exact ⟨n + 1, by omega, by go_num⟩
      case measure => simp [intOf]; omega
    · obtain rfl : n = k := by omega
      have heq : sub b n m = [13, 10, 13, 10] := hpx.1 HAT.out.1
      have t1 : (sub b n m != [13, 10, 13, 10]) = false := by rw [heq]; rfl
      have t2 : (sub b n m == [13, 10, 13, 10]) = true := by rw [heq]; rfl
      have f1 : decide ((b.length : Int) < (m : Int)) = false := decide_eq_false (by omega)
      have f2 : decide (b.length < m) = false := decide_eq_false (by omega)
      clear heq hpx hlt HAT
      have f3 : decide ((4096 : Int) < (m : Int)) = true := decide_eq_true (by omega)
      have f4 : decide (4096 < m) = true := decide_eq_true (by omega)
      clear hm
      go_wp2
      refine bodyPost_ret (v := .tuple #[zeroM, .int .i64 2]) (by simp [results, Tryz.results23, go_sem, zeroM]) rfl (rgive_err ?_)
      repeat (first | with_reducible exact Pur.refl w | refine Pur.setCell ?_ (by simp) _ | refine Pur.alloc ?_ _)
end Go.Proofs.YtlgdkaeiadhiaaaGreatDoor
