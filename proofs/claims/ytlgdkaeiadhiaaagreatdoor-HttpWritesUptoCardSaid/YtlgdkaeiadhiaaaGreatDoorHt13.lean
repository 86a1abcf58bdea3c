/- The document's Read, behind the end of the header lines. -/
import Derived.Test.YtlgdkaeiadhiaaaGreatDoorHt12
namespace Go.Proofs.YtlgdkaeiadhiaaaGreatDoor
open Go Go.RowKit
set_option linter.all false
attribute [local go_sem ↓] Go.wp_at_zero Go.wp_at_succ
theorem set_rd {w : World} {a : Addr} {v : Value} (h : (w.cell? a).isSome = true) : (w.setCell a v).cell? a = some v := by
  obtain ⟨u, hu⟩ := Option.isSome_iff_exists.1 h
  exact World.cell?_setCell_same _ _ _ hu
set_option maxRecDepth 100000 in
set_option maxHeartbeats 4000000 in
theorem rreadq_first (b : Bytes) (k : Nat) (w : World) (hs : b.length ≤ 10000000) (hi : idx crlf2 b = some k) (hk : k + 4 ≤ 4096)
    (hf0 : ∀ f r, pcs crlf (b.take k) = f :: r → (reqLine f).isSome = false) :
    Calls Tryz.prog 23 #[.string ⟨b.toArray⟩, .bool true] w fun e w' => RGives w (readMsg (fun s => (reqLine s).isSome) true b) e w' := by
  have HAT := Lib.hid (idx_at b k hi)
  have hkb : k + 4 ≤ b.length := by have := idx_bound hi; have e : crlf2.length = 4 := rfl; omega
  have hne := pcs_ne (by_ := crlf) (b.take k)
  have hpl := pcs_len crlf _ (b.take k) (Nat.le_refl _)
  have hpe := pcs_le crlf _ (b.take k) (Nat.le_refl _)
  have S := fun w => rsplit_any (b.take k) crlf w (by decide) (by rw [List.length_take]; omega) (by decide)
  rw [List.length_take] at hpl hpe
  obtain ⟨f, r, hp⟩ : ∃ f r, pcs crlf (b.take k) = f :: r := by
    cases e : pcs crlf (b.take k) with
    | nil => exact absurd e hne
    | cons x y => exact ⟨x, y, rfl⟩
  have hfl : f.length ≤ k := by have := hpe f (by rw [hp]; simp); omega
  have hrl : r.length ≤ k := by rw [hp, List.length_cons] at hpl; omega
  have hre : ∀ l ∈ r, l.length ≤ k := fun l hl => by have := hpe l (by rw [hp]; simp [hl]); omega
  have RQ := fun w => rreqline_any f w (by omega)
  have ST := fun w => rstatus_any f w (by omega)
  have STN := stn_neg f
  have hq3 : (rl f).2.2 = (reqLine f).isSome := by unfold rl; cases reqLine f <;> rfl
  rw [hq3] at RQ
  have RDF := rd_first (rt := (fun s => (reqLine s).isSome)) (ho := true) hi hk hp
  rw [hp] at S
  have hr := hf0 f r hp
  rw [RDF hr]
  rw [hr] at RQ
  have esub : sub b 0 k = b.take k := by simp [sub]
  have k0 : (0 : Int) ≤ k := by omega
  have k1 : (k : Int) ≤ b.length := by omega
  clear hi hne hpl hpe hp RDF hq3 hf0 hr hre hrl
  generalize (rl f).1 = u1 at *
  generalize (rl f).2.1 = u2 at *
  go_enter Tryz.func23, Tryz.ntmps23
  go_wp2
  go_loop [6] (fun kk => ∃ n : Nat, n ≤ k ∧ kk = .int .i64 n) (fun kk => b.length + 1 - (intOf kk).toNat)
  case atStart => exact ⟨0, by omega, rfl⟩
  case round =>
    obtain ⟨n, hn, rfl⟩ := hrel
    obtain ⟨m, hm⟩ : ∃ m : Nat, m = n + 4 := ⟨_, rfl⟩
    have hmi : (n : Int) + 4 = (m : Int) := by omega
    have l1 : decide (m ≤ b.length) = true := decide_eq_true (by omega)
    have l2 : (m : Int) ≤ b.length := by omega
    have l3 : (n : Int) ≤ m := by omega
    have l4 : n ≤ m := by omega
    have l5 : m ≤ b.length := by omega
    have hpx := prefix_sub (t := crlf2) (l := b) (i := n) (by have e4 : crlf2.length = 4 := rfl; omega)
    rw [show n + crlf2.length = m from hm.symm] at hpx
    by_cases hlt : n < k
    · have hne : ¬ sub b n m = [13, 10, 13, 10] := fun e => HAT.out.2 n hlt (hpx.2 e)
      have t1 : (sub b n m != [13, 10, 13, 10]) = true := by simpa using hne
      have t2 : (sub b n m == [13, 10, 13, 10]) = false := by simpa using hne
      clear hne hm hpx
      go_wp2
      go_round
      case rel => exact ⟨n + 1, by omega, by go_num⟩
      case measure => simp [intOf]; omega
    · obtain rfl : n = k := by omega
      have heq : sub b n m = [13, 10, 13, 10] := hpx.1 HAT.out.1
      have t1 : (sub b n m != [13, 10, 13, 10]) = false := by rw [heq]; rfl
      have t2 : (sub b n m == [13, 10, 13, 10]) = true := by rw [heq]; rfl
      have f1 : decide ((b.length : Int) < (m : Int)) = false := decide_eq_false (by omega)
      have f2 : decide (b.length < m) = false := decide_eq_false (by omega)
      clear heq hpx hlt HAT
      have f3 : decide ((4096 : Int) < (m : Int)) = false := decide_eq_false (by omega)
      have f4 : decide (4096 < m) = false := decide_eq_false (by omega)
      clear hm
      go_wp2_with fail
      refine (S _).mono ?_
      rintro e w1 ⟨v, rfl, ⟨g, c, rfl, hR⟩, h1⟩
      have c0 := hR.2 0 f rfl
      have hz : g < w1.heap.size := hR.1
      go_wp2_with fail
      refine (RQ _).mono ?_
      rintro e w2 ⟨rfl, h2⟩
      have K : Pur w w2 := ((Pur.refl w).alloc _).trans (h1.trans (((Pur.refl w1).alloc _).trans h2))
      have hB0 := bk_pur (bk_new w _) (h1.trans (((Pur.refl w1).alloc _).trans h2))
      obtain ⟨p0, p1, p2, p3, p4, p5, p6, p7⟩ := blk4 hB0
      have hz0 := bk_lt hB0
      go_wp2
      refine bodyPost_ret (v := .tuple #[zeroM, .int .i64 220]) (by simp [results, Tryz.results23, go_sem, zeroM, set_rd, p0, p1, p2, p3]) rfl (rgive_err ?_)
      repeat (first | with_reducible exact K | refine Pur.setCell ?_ (Nat.le_refl _) _ | refine Pur.alloc ?_ _)
set_option maxRecDepth 100000 in
set_option maxHeartbeats 4000000 in
theorem rreadp_first (b : Bytes) (k : Nat) (w : World) (hs : b.length ≤ 10000000) (hi : idx crlf2 b = some k) (hk : k + 4 ≤ 4096)
    (hf0 : ∀ f r, pcs crlf (b.take k) = f :: r → (statusOf f).isSome = false) :
    Calls Tryz.prog 23 #[.string ⟨b.toArray⟩, .bool false] w fun e w' => RGives w (readMsg (fun s => (statusOf s).isSome) false b) e w' := by
  have HAT := Lib.hid (idx_at b k hi)
  have hkb : k + 4 ≤ b.length := by have := idx_bound hi; have e : crlf2.length = 4 := rfl; omega
  have hne := pcs_ne (by_ := crlf) (b.take k)
  have hpl := pcs_len crlf _ (b.take k) (Nat.le_refl _)
  have hpe := pcs_le crlf _ (b.take k) (Nat.le_refl _)
  have S := fun w => rsplit_any (b.take k) crlf w (by decide) (by rw [List.length_take]; omega) (by decide)
  rw [List.length_take] at hpl hpe
  obtain ⟨f, r, hp⟩ : ∃ f r, pcs crlf (b.take k) = f :: r := by
    cases e : pcs crlf (b.take k) with
    | nil => exact absurd e hne
    | cons x y => exact ⟨x, y, rfl⟩
  have hfl : f.length ≤ k := by have := hpe f (by rw [hp]; simp); omega
  have hrl : r.length ≤ k := by rw [hp, List.length_cons] at hpl; omega
  have hre : ∀ l ∈ r, l.length ≤ k := fun l hl => by have := hpe l (by rw [hp]; simp [hl]); omega
  have RQ := fun w => rreqline_any f w (by omega)
  have ST := fun w => rstatus_any f w (by omega)
  have STN := stn_neg f
  have hq3 : (rl f).2.2 = (reqLine f).isSome := by unfold rl; cases reqLine f <;> rfl
  rw [hq3] at RQ
  have RDF := rd_first (rt := (fun s => (statusOf s).isSome)) (ho := false) hi hk hp
  rw [hp] at S
  have hr := hf0 f r hp
  rw [RDF hr]
  rw [hr] at STN
  have esub : sub b 0 k = b.take k := by simp [sub]
  have k0 : (0 : Int) ≤ k := by omega
  have k1 : (k : Int) ≤ b.length := by omega
  clear hi hne hpl hpe hp RDF hq3 hf0 hr hre hrl
  generalize (rl f).1 = u1 at *
  generalize (rl f).2.1 = u2 at *
  generalize (reqLine f).isSome = b5 at *
  have s1 : decide (stn f < 0) = true := by rw [STN]; rfl
  clear STN
  go_enter Tryz.func23, Tryz.ntmps23
  go_wp2
  go_loop [6] (fun kk => ∃ n : Nat, n ≤ k ∧ kk = .int .i64 n) (fun kk => b.length + 1 - (intOf kk).toNat)
  case atStart => exact ⟨0, by omega, rfl⟩
  case round =>
    obtain ⟨n, hn, rfl⟩ := hrel
    obtain ⟨m, hm⟩ : ∃ m : Nat, m = n + 4 := ⟨_, rfl⟩
    have hmi : (n : Int) + 4 = (m : Int) := by omega
    have l1 : decide (m ≤ b.length) = true := decide_eq_true (by omega)
    have l2 : (m : Int) ≤ b.length := by omega
    have l3 : (n : Int) ≤ m := by omega
    have l4 : n ≤ m := by omega
    have l5 : m ≤ b.length := by omega
    have hpx := prefix_sub (t := crlf2) (l := b) (i := n) (by have e4 : crlf2.length = 4 := rfl; omega)
    rw [show n + crlf2.length = m from hm.symm] at hpx
    by_cases hlt : n < k
    · have hne : ¬ sub b n m = [13, 10, 13, 10] := fun e => HAT.out.2 n hlt (hpx.2 e)
      have t1 : (sub b n m != [13, 10, 13, 10]) = true := by simpa using hne
      have t2 : (sub b n m == [13, 10, 13, 10]) = false := by simpa using hne
      clear hne hm hpx
      go_wp2
      go_round
      case rel => exact ⟨n + 1, by omega, by go_num⟩
      case measure => simp [intOf]; omega
    · obtain rfl : n = k := by omega
      have heq : sub b n m = [13, 10, 13, 10] := hpx.1 HAT.out.1
      have t1 : (sub b n m != [13, 10, 13, 10]) = false := by rw [heq]; rfl
      have t2 : (sub b n m == [13, 10, 13, 10]) = true := by rw [heq]; rfl
      have f1 : decide ((b.length : Int) < (m : Int)) = false := decide_eq_false (by omega)
      have f2 : decide (b.length < m) = false := decide_eq_false (by omega)
      clear heq hpx hlt HAT
      have f3 : decide ((4096 : Int) < (m : Int)) = false := decide_eq_false (by omega)
      have f4 : decide (4096 < m) = false := decide_eq_false (by omega)
      clear hm
      go_wp2_with fail
      refine (S _).mono ?_
      rintro e w1 ⟨v, rfl, ⟨g, c, rfl, hR⟩, h1⟩
      have c0 := hR.2 0 f rfl
      have hz : g < w1.heap.size := hR.1
      go_wp2_with fail
      refine (RQ _).mono ?_
      rintro e w2 ⟨rfl, h2⟩
      have c02 := cell_pur c0 (((Pur.refl w1).alloc _).trans h2)
      go_wp2_with fail
      refine (ST _).mono ?_
      rintro e w3 ⟨rfl, rfl⟩
      have K : Pur w w2 := ((Pur.refl w).alloc _).trans (h1.trans (((Pur.refl w1).alloc _).trans h2))
      have hB0 := bk_pur (bk_new w _) (h1.trans (((Pur.refl w1).alloc _).trans h2))
      obtain ⟨p0, p1, p2, p3, p4, p5, p6, p7⟩ := blk4 hB0
      have hz0 := bk_lt hB0
      go_wp2
      refine bodyPost_ret (v := .tuple #[zeroM, .int .i64 220]) (by simp [results, Tryz.results23, go_sem, zeroM, set_rd, p0, p1, p2, p3]) rfl (rgive_err ?_)
      repeat (first | with_reducible exact K | refine Pur.setCell ?_ (Nat.le_refl _) _ | refine Pur.alloc ?_ _)
end Go.Proofs.YtlgdkaeiadhiaaaGreatDoor
