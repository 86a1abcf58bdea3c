/- The law FieldsWrites. -/
import Derived.Test.YthfoidodcfdpnaaDoorFld13
import Derived.Test.YthfoidodcfdpnaaDoorAppRead
namespace Go.Proofs.YthfoidodcfdpnaaDoor
open Go Go.RowKit
theorem fcells_len (gs : List Fld) : (fcells gs).length = gs.length * 2 := by
  induction gs with
  | nil => rfl
  | cons f gs ih => simp [fcells] at ih ⊢; omega
theorem fcells_get : ∀ (gs : List Fld) (j : Nat) (u : Value), (fcells gs)[j]? = some u → ∃ f, gs[j / 2]? = some f ∧ (j % 2 = 0 → u = .string ⟨f.1.toArray⟩) ∧ (j % 2 = 1 → u = .string ⟨f.2.toArray⟩)
  | [], j, u, h => by simp [fcells] at h
  | g :: gs, 0, u, h => ⟨g, rfl, fun _ => by simpa [fcells] using h.symm, fun h => by omega⟩
  | g :: gs, 1, u, h => ⟨g, rfl, fun h => by omega, fun _ => by simpa [fcells] using h.symm⟩
  | g :: gs, j + 2, u, h => by
    have h' : (fcells gs)[j]? = some u := by simpa [fcells] using h
    obtain ⟨f, h1, h2, h3⟩ := fcells_get gs j u h'
    exact ⟨f, by rw [show (j + 2) / 2 = j / 2 + 1 by omega]; simpa using h1, fun e => h2 (by omega), fun e => h3 (by omega)⟩
theorem add_at (b o j : Nat) : (Addr.mk b o none).add j = ⟨b, o + j, none⟩ := by
  unfold Addr.add; split <;> simp_all
theorem FRead.feeds {w : World} {A : Option Addr} {m c : Nat} {gs : List Fld} (h : FRead w (.slice A m c) gs) : Feeds w 2 A m (fcells gs) := by
  obtain ⟨rfl, hC⟩ := h.at
  refine ⟨fcells_len gs, fun hm => ?_⟩
  obtain ⟨f, hf⟩ : ∃ f, gs[0]? = some f := ⟨_, List.getElem?_eq_getElem hm⟩
  obtain ⟨b, o, rfl, _⟩ := hC 0 f hf
  refine ⟨_, rfl, fun j u hj => ?_⟩
  obtain ⟨g, h1, h2, h3⟩ := fcells_get gs j u hj
  obtain ⟨b', o', e, _, c1, c2⟩ := hC _ g h1
  cases e
  rw [add_at]
  rcases Nat.mod_two_eq_zero_or_one j with h | h
  · rw [h2 h]
    rwa [show o + j / 2 * 2 = o + j by omega] at c1
  · rw [h3 h]
    rwa [show o + j / 2 * 2 + 1 = o + j by omega] at c2
theorem fcells_one (gs : List Fld) : ∀ u ∈ fcells gs, u.oneCell' = true := by
  intro u hu
  obtain ⟨f, _, hf⟩ := List.mem_flatMap.1 hu
  simp at hf
  rcases hf with rfl | rfl <;> rfl
set_option maxRecDepth 100000 in
set_option maxHeartbeats 4000000 in
theorem writes_law (v : Value) (fs : List Fld) (w : World) (hM : MX w) (hR : FRead w v fs) (hs : fs.length ≤ 1048576) (hF : FSmall fs) :
    Calls Tryd.prog 4 #[v] w fun e w' => e = .returned (.bool true) ∧ Pur w w' := by
  obtain ⟨a, c, rfl, _⟩ := id hR
  have HC := Lib.hid hR.at.2
  have HF := Lib.hid hF
  have hR0 := hR
  clear hF
  have P1 := fun v w hR => write_any v fs w hR (by omega) HF.out
  have P2 := fun v w hR => rwrite_any v fs w hR (by omega) HF.out
  have P3 := fun v u w hR hQ => same_any v u fs fs w hR hQ (by omega) (by omega)
  rw [decide_eq_true (rfl : fs = fs)] at P3
  have hn : -1 < (write fs).2 ∧ (write fs).2 < 1000 := by
    unfold write
    split
    · simp
    · split <;> simp
  generalize write fs = r at *
  obtain ⟨t, n⟩ := r
  simp only at *
  obtain ⟨b1, b2⟩ := hn
  obtain ⟨i0, hi, hz⟩ := Option.map_eq_some_iff.1 fld_info
  simp only [Prod.mk.injEq] at hz
  obtain ⟨hz0, hz1, hz2⟩ := hz
  obtain ⟨z0, hz0, hzs⟩ := Option.map_eq_some_iff.1 hz0
  go_enter Tryd.func4, Tryd.ntmps4
  go_wp2_with fail
  refine (awake_any _ hM).mono ?_
  rintro e w1 ⟨rfl, hp1⟩
  go_wp2
  go_loopw [3, 4] (fun s k wr => ∃ (n : Nat) (m : Int), n ≤ fs.length ∧ n ≤ 40 ∧ k = .int .i64 n ∧ s = .int .i64 m ∧ 0 ≤ m ∧ m ≤ 10000 * n ∧ Pur w wr) (fun _ k _ => 41 - (intOf k).toNat)
  case atStart => exact ⟨0, 0, by omega, by omega, rfl, rfl, by omega, by omega, hp1⟩
  case round =>
    obtain ⟨n, m, hn, hn4, rfl, rfl, hm0, hm1, hpr⟩ := hrel
    by_cases hlt : n < fs.length ∧ n < 40
    · obtain ⟨hlt, hlt4⟩ := hlt
      have hlt' : (n : Int) < fs.length := by omega
      have hlt4' : (n : Int) < 40 := by omega
      obtain ⟨f, hf⟩ : ∃ f, fs[n]? = some f := ⟨_, List.getElem?_eq_getElem hlt⟩
      obtain ⟨b, o, rfl, hb, c1, c2⟩ := HC.out n f hf
      have k1 : ∀ x : PW wr, x.to.cell? ⟨b, o + n * 2, none⟩ = some (.string ⟨f.1.toArray⟩) := fun x => ((hpr.trans x.pur).cell (p := ⟨b, o + n * 2, none⟩) hb).trans c1
      have k2 : ∀ x : PW wr, x.to.cell? ⟨b, o + n * 2 + 1, none⟩ = some (.string ⟨f.2.toArray⟩) := fun x => ((hpr.trans x.pur).cell (p := ⟨b, o + n * 2 + 1, none⟩) hb).trans c2
      have hz : (0 : Int) ≤ n := by omega
      have w1 : IntKind.i64.wrap (min 5000 (f.1.length : Int) + min 5000 (f.2.length : Int)) = min 5000 (f.1.length : Int) + min 5000 (f.2.length : Int) := IntWalk.i64_in _ (by omega)
      have w2 : IntKind.i64.wrap (m + (min 5000 (f.1.length : Int) + min 5000 (f.2.length : Int))) = m + (min 5000 (f.1.length : Int) + min 5000 (f.2.length : Int)) := IntWalk.i64_in _ (by omega)
      clear hf c1 c2 hR hR0
      go_wp2
      refine wp_region_pur (by kernel_rfl) (by kernel_rfl) ?_
      repeat (quiet_step (fail))
      refine wpQuiet_nil ?_
      intro wq hq
      go_wp2
      go_roundw
      case rel => exact ⟨n + 1, _, by omega, by omega, by go_num, rfl, by omega, by omega, hpr.trans hq⟩
      case measure => simp [intOf]; omega
    · have HRr := Lib.hid (hR0.pur hpr)
      have hM' := hM.pur hpr
      clear HC hR hR0
      by_cases hbig : 20000 < m
      · rcases (show fs.length ≤ n ∨ (n < fs.length ∧ 40 ≤ n) by omega) with h | ⟨h, h'⟩
        all_goals
          go_wp2
          go_ret
          exact ⟨rfl, hpr⟩
      · by_cases h100 : 100 < fs.length
        · rcases (show fs.length ≤ n ∨ (n < fs.length ∧ 40 ≤ n) by omega) with h | ⟨h, h'⟩
          · omega
          · have d1 : decide ((100 : Int) < fs.length) = true := decide_eq_true (by omega)
            go_wp2
            go_ret
            exact ⟨rfl, hpr⟩
        · have d1 : decide ((100 : Int) < fs.length) = false := decide_eq_false (by omega)
          have hown0 : (wr.alloc (.cells #[] 34)).ownsRow wr.heap.size 34 2 (.slice (some ⟨wr.heap.size, 0, none⟩) 0 0) 0 [] :=
            ⟨rfl, .inr ⟨wr.heap.size, 0, #[], rfl, Nat.le_refl _, Array.getElem?_push_size, Nat.le_refl _, Nat.zero_le _, rfl, rfl⟩⟩
          have HO := Lib.hid hown0
          clear hown0
          have F0 := (HRr.out.pur ((Pur.refl wr).alloc (.cells #[] 34))).feeds
          rcases (show fs.length ≤ n ∨ (n < fs.length ∧ 40 ≤ n) by omega) with h | ⟨h, h'⟩
          all_goals
            have HFe := Lib.hid F0
            clear F0
            go_wp2_with (at_builtin; refine wpList_append_feeds rfl _ _ 23 rfl wr.heap.size 34 i0 z0 2 32 Tryd.underlying23 hi hz0 hz1 hz2 hzs (by decide) _ 0 [] rfl HO.out _ _ _ (fcells fs) rfl HFe.out (fcells_one fs) ?c3 ?c4 ?c5 ?_)
            case c3 => unfold maxLen; omega
            case c4 => omega
            intro v5 w5 hown5 hgrow
            have hp5 : Pur wr w5 := ((Pur.refl wr).alloc _).grown hgrow (by simp) (fun k hk => by cases hk; exact Nat.le_refl _)
            have hr5 := FRead.of_own hown5
            obtain ⟨a5, c5, rfl, _⟩ := id hr5
            clear hown5 hgrow
            go_wp2_with fail
            refine (P1 _ _ hr5).mono ?_
            rintro e w6 ⟨rfl, hp6⟩
            go_wp2_with fail
            refine (P2 _ _ (HRr.out.pur (hp5.trans hp6))).mono ?_
            rintro e w7 ⟨rfl, hp7⟩
            go_wp2_with fail
            refine (P3 _ _ _ (hr5.pur (hp6.trans hp7)) (HRr.out.pur ((hp5.trans hp6).trans hp7))).mono ?_
            rintro e w8 ⟨rfl, hp8⟩
            go_wp2
            go_ret
            exact ⟨by simp, (((hpr.trans hp5).trans hp6).trans hp7).trans hp8⟩
end Go.Proofs.YthfoidodcfdpnaaDoor
