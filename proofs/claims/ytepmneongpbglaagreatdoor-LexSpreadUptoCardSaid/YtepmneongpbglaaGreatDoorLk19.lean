/- Layer 5: a blank ahead moves all lexemes by one. -/
import Derived.Test.YtepmneongpbglaaGreatDoorNmZ
import Derived.Test.YtepmneongpbglaaGreatDoorLk15
import Derived.Test.YtepmneongpbglaaGreatDoorLxP
namespace Go.Proofs.YtepmneongpbglaaGreatDoor
open Go Go.RowKit
set_option linter.all false
namespace Lx
/-- what is asked of the world -/
structure LA (Hi Lo T : Nat → Nat) (w : World) : Prop where
  lw : LW w
  nw : Nm.NW Hi Lo T w
  fin : ∀ k, k < 23 → Fl.Fin (T k)
theorem LA.pur {Hi Lo T : Nat → Nat} {w w' : World} (h : LA Hi Lo T w) (hp : Pur w w') : LA Hi Lo T w' := ⟨h.lw.pur hp, h.nw.pur hp, h.fin⟩
theorem LA.f {Hi Lo T : Nat → Nat} {w : World} (h : LA Hi Lo T w) : Rf.F64 w := h.nw.fw.f
theorem LA.nc {Hi Lo T : Nat → Nat} {w : World} (h : LA Hi Lo T w) : NC w (fun t x => x = Nm.nv Hi Lo T t) Nm.CN := Nm.nc_all h.fin h.nw
/-- Lex at every script of a right length -/
theorem lex_all {Hi Lo T : Nat → Nat} (l : List UInt8) {w : World} (h : LA Hi Lo T w) (hl : l.length ≤ 8192) :
    Calls Tryz.prog 14 #[.string ⟨l.toArray⟩] w fun e w' => LexPost (fun t x => x = Nm.nv Hi Lo T t) w (lex Nm.CN l) e w' := lex_any l w h.lw h.nc hl (Nm.lex_ne (by omega))
theorem flat5 {α β : Type} (f : α → List β) (h : ∀ a, (f a).length = 5) : ∀ (zs : List α) (i j : Nat) (z : α), zs[i]? = some z → j < 5 → (zs.flatMap f)[i * 5 + j]? = (f z)[j]?
  | [], i, j, z, hz, _ => by simp at hz
  | a :: r, 0, j, z, hz, hj => by
    simp only [List.getElem?_cons_zero, Option.some.injEq] at hz
    subst hz
    rw [List.flatMap_cons, Nat.zero_mul, Nat.zero_add, List.getElem?_append_left (by rw [h]; exact hj)]
  | a :: r, i + 1, j, z, hz, hj => by
    rw [List.getElem?_cons_succ] at hz
    rw [List.flatMap_cons, List.getElem?_append_right (by rw [h]; omega), h, show (i + 1) * 5 + j - 5 = i * 5 + j by omega]
    exact flat5 f h r i j z hz hj
theorem row_len (zs : List (Lx × Nat)) : (rowOf zs).length = zs.length * 5 := by
  induction zs with
  | nil => rfl
  | cons z r ih =>
    unfold rowOf at ih ⊢
    rw [List.flatMap_cons, List.length_append, ih, List.length_cons]
    simp [Lx.cells]; omega
/-- a row of lexemes: its slice, and the cells of each -/
theorem lexRow {w : World} {base : Nat} {v : Value} {zs : List (Lx × Nat)} (h : w.ownsRow base 31 5 v zs.length (rowOf zs)) :
    ∃ (a : Option Addr) (c : Nat), v = .slice a zs.length c ∧ ∀ (i : Nat) (z : Lx × Nat), zs[i]? = some z → ∃ g, a = some ⟨g, 0, none⟩ ∧ base ≤ g ∧ g < w.heap.size ∧
      w.cell? ⟨g, i * 5, none⟩ = some (.int .i64 (z.1.kind : Int)) ∧ w.cell? ⟨g, i * 5 + 1, none⟩ = some (.string ⟨z.1.text.toArray⟩) ∧ w.cell? ⟨g, i * 5 + 2, none⟩ = some (.float .f64 z.2) ∧
      w.cell? ⟨g, i * 5 + 3, none⟩ = some (.int .i64 (z.1.at_ : Int)) ∧ w.cell? ⟨g, i * 5 + 4, none⟩ = some (.bool z.1.line) := by
  cases zs with
  | nil =>
    obtain ⟨a, c, hv⟩ := row_shape h
    exact ⟨a, c, hv, fun i z hz => by simp at hz⟩
  | cons z0 r =>
    obtain ⟨g, cap, hv, hg0, hg1⟩ := h.form (by simp)
    refine ⟨_, _, hv, fun i z hz => ⟨g, rfl, hg0, hg1, ?_⟩⟩
    subst hv
    have cl : ∀ j u, (rowOf (z0 :: r))[j]? = some u → w.cell? ⟨g, j, none⟩ = some u := by
      intro j u hu
      have hj := (List.getElem?_eq_some_iff.1 hu).1
      rw [h.cellAt j (by rw [row_len] at hj; exact hj)]
      exact hu
    have fl : ∀ j, j < 5 → (rowOf (z0 :: r))[i * 5 + j]? = (z.1.cells z.2)[j]? := fun j hj => flat5 (fun z : Lx × Nat => z.1.cells z.2) (fun _ => rfl) _ i j z hz hj
    exact ⟨cl _ _ (fl 0 (by decide)), cl _ _ (fl 1 (by decide)), cl _ _ (fl 2 (by decide)), cl _ _ (fl 3 (by decide)), cl _ _ (fl 4 (by decide))⟩
theorem lineGo_err (l : List UInt8) : ∀ (f i k : Nat), lineGo l f i = .error k → k ≤ l.length
  | 0, i, k, h => by rw [lineGo] at h; cases h
  | f + 1, i, k, h => by
    rw [lineGo] at h
    split at h
    · split at h
      · cases h; omega
      · split at h
        · cases h
        · exact lineGo_err l f _ k h
    · cases h
theorem skipGo_err (l : List UInt8) : ∀ (f i k : Nat) (a : Bool), skipGo l f i a = .error k → k ≤ l.length
  | 0, i, k, a, h => by rw [skipGo] at h; cases h
  | f + 1, i, k, a, h => by
    rw [skipGo] at h
    split at h
    · split at h
      · cases h; omega
      · split at h
        · exact skipGo_err l f _ k _ h
        · split at h
          · exact skipGo_err l f _ k _ h
          · split at h
            · split at h
              · rename_i hl; cases h; exact lineGo_err l _ _ _ hl
              · exact skipGo_err l f _ k _ h
            · split at h
              · split at h
                · cases h; omega
                · split at h
                  · cases h; omega
                  · exact skipGo_err l f _ k _ h
              · cases h
    · cases h
theorem lexGo_err (C : List UInt8 → Bool) (l : List UInt8) : ∀ (f i k : Nat), lexGo C l f i = some (.error k) → i ≤ l.length → k ≤ l.length
  | 0, i, k, h, _ => by rw [lexGo] at h; cases h
  | f + 1, i, k, h, hi => by
    rw [lexGo] at h
    split at h
    · rename_i k' hs
      cases h
      exact skipGo_err l _ _ _ _ hs
    · rename_i j ln hs
      have hj := skipGo_le l _ i j false ln (by unfold skip at hs; exact hs) hi
      split at h
      · cases h
      · rename_i hne
        split at h
        · cases h
        · cases h; omega
        · rename_i x k' ho
          have ok := one_ok ho (by omega)
          obtain ⟨r, h1, h2⟩ := Option.map_eq_some_iff.1 h
          cases r with
          | ok ys => cases h2
          | error k2 =>
            cases h2
            exact lexGo_err C l f k' k h1 ok.2.2.1
theorem cov_at {l : List UInt8} : ∀ {xs : List Lx} {lo : Nat}, Cov l lo xs → ∀ x ∈ xs, x.at_ < l.length
  | [], _, _, x, hx => by cases hx
  | y :: r, lo, h, x, hx => by
    rcases List.mem_cons.1 hx with e | e
    · rw [e]; exact h.2.1
    · exact cov_at h.2.2.2 x e
theorem cov_len {l : List UInt8} : ∀ {xs : List Lx} {lo : Nat}, Cov l lo xs → xs.length + min lo l.length ≤ l.length
  | [], lo, _ => by simp; omega
  | y :: r, lo, h => by
    have h1 := cov_len h.2.2.2
    have h2 := h.1
    have h3 := h.2.1
    simp only [List.length_cons]
    omega
set_option maxRecDepth 100000 in
set_option maxHeartbeats 16000000 in
theorem moves_law {Hi Lo T : Nat → Nat} (s : List UInt8) (w : World) (hW : LA Hi Lo T w) (hs : s.length ≤ 1000000000) : Calls Tryz.prog 6 #[.string ⟨s.toArray⟩] w fun e w' => e = .returned (.bool true) ∧ Pur w w' := by
  have AW := awake_any w hW.lw hW.f
  by_cases hbig : 8000 < s.length
  · have t2 : decide ((8000 : Int) < (s.length : Int)) = true := by rw [decide_eq_true_eq]; omega
    clear hbig hW
    go_enter Tryz.func6, Tryz.ntmps6
    go_wp2_with fail
    refine AW.mono ?_
    rintro e w1 ⟨rfl, p1⟩
    go_wp2
    go_ret
    exact ⟨rfl, p1⟩
  · have t2 : decide ((8000 : Int) < (s.length : Int)) = false := by rw [decide_eq_false_iff_not]; omega
    have LA1 := fun (w' : World) (h : Pur w w') => lex_all s (hW.pur h) (by omega)
    have LB1 := fun (w' : World) (h : Pur w w') => lex_all (32 :: s) (hW.pur h) (by rw [List.length_cons]; omega)
    have z1 : ¬ 9223372036854775807 < s.length + 1 := by omega
    have z2 : ¬ 9223372036854775807 < 1 + s.length := by omega
    rw [lex_sh] at LB1
    have hne := Nm.lex_ne (l := s) (by omega)
    have hke : ∀ k, lex Nm.CN s = some (.error k) → k ≤ s.length := fun k h => lexGo_err _ _ _ _ _ h (Nat.zero_le _)
    have hcv0 : ∀ xs, lex Nm.CN s = some (.ok xs) → Cov s 0 xs := fun xs h => lexGo_cov _ _ _ _ _ h (Nat.zero_le _)
    have hsl : s.length ≤ 8000 := by omega
    clear hbig hW hs
    rcases hlx : lex Nm.CN s with _ | r
    · exact absurd hlx hne
    rw [hlx] at LA1 LB1 hke hcv0
    rw [Option.map_some] at LB1
    clear hne hlx
    rcases r with k | xs
    · have hk := hke k rfl
      clear hke hcv0
      unfold shR LexPost at LB1
      unfold LexPost at LA1
      simp only at LA1 LB1
      have e1 : ((k + 1 : Nat) : Int) = (k : Int) + 1 := by omega
      rw [e1] at LB1
      have wk : IntKind.i64.wrap ((k : Int) + 1) = (k : Int) + 1 := IntWalk.i64_in _ (by omega)
      clear e1 hk
      go_enter Tryz.func6, Tryz.ntmps6
      go_wp2_with fail
      refine AW.mono ?_
      rintro e w1 ⟨rfl, p1⟩
      go_wp2_with fail
      refine (LA1 w1 p1).mono ?_
      rintro e w2 ⟨p2, rfl⟩
      go_wp2_with fail
      refine (LB1 w2 (p1.trans p2)).mono ?_
      rintro e w3 ⟨p3, rfl⟩
      clear AW LA1 LB1
      go_wp2
      go_loopw [50] (fun i wr => i = .int .i64 0 ∧ wr = w3) (fun _ _ => 0)
      case atStart => exact ⟨rfl, (by first | rfl | trivial)⟩
      case round =>
        obtain ⟨rfl, rfl⟩ := hrel
        go_wp2
        go_ret
        exact ⟨rfl, (p1.trans p2).trans p3⟩
    · have hcov := hcv0 xs rfl
      clear hke hcv0
      have hcv := cov_at hcov
      have hcl := cov_len hcov
      unfold shR LexPost at LB1
      unfold LexPost at LA1
      simp only at LA1 LB1
      go_enter Tryz.func6, Tryz.ntmps6
      go_wp2_with fail
      refine AW.mono ?_
      rintro e w1 ⟨rfl, p1⟩
      go_wp2_with fail
      refine (LA1 w1 p1).mono ?_
      rintro e w2 ⟨p2, v, zs, hz, -, rfl, hown⟩
      obtain ⟨a, c, rfl, hrow⟩ := lexRow hown
      go_wp2_with fail
      refine (LB1 w2 (p1.trans p2)).mono ?_
      rintro e w3 ⟨p3, v2, ys, hy, -, rfl, hown2⟩
      obtain ⟨a2, c2, rfl, hrow2⟩ := lexRow hown2
      have hl1 : ys.length = zs.length := by
        have h1 := congrArg List.length hz
        have h2 := congrArg List.length hy
        simp only [List.length_map] at h1 h2
        omega
      have hyz : ∀ (i : Nat) (z : Lx × Nat), zs[i]? = some z → ∃ y : Lx × Nat, ys[i]? = some y ∧ y.1 = z.1.sh ∧ z.1.at_ < s.length := fun i z hzi => by
        have h1 : xs[i]? = some z.1 := by rw [← hz, List.getElem?_map, hzi]; rfl
        have h2 : (xs.map Lx.sh)[i]? = some z.1.sh := by rw [List.getElem?_map, h1]; rfl
        rw [← hy, List.getElem?_map] at h2
        obtain ⟨y, y1, y2⟩ := Option.map_eq_some_iff.1 h2
        exact ⟨y, y1, y2, hcv _ (List.mem_of_getElem? h1)⟩
      rw [hl1]
      have HZL := Lib.hid hl1
      obtain ⟨n, hn⟩ : ∃ n, zs.length = n := ⟨_, rfl⟩
      rw [hn]
      have hnl : n ≤ 8000 := by
        have := congrArg List.length hz
        rw [List.length_map] at this
        omega
      have HR : ∀ i : Nat, i < n → ∃ (g g2 kd at0 : Nat) (tx : List UInt8), a = some ⟨g, 0, none⟩ ∧ a2 = some ⟨g2, 0, none⟩ ∧ at0 < s.length ∧
          w3.cell? ⟨g, i * 5, none⟩ = some (.int .i64 (kd : Int)) ∧ w3.cell? ⟨g, i * 5 + 1, none⟩ = some (.string ⟨tx.toArray⟩) ∧ w3.cell? ⟨g, i * 5 + 3, none⟩ = some (.int .i64 (at0 : Int)) ∧
          w3.cell? ⟨g2, i * 5, none⟩ = some (.int .i64 (kd : Int)) ∧ w3.cell? ⟨g2, i * 5 + 1, none⟩ = some (.string ⟨tx.toArray⟩) ∧ w3.cell? ⟨g2, i * 5 + 3, none⟩ = some (.int .i64 ((at0 : Int) + 1)) := fun i hi => by
        obtain ⟨z, hzi⟩ : ∃ z, zs[i]? = some z := ⟨_, List.getElem?_eq_getElem (by omega)⟩
        obtain ⟨y, hyi, hys, hat⟩ := hyz i z hzi
        obtain ⟨g, r1, -, -, r2, r3, -, r4, -⟩ := hrow i z hzi
        obtain ⟨g2, q1, -, -, q2, q3, -, q4, -⟩ := hrow2 i y hyi
        rw [hys] at q2 q3 q4
        refine ⟨g, g2, z.1.kind, z.1.at_, z.1.text, r1, q1, hat, Us.cellp r2 p3, Us.cellp r3 p3, Us.cellp r4 p3, q2, q3, ?_⟩
        rw [q4]
        show some (Value.int .i64 ((z.1.at_ + 1 : Nat) : Int)) = _
        rw [Int.natCast_add]; rfl
      have PP := (p1.trans p2).trans p3
      clear AW LA1 LB1 hown hown2 hrow hrow2 hyz hcv hz hy hcov p1 p2 p3 HZL hn hl1
      go_wp2
      go_loopw [50] (fun i wr => ∃ j : Nat, i = .int .i64 (j : Int) ∧ j ≤ n ∧ Pur w3 wr) (fun i _ => n + 1 - (intOf i).toNat)
      case atStart => exact ⟨0, rfl, Nat.zero_le _, Pur.refl _⟩
      case round =>
        obtain ⟨j, rfl, hj, hp⟩ := hrel
        by_cases hlt : j < n
        · obtain ⟨g, g2, kd, at0, tx, rfl, rfl, h0, r1, r2, r3, q1, q2, q3⟩ := HR j hlt
          have hlt' : (j : Int) < (n : Int) := by omega
          have j0 : (0 : Int) ≤ (j : Int) := by omega
          have wj : IntKind.i64.wrap ((j : Int) + 1) = (j : Int) + 1 := IntWalk.i64_in _ (by omega)
          have wa : IntKind.i64.wrap ((at0 : Int) + 1) = (at0 : Int) + 1 := IntWalk.i64_in _ (by omega)
          have r1' := fun x : PW wr => Us.cellp r1 (hp.trans x.pur)
          have r2' := fun x : PW wr => Us.cellp r2 (hp.trans x.pur)
          have r3' := fun x : PW wr => Us.cellp r3 (hp.trans x.pur)
          have q1' := fun x : PW wr => Us.cellp q1 (hp.trans x.pur)
          have q2' := fun x : PW wr => Us.cellp q2 (hp.trans x.pur)
          have q3' := fun x : PW wr => Us.cellp q3 (hp.trans x.pur)
          clear HR r1 r2 r3 q1 q2 q3 h0 hj
          go_wp2
          refine wp_region_pur (by kernel_rfl) (by kernel_rfl) ?_
          repeat (go_big_quiet_step (fail))
          refine wpQuiet_nil ?_
          intro wq hq
          go_wp2
          go_roundw
          case rel => exact ⟨j + 1, by go_num, by omega, hp.trans hq⟩
          case measure => simp [intOf]; omega
        · have hlt' : ¬ (j : Int) < (n : Int) := by omega
          clear HR
          go_wp2
          go_ret
          exact ⟨rfl, PP.trans hp⟩
end Lx
end Go.Proofs.YtepmneongpbglaaGreatDoor
