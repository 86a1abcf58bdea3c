/- The document's answer for a web target. -/
import Derived.Test.YtjbfkalkcopapaaDoorRt11
import Derived.Test.YtjbfkalkcopapaaDoorRt5
import Derived.Test.YtjbfkalkcopapaaDoorRtPure4
namespace Go.Proofs.YtjbfkalkcopapaaDoor
open Go Go.RowKit
set_option linter.all false
theorem goB_iff (c : UInt8) : goB c = true ↔ c.toNat ≠ 47 ∧ c.toNat ≠ 58 := by
  simp only [goB, Bool.and_eq_true, bne_iff_ne, ne_eq]
  rw [← UInt8.toNat_inj, ← UInt8.toNat_inj]
  rfl
theorem digB_iff (c : UInt8) : digB c = true ↔ 48 ≤ c.toNat ∧ c.toNat ≤ 57 := by simp [digB]
theorem dsat_next {t : Bytes} {F n : Nat} (hF : F ≤ n) (hn : n < t.length) (hd : 48 ≤ by8 t n) : ((dsat (sub t F (n + 1)) : Nat) : Int) = min (((dsat (sub t F n) : Nat) : Int) * 10 + (((by8 t n : Nat) : Int) - 48)) 100000 := by
  have e : sub t F (n + 1) = sub t F n ++ [t.getD n 0] := by
    unfold sub
    rw [show n + 1 - F = (n - F) + 1 by omega, List.take_succ_eq_append_getElem (by rw [List.length_drop]; omega)]
    congr 2
    rw [List.getElem_drop]
    simp [List.getD_eq_getElem?_getD, show F + (n - F) = n by omega, hn]
  have h48 : 48 ≤ (t.getD n 0).toNat := hd
  have e2 : by8 t n = (t.getD n 0).toNat := rfl
  rw [e, dsat_snoc, e2]
  omega
theorem dsat_start (t : Bytes) (F : Nat) : dsat (sub t F F) = 0 := by
  have : sub t F F = [] := by rw [← List.length_eq_zero_iff, length_sub]; omega
  rw [this]; rfl
theorem fin6_ok {h p : Bytes} {v : Int} {o : Option Adr} (he : o = fin6 h v p) (hp : p.head? = some 47) (ha : p.all (fun c => pathB c.toNat) = true) : o = if okHost h = true then some ⟨6, [], h, v, p⟩ else none := by
  rw [he, fin6]
  have : okPath p = true := by unfold okPath; rw [ha, hp]; simp
  rw [this]
  simp
theorem fin6_no {h p : Bytes} {v : Int} {o : Option Adr} (he : o = fin6 h v p) (ha : p.all (fun c => pathB c.toNat) = false) : o = none := by
  rw [he, fin6]
  have : okPath p = false := by unfold okPath; rw [ha]; rfl
  rw [this]
  simp
theorem sub_head {t : Bytes} {n : Nat} (h : n < t.length) (h47 : by8 t n = 47) : (sub t n t.length).head? = some 47 := by
  rw [sub_to_end, head_drop8 h, (by8_eq (c := 47)).2 h47]
/-- the facts on a byte, decided -/
theorem path_tests (p : Bytes) (n : Nat) : ∃ b1 b2 b3 : Bool, decide ((by8 p n : Int) < 33) = b1 ∧ decide (126 < (by8 p n : Int)) = b2 ∧ ((by8 p n : Int) == 35) = b3 ∧ pathB (by8 p n) = (!b1 && !b2 && !b3) := by
  refine ⟨_, _, _, rfl, rfl, rfl, ?_⟩
  rw [Bool.eq_iff_iff]
  simp [pathB]
  omega
set_option maxRecDepth 100000 in
set_option maxHeartbeats 1000000 in
theorem rurl_bare (t : Bytes) (o : Option Adr) (w : World) (hpre : headH <+: t) (hl : t.length ≤ 256) (N : Nat) (h7 : 7 ≤ N) (hN : N = t.length) (hg : ∀ j, 7 ≤ j → j < N → goB (t.getD j 0) = true) (he : o = fin6 (sub t 7 N) 80 [47]) :
    Calls Tryd.prog 19 #[.string ⟨t.toArray⟩] w fun e w' => e = .returned (.tuple #[adrV (said190 o).1, .int .i64 (said190 o).2]) ∧ Pur w w' := by
  have hs : t.length ≤ 140737488351232 := by omega
  have B := fun w => begins_any t headH w hs
  rw [decide_eq_true hpre] at B
  have d1 : decide ((256 : Int) < t.length) = false := decide_eq_false (by omega)
  clear hpre
  subst hN
  have HG := Lib.hid hg
  have HE := Lib.hid he
  have HP := Lib.hid (show ([47] : Bytes).head? = some 47 from rfl)
  clear hg he
  go_enter Tryd.func19, Tryd.ntmps19
  go_wp2_with fail
  refine (B _).mono ?_
  rintro e w' ⟨rfl, rfl⟩
  go_wp2
  go_loop [4] (fun k => ∃ n : Nat, 7 ≤ n ∧ n ≤ t.length ∧ k = .int .i64 n) (fun k => t.length + 1 - (intOf k).toNat)
  case atStart => exact ⟨7, by omega, by omega, rfl⟩
  case round =>
    obtain ⟨n, hn7, hnN, rfl⟩ := hrel
    by_cases hlt : n < t.length
    · have hg := (goB_iff _).1 (HG.out n hn7 hlt)
      have e1 : (((by8 t n : Nat) : Int) != 47) = true := by simp only [bne_iff_ne, ne_eq]; unfold by8; omega
      have e2 : (((by8 t n : Nat) : Int) != 58) = true := by simp only [bne_iff_ne, ne_eq]; unfold by8; omega
      have lt1 : decide (n < t.length) = true := decide_eq_true (by omega)
      have lt2 : (n : Int) < t.length := by omega
      clear hg
      go_wp2
      go_round
      case rel => exact ⟨n + 1, by omega, by omega, by go_num⟩
      case measure => simp [intOf]; omega
    · obtain rfl : n = t.length := by omega
      clear hlt hnN HG
      have lt1 : decide (t.length < t.length) = false := decide_eq_false (by omega)
      have i7 : (7 : Int) ≤ t.length := by omega
      go_wp2
      go_loop [8] (fun k => ∃ n : Nat, n ≤ 1 ∧ k = .int .i64 n ∧ Hid (∀ j, j < n → pathB (List.getD ([47]) j (0 : UInt8)).toNat = true)) (fun k => 1 + 1 - (intOf k).toNat)
      case atStart => exact ⟨0, by omega, rfl, Lib.hid (fun j h => by omega)⟩
      case round =>
        obtain ⟨n, hn, rfl, H⟩ := hrel
        by_cases hlt : n < 1
        · have hlt' : (n : Int) < 1 := by omega
          have cb := by8_lt ([47]) n
          obtain ⟨b1, b2, b3, t1, t2, t3, ht⟩ := path_tests ([47]) n
          have HT := Lib.hid ht
          clear ht
          rcases b1 with _ | _ <;> rcases b2 with _ | _ <;> rcases b3 with _ | _
          all_goals
            go_wp2
            first
            | go_round
              case rel => exact ⟨n + 1, by omega, by go_num, Lib.hid (all_step (p := fun c => pathB c.toNat) (by omega) H.out (show pathB (by8 ([47]) n) = true by rw [HT.out]; rfl))⟩
              case measure => simp [intOf]; omega
            | rw [fin6_no HE.out (all_not (p := fun c => pathB c.toNat) (n := n) (by omega) (show pathB (by8 ([47]) n) = false by rw [HT.out]; rfl))]
              refine bodyPost_ret (v := .tuple #[adrV Adr.zero, .int .i64 190]) (by simp [results, Tryd.results19, go_sem, adrV, Adr.zero]) rfl ⟨rfl, ?_⟩
              repeat (first | with_reducible exact Pur.refl w | refine Pur.setCell ?_ (by simp) _ | refine Pur.alloc ?_ _)
        · obtain rfl : n = 1 := by omega
          have HA := Lib.hid (fin6_ok HE.out HP.out (all_of (p := fun c => pathB c.toNat) H.out))
          have RH := fun w => rhost_any (sub t 7 t.length) w (by first | omega | (rw [length_sub]; omega))
          rcases hbh : okHost (sub t 7 t.length) with _ | _ <;> rw [hbh] at RH
          all_goals
            have HA2 := Lib.hid (show o = _ by rw [HA.out, hbh])
            clear hbh HA
            go_wp2_with fail
            with_reducible refine (RH _).mono ?_
            rintro e w' ⟨rfl, rfl⟩
            go_wp2
            rw [HA2.out]
            first
            | refine bodyPost_ret (v := .tuple #[adrV Adr.zero, .int .i64 190]) (by simp [results, Tryd.results19, go_sem, adrV, Adr.zero]) rfl ⟨rfl, ?_⟩
            | refine bodyPost_ret (v := .tuple #[adrV ⟨6, [], sub t 7 t.length, 80, [47]⟩, .int .i64 0]) (by simp [results, Tryd.results19, go_sem, adrV, Adr.zero]) rfl ⟨rfl, ?_⟩
            repeat (first | with_reducible exact Pur.refl w | refine Pur.setCell ?_ (by simp) _ | refine Pur.alloc ?_ _)
set_option maxRecDepth 100000 in
set_option maxHeartbeats 1000000 in
theorem rurl_path (t : Bytes) (o : Option Adr) (w : World) (hpre : headH <+: t) (hl : t.length ≤ 256) (N : Nat) (h7 : 7 ≤ N) (hN : N < t.length) (hg : ∀ j, 7 ≤ j → j < N → goB (t.getD j 0) = true) (h47 : by8 t N = 47) (he : o = fin6 (sub t 7 N) 80 (sub t N t.length)) :
    Calls Tryd.prog 19 #[.string ⟨t.toArray⟩] w fun e w' => e = .returned (.tuple #[adrV (said190 o).1, .int .i64 (said190 o).2]) ∧ Pur w w' := by
  have hs : t.length ≤ 140737488351232 := by omega
  have B := fun w => begins_any t headH w hs
  rw [decide_eq_true hpre] at B
  have d1 : decide ((256 : Int) < t.length) = false := decide_eq_false (by omega)
  clear hpre
  have HG := Lib.hid hg
  obtain ⟨p, hp⟩ : ∃ p, sub t N t.length = p := ⟨_, rfl⟩
  have HE := Lib.hid (show o = fin6 (sub t 7 N) 80 p by rw [← hp]; exact he)
  have HP := Lib.hid (show p.head? = some 47 by rw [← hp]; exact sub_head hN h47)
  have pl : p.length ≤ 256 := by rw [← hp, length_sub]; omega
  clear hg he
  go_enter Tryd.func19, Tryd.ntmps19
  go_wp2_with fail
  refine (B _).mono ?_
  rintro e w' ⟨rfl, rfl⟩
  go_wp2
  go_loop [4] (fun k => ∃ n : Nat, 7 ≤ n ∧ n ≤ N ∧ k = .int .i64 n) (fun k => N + 1 - (intOf k).toNat)
  case atStart => exact ⟨7, by omega, by omega, rfl⟩
  case round =>
    obtain ⟨n, hn7, hnN, rfl⟩ := hrel
    by_cases hlt : n < N
    · have hg := (goB_iff _).1 (HG.out n hn7 hlt)
      have e1 : (((by8 t n : Nat) : Int) != 47) = true := by simp only [bne_iff_ne, ne_eq]; unfold by8; omega
      have e2 : (((by8 t n : Nat) : Int) != 58) = true := by simp only [bne_iff_ne, ne_eq]; unfold by8; omega
      have lt1 : decide (n < t.length) = true := decide_eq_true (by omega)
      have lt2 : (n : Int) < t.length := by omega
      clear hg
      go_wp2
      go_round
      case rel => exact ⟨n + 1, by omega, by omega, by go_num⟩
      case measure => simp [intOf]; omega
    · obtain rfl : n = N := by omega
      clear hlt hnN HG
      have lt1 : decide (n < t.length) = true := decide_eq_true (by omega)
      have lt2 : (n : Int) < t.length := by omega
      have i7 : (7 : Int) ≤ n := by omega
      have il : (n : Int) ≤ t.length := by omega
      go_wp2
      go_loop [8] (fun k => ∃ n : Nat, n ≤ p.length ∧ k = .int .i64 n ∧ Hid (∀ j, j < n → pathB (List.getD (p) j (0 : UInt8)).toNat = true)) (fun k => p.length + 1 - (intOf k).toNat)
      case atStart => exact ⟨0, by omega, rfl, Lib.hid (fun j h => by omega)⟩
      case round =>
        obtain ⟨n, hn, rfl, H⟩ := hrel
        by_cases hlt : n < p.length
        · have hlt' : (n : Int) < p.length := by omega
          have cb := by8_lt (p) n
          obtain ⟨b1, b2, b3, t1, t2, t3, ht⟩ := path_tests (p) n
          have HT := Lib.hid ht
          clear ht
          rcases b1 with _ | _ <;> rcases b2 with _ | _ <;> rcases b3 with _ | _
          all_goals
            go_wp2
            first
            | go_round
              case rel => exact ⟨n + 1, by omega, by go_num, Lib.hid (all_step (p := fun c => pathB c.toNat) (by omega) H.out (show pathB (by8 (p) n) = true by rw [HT.out]; rfl))⟩
              case measure => simp [intOf]; omega
            | rw [fin6_no HE.out (all_not (p := fun c => pathB c.toNat) (n := n) (by omega) (show pathB (by8 (p) n) = false by rw [HT.out]; rfl))]
              refine bodyPost_ret (v := .tuple #[adrV Adr.zero, .int .i64 190]) (by simp [results, Tryd.results19, go_sem, adrV, Adr.zero]) rfl ⟨rfl, ?_⟩
              repeat (first | with_reducible exact Pur.refl w | refine Pur.setCell ?_ (by simp) _ | refine Pur.alloc ?_ _)
        · obtain rfl : n = p.length := by omega
          have HA := Lib.hid (fin6_ok HE.out HP.out (all_of (p := fun c => pathB c.toNat) H.out))
          have RH := fun w => rhost_any (sub t 7 n) w (by first | omega | (rw [length_sub]; omega))
          rcases hbh : okHost (sub t 7 n) with _ | _ <;> rw [hbh] at RH
          all_goals
            have HA2 := Lib.hid (show o = _ by rw [HA.out, hbh])
            clear hbh HA
            go_wp2_with fail
            with_reducible refine (RH _).mono ?_
            rintro e w' ⟨rfl, rfl⟩
            go_wp2
            rw [HA2.out]
            first
            | refine bodyPost_ret (v := .tuple #[adrV Adr.zero, .int .i64 190]) (by simp [results, Tryd.results19, go_sem, adrV, Adr.zero]) rfl ⟨rfl, ?_⟩
            | refine bodyPost_ret (v := .tuple #[adrV ⟨6, [], sub t 7 n, 80, p⟩, .int .i64 0]) (by simp [results, Tryd.results19, go_sem, adrV, Adr.zero]) rfl ⟨rfl, ?_⟩
            repeat (first | with_reducible exact Pur.refl w | refine Pur.setCell ?_ (by simp) _ | refine Pur.alloc ?_ _)
set_option maxRecDepth 100000 in
set_option maxHeartbeats 1000000 in
theorem rurl_badport (t : Bytes) (o : Option Adr) (w : World) (hpre : headH <+: t) (hl : t.length ≤ 256) (N F M : Nat) (hF : F = N + 1) (h7 : 7 ≤ N) (hN : N < t.length) (hg : ∀ j, 7 ≤ j → j < N → goB (t.getD j 0) = true) (h58 : by8 t N = 58) (hM : F ≤ M) (hMl : M ≤ t.length) (hd : ∀ j, F ≤ j → j < M → digB (t.getD j 0) = true) (hz : M = t.length ∨ (M < t.length ∧ digB (t.getD M 0) = false)) (hb : M = F ∨ by8 t F = 48 ∨ 65535 < dval 0 (sub t F M)) (he : o = none) :
    Calls Tryd.prog 19 #[.string ⟨t.toArray⟩] w fun e w' => e = .returned (.tuple #[adrV (said190 o).1, .int .i64 (said190 o).2]) ∧ Pur w w' := by
  have hs : t.length ≤ 140737488351232 := by omega
  have B := fun w => begins_any t headH w hs
  rw [decide_eq_true hpre] at B
  have d1 : decide ((256 : Int) < t.length) = false := decide_eq_false (by omega)
  clear hpre
  have hF1 : F ≤ N + 1 := by omega
  have hF2 : N + 1 ≤ F := by omega
  clear hF
  have HG := Lib.hid hg
  have HD := Lib.hid hd
  subst he
  clear hg hd
  go_enter Tryd.func19, Tryd.ntmps19
  go_wp2_with fail
  refine (B _).mono ?_
  rintro e w' ⟨rfl, rfl⟩
  go_wp2
  go_loop [4] (fun k => ∃ n : Nat, 7 ≤ n ∧ n ≤ N ∧ k = .int .i64 n) (fun k => N + 1 - (intOf k).toNat)
  case atStart => exact ⟨7, by omega, by omega, rfl⟩
  case round =>
    obtain ⟨n, hn7, hnN, rfl⟩ := hrel
    by_cases hlt : n < N
    · have hg := (goB_iff _).1 (HG.out n hn7 hlt)
      have e1 : (((by8 t n : Nat) : Int) != 47) = true := by simp only [bne_iff_ne, ne_eq]; unfold by8; omega
      have e2 : (((by8 t n : Nat) : Int) != 58) = true := by simp only [bne_iff_ne, ne_eq]; unfold by8; omega
      have lt1 : decide (n < t.length) = true := decide_eq_true (by omega)
      have lt2 : (n : Int) < t.length := by omega
      clear hg
      go_wp2
      go_round
      case rel => exact ⟨n + 1, by omega, by omega, by go_num⟩
      case measure => simp [intOf]; omega
    · obtain rfl : n = N := by omega
      clear hlt hnN HG
      have lt1 : decide (n < t.length) = true := decide_eq_true (by omega)
      have lt2 : (n : Int) < t.length := by omega
      have i7 : (7 : Int) ≤ n := by omega
      have il : (n : Int) ≤ t.length := by omega
      have hFi : (n : Int) + 1 = F := by omega
      go_wp2
      go_loop [4, 7] (fun k a => ∃ m : Nat, F ≤ m ∧ m ≤ M ∧ k = .int .i64 m ∧ a = .int .i64 ((dsat (sub t F m) : Nat) : Int)) (fun k _ => M + 1 - (intOf k).toNat)
      case atStart => exact ⟨F, by omega, by omega, rfl, by rw [dsat_start]; rfl⟩
      case round =>
        obtain ⟨m, hm1, hm2, rfl, rfl⟩ := hrel
        have ds := dsat_le (sub t F m)
        by_cases hm : m < M
        · have hd1 := (digB_iff _).1 (HD.out m hm1 hm)
          have g1 : (48 : Int) ≤ by8 t m := by unfold by8; omega
          have g2 : (by8 t m : Int) ≤ 57 := by unfold by8; omega
          have q1 : decide (m < t.length) = true := decide_eq_true (by omega)
          have q2 : (m : Int) < t.length := by omega
          have HNX := Lib.hid (dsat_next (t := t) hm1 (by omega) hd1.1)
          clear hd1
          go_wp2
          go_round
          case rel => exact ⟨m + 1, by omega, by omega, by go_num, by rw [HNX.out]⟩
          case measure => simp [intOf]; omega
        · obtain rfl : m = M := by omega
          clear hm hm2 HD
          have ENDS : decide (m < t.length) = false ∨ (decide (m < t.length) = true ∧ (m : Int) < t.length ∧ decide ((48 : Int) ≤ (by8 t m : Nat)) = false) ∨ (decide (m < t.length) = true ∧ (m : Int) < t.length ∧ decide ((48 : Int) ≤ (by8 t m : Nat)) = true ∧ decide (((by8 t m : Nat) : Int) ≤ 57) = false) := by
            rcases hz with h | ⟨h1, h2⟩
            · exact .inl (decide_eq_false (by omega))
            · rw [Bool.eq_false_iff, ne_eq, digB_iff] at h2
              by_cases g : 48 ≤ (t.getD m 0).toNat
              · exact .inr (.inr ⟨decide_eq_true h1, by omega, decide_eq_true (by unfold by8; omega), decide_eq_false (by unfold by8; omega)⟩)
              · exact .inr (.inl ⟨decide_eq_true h1, by omega, decide_eq_false (by unfold by8; omega)⟩)
          have BAD : (((m : Nat) : Int) == F) = true ∨ ((((m : Nat) : Int) == F) = false ∧ (F : Int) < t.length ∧ (((by8 t F : Nat) : Int) == 48) = true) ∨ ((((m : Nat) : Int) == F) = false ∧ (F : Int) < t.length ∧ (((by8 t F : Nat) : Int) == 48) = false ∧ decide ((65535 : Int) < (dsat (sub t F m) : Nat)) = true) := by
            by_cases e : m = F
            · exact .inl (by simp [e])
            · have e1 : (((m : Nat) : Int) == F) = false := by simp only [beq_eq_false_iff_ne, ne_eq]; omega
              by_cases g : by8 t F = 48
              · exact .inr (.inl ⟨e1, by omega, by simp [g]⟩)
              · refine .inr (.inr ⟨e1, by omega, by simp only [beq_eq_false_iff_ne, ne_eq]; omega, decide_eq_true ?_⟩)
                rcases hb with h | h | h
                · exact absurd h e
                · exact absurd h g
                · have := dsat_lt (sub t F m)
                  omega
          clear hz hb
          rcases ENDS with k1 | ⟨k1, k2, k3⟩ | ⟨k1, k2, k3, k4⟩ <;> rcases BAD with l1 | ⟨l1, l2, l3⟩ | ⟨l1, l2, l3, l4⟩
          all_goals
            go_wp2
            refine bodyPost_ret (v := .tuple #[adrV Adr.zero, .int .i64 190]) (by simp [results, Tryd.results19, go_sem, adrV, Adr.zero]) rfl ⟨rfl, ?_⟩
            repeat (first | with_reducible exact Pur.refl w | refine Pur.setCell ?_ (by simp) _ | refine Pur.alloc ?_ _)
set_option maxRecDepth 100000 in
set_option maxHeartbeats 1000000 in
theorem rurl_portend (t : Bytes) (o : Option Adr) (w : World) (hpre : headH <+: t) (hl : t.length ≤ 256) (N F M : Nat) (hF : F = N + 1) (h7 : 7 ≤ N) (hN : N < t.length) (hg : ∀ j, 7 ≤ j → j < N → goB (t.getD j 0) = true) (h58 : by8 t N = 58) (hM : F < M) (hMl : M = t.length) (hd : ∀ j, F ≤ j → j < M → digB (t.getD j 0) = true) (h48 : by8 t F ≠ 48) (hv : dval 0 (sub t F M) ≤ 65535) (he : o = fin6 (sub t 7 N) (dval 0 (sub t F M)) [47]) :
    Calls Tryd.prog 19 #[.string ⟨t.toArray⟩] w fun e w' => e = .returned (.tuple #[adrV (said190 o).1, .int .i64 (said190 o).2]) ∧ Pur w w' := by
  have hs : t.length ≤ 140737488351232 := by omega
  have B := fun w => begins_any t headH w hs
  rw [decide_eq_true hpre] at B
  have d1 : decide ((256 : Int) < t.length) = false := decide_eq_false (by omega)
  clear hpre
  subst hMl
  have hF1 : F ≤ N + 1 := by omega
  have hF2 : N + 1 ≤ F := by omega
  clear hF
  have HG := Lib.hid hg
  have HD := Lib.hid hd
  have HE := Lib.hid (show o = fin6 (sub t 7 N) ((dsat (sub t F t.length) : Nat) : Int) [47] by rw [he, dsat_eq hv])
  have HP := Lib.hid (show ([47] : Bytes).head? = some 47 from rfl)
  clear hg hd he
  go_enter Tryd.func19, Tryd.ntmps19
  go_wp2_with fail
  refine (B _).mono ?_
  rintro e w' ⟨rfl, rfl⟩
  go_wp2
  go_loop [4] (fun k => ∃ n : Nat, 7 ≤ n ∧ n ≤ N ∧ k = .int .i64 n) (fun k => N + 1 - (intOf k).toNat)
  case atStart => exact ⟨7, by omega, by omega, rfl⟩
  case round =>
    obtain ⟨n, hn7, hnN, rfl⟩ := hrel
    by_cases hlt : n < N
    · have hg := (goB_iff _).1 (HG.out n hn7 hlt)
      have e1 : (((by8 t n : Nat) : Int) != 47) = true := by simp only [bne_iff_ne, ne_eq]; unfold by8; omega
      have e2 : (((by8 t n : Nat) : Int) != 58) = true := by simp only [bne_iff_ne, ne_eq]; unfold by8; omega
      have lt1 : decide (n < t.length) = true := decide_eq_true (by omega)
      have lt2 : (n : Int) < t.length := by omega
      clear hg
      go_wp2
      go_round
      case rel => exact ⟨n + 1, by omega, by omega, by go_num⟩
      case measure => simp [intOf]; omega
    · obtain rfl : n = N := by omega
      clear hlt hnN HG
      have lt1 : decide (n < t.length) = true := decide_eq_true (by omega)
      have lt2 : (n : Int) < t.length := by omega
      have i7 : (7 : Int) ≤ n := by omega
      have il : (n : Int) ≤ t.length := by omega
      have hFi : (n : Int) + 1 = F := by omega
      go_wp2
      go_loop [4, 7] (fun k a => ∃ m : Nat, F ≤ m ∧ m ≤ t.length ∧ k = .int .i64 m ∧ a = .int .i64 ((dsat (sub t F m) : Nat) : Int)) (fun k _ => t.length + 1 - (intOf k).toNat)
      case atStart => exact ⟨F, by omega, by omega, rfl, by rw [dsat_start]; rfl⟩
      case round =>
        obtain ⟨m, hm1, hm2, rfl, rfl⟩ := hrel
        have ds := dsat_le (sub t F m)
        by_cases hm : m < t.length
        · have hd1 := (digB_iff _).1 (HD.out m hm1 hm)
          have g1 : (48 : Int) ≤ by8 t m := by unfold by8; omega
          have g2 : (by8 t m : Int) ≤ 57 := by unfold by8; omega
          have q1 : decide (m < t.length) = true := decide_eq_true (by omega)
          have q2 : (m : Int) < t.length := by omega
          have HNX := Lib.hid (dsat_next (t := t) hm1 (by omega) hd1.1)
          clear hd1
          go_wp2
          go_round
          case rel => exact ⟨m + 1, by omega, by omega, by go_num, by rw [HNX.out]⟩
          case measure => simp [intOf]; omega
        · obtain rfl : m = t.length := by omega
          clear hm hm2 HD
          have l1 : (((t.length : Nat) : Int) == F) = false := by simp only [beq_eq_false_iff_ne, ne_eq]; omega
          have l2 : (F : Int) < t.length := by omega
          have l3 : (((by8 t F : Nat) : Int) == 48) = false := by simp only [beq_eq_false_iff_ne, ne_eq]; omega
          have l4 : decide ((65535 : Int) < (dsat (sub t F t.length) : Nat)) = false := by
            have := dsat_lt (sub t F t.length)
            exact decide_eq_false (by omega)
          have k1 : decide (t.length < t.length) = false := decide_eq_false (by omega)
          go_wp2
          go_loop [8] (fun k => ∃ n : Nat, n ≤ 1 ∧ k = .int .i64 n ∧ Hid (∀ j, j < n → pathB (List.getD ([47]) j (0 : UInt8)).toNat = true)) (fun k => 1 + 1 - (intOf k).toNat)
          case atStart => exact ⟨0, by omega, rfl, Lib.hid (fun j h => by omega)⟩
          case round =>
            obtain ⟨n, hn, rfl, H⟩ := hrel
            by_cases hlt : n < 1
            · have hlt' : (n : Int) < 1 := by omega
              have cb := by8_lt ([47]) n
              obtain ⟨b1, b2, b3, t1, t2, t3, ht⟩ := path_tests ([47]) n
              have HT := Lib.hid ht
              clear ht
              rcases b1 with _ | _ <;> rcases b2 with _ | _ <;> rcases b3 with _ | _
              all_goals
                go_wp2
                first
                | go_round
                  case rel => exact ⟨n + 1, by omega, by go_num, Lib.hid (all_step (p := fun c => pathB c.toNat) (by omega) H.out (show pathB (by8 ([47]) n) = true by rw [HT.out]; rfl))⟩
                  case measure => simp [intOf]; omega
                | rw [fin6_no HE.out (all_not (p := fun c => pathB c.toNat) (n := n) (by omega) (show pathB (by8 ([47]) n) = false by rw [HT.out]; rfl))]
                  refine bodyPost_ret (v := .tuple #[adrV Adr.zero, .int .i64 190]) (by simp [results, Tryd.results19, go_sem, adrV, Adr.zero]) rfl ⟨rfl, ?_⟩
                  repeat (first | with_reducible exact Pur.refl w | refine Pur.setCell ?_ (by simp) _ | refine Pur.alloc ?_ _)
            · obtain rfl : n = 1 := by omega
              have HA := Lib.hid (fin6_ok HE.out HP.out (all_of (p := fun c => pathB c.toNat) H.out))
              have RH := fun w => rhost_any (sub t 7 n) w (by first | omega | (rw [length_sub]; omega))
              rcases hbh : okHost (sub t 7 n) with _ | _ <;> rw [hbh] at RH
              all_goals
                have HA2 := Lib.hid (show o = _ by rw [HA.out, hbh])
                clear hbh HA
                go_wp2_with fail
                with_reducible refine (RH _).mono ?_
                rintro e w' ⟨rfl, rfl⟩
                go_wp2
                rw [HA2.out]
                first
                | refine bodyPost_ret (v := .tuple #[adrV Adr.zero, .int .i64 190]) (by simp [results, Tryd.results19, go_sem, adrV, Adr.zero]) rfl ⟨rfl, ?_⟩
                | refine bodyPost_ret (v := .tuple #[adrV ⟨6, [], sub t 7 n, ((dsat (sub t F t.length) : Nat) : Int), [47]⟩, .int .i64 0]) (by simp [results, Tryd.results19, go_sem, adrV, Adr.zero]) rfl ⟨rfl, ?_⟩
                repeat (first | with_reducible exact Pur.refl w | refine Pur.setCell ?_ (by simp) _ | refine Pur.alloc ?_ _)
set_option maxRecDepth 100000 in
set_option maxHeartbeats 1000000 in
theorem rurl_portpath (t : Bytes) (o : Option Adr) (w : World) (hpre : headH <+: t) (hl : t.length ≤ 256) (N F M : Nat) (hF : F = N + 1) (h7 : 7 ≤ N) (hN : N < t.length) (hg : ∀ j, 7 ≤ j → j < N → goB (t.getD j 0) = true) (h58 : by8 t N = 58) (hM : F < M) (hMl : M < t.length) (hd : ∀ j, F ≤ j → j < M → digB (t.getD j 0) = true) (h48 : by8 t F ≠ 48) (hv : dval 0 (sub t F M) ≤ 65535) (h47 : by8 t M = 47) (he : o = fin6 (sub t 7 N) (dval 0 (sub t F M)) (sub t M t.length)) :
    Calls Tryd.prog 19 #[.string ⟨t.toArray⟩] w fun e w' => e = .returned (.tuple #[adrV (said190 o).1, .int .i64 (said190 o).2]) ∧ Pur w w' := by
  have hs : t.length ≤ 140737488351232 := by omega
  have B := fun w => begins_any t headH w hs
  rw [decide_eq_true hpre] at B
  have d1 : decide ((256 : Int) < t.length) = false := decide_eq_false (by omega)
  clear hpre
  have hF1 : F ≤ N + 1 := by omega
  have hF2 : N + 1 ≤ F := by omega
  clear hF
  have HG := Lib.hid hg
  have HD := Lib.hid hd
  obtain ⟨p, hp⟩ : ∃ p, sub t M t.length = p := ⟨_, rfl⟩
  have HE := Lib.hid (show o = fin6 (sub t 7 N) ((dsat (sub t F M) : Nat) : Int) p by rw [he, dsat_eq hv, ← hp])
  have HP := Lib.hid (show p.head? = some 47 by rw [← hp]; exact sub_head hMl h47)
  have pl : p.length ≤ 256 := by rw [← hp, length_sub]; omega
  clear hg hd he
  go_enter Tryd.func19, Tryd.ntmps19
  go_wp2_with fail
  refine (B _).mono ?_
  rintro e w' ⟨rfl, rfl⟩
  go_wp2
  go_loop [4] (fun k => ∃ n : Nat, 7 ≤ n ∧ n ≤ N ∧ k = .int .i64 n) (fun k => N + 1 - (intOf k).toNat)
  case atStart => exact ⟨7, by omega, by omega, rfl⟩
  case round =>
    obtain ⟨n, hn7, hnN, rfl⟩ := hrel
    by_cases hlt : n < N
    · have hg := (goB_iff _).1 (HG.out n hn7 hlt)
      have e1 : (((by8 t n : Nat) : Int) != 47) = true := by simp only [bne_iff_ne, ne_eq]; unfold by8; omega
      have e2 : (((by8 t n : Nat) : Int) != 58) = true := by simp only [bne_iff_ne, ne_eq]; unfold by8; omega
      have lt1 : decide (n < t.length) = true := decide_eq_true (by omega)
      have lt2 : (n : Int) < t.length := by omega
      clear hg
      go_wp2
      go_round
      case rel => exact ⟨n + 1, by omega, by omega, by go_num⟩
      case measure => simp [intOf]; omega
    · obtain rfl : n = N := by omega
      clear hlt hnN HG
      have lt1 : decide (n < t.length) = true := decide_eq_true (by omega)
      have lt2 : (n : Int) < t.length := by omega
      have i7 : (7 : Int) ≤ n := by omega
      have il : (n : Int) ≤ t.length := by omega
      have hFi : (n : Int) + 1 = F := by omega
      go_wp2
      go_loop [4, 7] (fun k a => ∃ m : Nat, F ≤ m ∧ m ≤ M ∧ k = .int .i64 m ∧ a = .int .i64 ((dsat (sub t F m) : Nat) : Int)) (fun k _ => M + 1 - (intOf k).toNat)
      case atStart => exact ⟨F, by omega, by omega, rfl, by rw [dsat_start]; rfl⟩
      case round =>
        obtain ⟨m, hm1, hm2, rfl, rfl⟩ := hrel
        have ds := dsat_le (sub t F m)
        by_cases hm : m < M
        · have hd1 := (digB_iff _).1 (HD.out m hm1 hm)
          have g1 : (48 : Int) ≤ by8 t m := by unfold by8; omega
          have g2 : (by8 t m : Int) ≤ 57 := by unfold by8; omega
          have q1 : decide (m < t.length) = true := decide_eq_true (by omega)
          have q2 : (m : Int) < t.length := by omega
          have HNX := Lib.hid (dsat_next (t := t) hm1 (by omega) hd1.1)
          clear hd1
          go_wp2
          go_round
          case rel => exact ⟨m + 1, by omega, by omega, by go_num, by rw [HNX.out]⟩
          case measure => simp [intOf]; omega
        · obtain rfl : m = M := by omega
          clear hm hm2 HD
          have l1 : (((m : Nat) : Int) == F) = false := by simp only [beq_eq_false_iff_ne, ne_eq]; omega
          have l2 : (F : Int) < t.length := by omega
          have l3 : (((by8 t F : Nat) : Int) == 48) = false := by simp only [beq_eq_false_iff_ne, ne_eq]; omega
          have l4 : decide ((65535 : Int) < (dsat (sub t F m) : Nat)) = false := by
            have := dsat_lt (sub t F m)
            exact decide_eq_false (by omega)
          have k1 : decide (m < t.length) = true := decide_eq_true (by omega)
          have k2 : (m : Int) < t.length := by omega
          have k3 : (m : Int) ≤ t.length := by omega
          go_wp2
          go_loop [8] (fun k => ∃ n : Nat, n ≤ p.length ∧ k = .int .i64 n ∧ Hid (∀ j, j < n → pathB (List.getD (p) j (0 : UInt8)).toNat = true)) (fun k => p.length + 1 - (intOf k).toNat)
          case atStart => exact ⟨0, by omega, rfl, Lib.hid (fun j h => by omega)⟩
          case round =>
            obtain ⟨n, hn, rfl, H⟩ := hrel
            by_cases hlt : n < p.length
            · have hlt' : (n : Int) < p.length := by omega
              have cb := by8_lt (p) n
              obtain ⟨b1, b2, b3, t1, t2, t3, ht⟩ := path_tests (p) n
              have HT := Lib.hid ht
              clear ht
              rcases b1 with _ | _ <;> rcases b2 with _ | _ <;> rcases b3 with _ | _
              all_goals
                go_wp2
                first
                | go_round
                  case rel => exact ⟨n + 1, by omega, by go_num, Lib.hid (all_step (p := fun c => pathB c.toNat) (by omega) H.out (show pathB (by8 (p) n) = true by rw [HT.out]; rfl))⟩
                  case measure => simp [intOf]; omega
                | rw [fin6_no HE.out (all_not (p := fun c => pathB c.toNat) (n := n) (by omega) (show pathB (by8 (p) n) = false by rw [HT.out]; rfl))]
                  refine bodyPost_ret (v := .tuple #[adrV Adr.zero, .int .i64 190]) (by simp [results, Tryd.results19, go_sem, adrV, Adr.zero]) rfl ⟨rfl, ?_⟩
                  repeat (first | with_reducible exact Pur.refl w | refine Pur.setCell ?_ (by simp) _ | refine Pur.alloc ?_ _)
            · obtain rfl : n = p.length := by omega
              have HA := Lib.hid (fin6_ok HE.out HP.out (all_of (p := fun c => pathB c.toNat) H.out))
              have RH := fun w => rhost_any (sub t 7 n) w (by first | omega | (rw [length_sub]; omega))
              rcases hbh : okHost (sub t 7 n) with _ | _ <;> rw [hbh] at RH
              all_goals
                have HA2 := Lib.hid (show o = _ by rw [HA.out, hbh])
                clear hbh HA
                go_wp2_with fail
                with_reducible refine (RH _).mono ?_
                rintro e w' ⟨rfl, rfl⟩
                go_wp2
                rw [HA2.out]
                first
                | refine bodyPost_ret (v := .tuple #[adrV Adr.zero, .int .i64 190]) (by simp [results, Tryd.results19, go_sem, adrV, Adr.zero]) rfl ⟨rfl, ?_⟩
                | refine bodyPost_ret (v := .tuple #[adrV ⟨6, [], sub t 7 n, ((dsat (sub t F m) : Nat) : Int), p⟩, .int .i64 0]) (by simp [results, Tryd.results19, go_sem, adrV, Adr.zero]) rfl ⟨rfl, ?_⟩
                repeat (first | with_reducible exact Pur.refl w | refine Pur.setCell ?_ (by simp) _ | refine Pur.alloc ?_ _)
set_option maxRecDepth 100000 in
set_option maxHeartbeats 1000000 in
theorem rurl_portbad (t : Bytes) (o : Option Adr) (w : World) (hpre : headH <+: t) (hl : t.length ≤ 256) (N F M : Nat) (hF : F = N + 1) (h7 : 7 ≤ N) (hN : N < t.length) (hg : ∀ j, 7 ≤ j → j < N → goB (t.getD j 0) = true) (h58 : by8 t N = 58) (hM : F < M) (hMl : M < t.length) (hd : ∀ j, F ≤ j → j < M → digB (t.getD j 0) = true) (hz : digB (t.getD M 0) = false) (h48 : by8 t F ≠ 48) (hv : dval 0 (sub t F M) ≤ 65535) (h47 : by8 t M ≠ 47) (he : o = none) :
    Calls Tryd.prog 19 #[.string ⟨t.toArray⟩] w fun e w' => e = .returned (.tuple #[adrV (said190 o).1, .int .i64 (said190 o).2]) ∧ Pur w w' := by
  have hs : t.length ≤ 140737488351232 := by omega
  have B := fun w => begins_any t headH w hs
  rw [decide_eq_true hpre] at B
  have d1 : decide ((256 : Int) < t.length) = false := decide_eq_false (by omega)
  clear hpre
  have hF1 : F ≤ N + 1 := by omega
  have hF2 : N + 1 ≤ F := by omega
  clear hF
  have HG := Lib.hid hg
  have HD := Lib.hid hd
  subst he
  clear hg hd
  go_enter Tryd.func19, Tryd.ntmps19
  go_wp2_with fail
  refine (B _).mono ?_
  rintro e w' ⟨rfl, rfl⟩
  go_wp2
  go_loop [4] (fun k => ∃ n : Nat, 7 ≤ n ∧ n ≤ N ∧ k = .int .i64 n) (fun k => N + 1 - (intOf k).toNat)
  case atStart => exact ⟨7, by omega, by omega, rfl⟩
  case round =>
    obtain ⟨n, hn7, hnN, rfl⟩ := hrel
    by_cases hlt : n < N
    · have hg := (goB_iff _).1 (HG.out n hn7 hlt)
      have e1 : (((by8 t n : Nat) : Int) != 47) = true := by simp only [bne_iff_ne, ne_eq]; unfold by8; omega
      have e2 : (((by8 t n : Nat) : Int) != 58) = true := by simp only [bne_iff_ne, ne_eq]; unfold by8; omega
      have lt1 : decide (n < t.length) = true := decide_eq_true (by omega)
      have lt2 : (n : Int) < t.length := by omega
      clear hg
      go_wp2
      go_round
      case rel => exact ⟨n + 1, by omega, by omega, by go_num⟩
      case measure => simp [intOf]; omega
    · obtain rfl : n = N := by omega
      clear hlt hnN HG
      have lt1 : decide (n < t.length) = true := decide_eq_true (by omega)
      have lt2 : (n : Int) < t.length := by omega
      have i7 : (7 : Int) ≤ n := by omega
      have il : (n : Int) ≤ t.length := by omega
      have hFi : (n : Int) + 1 = F := by omega
      go_wp2
      go_loop [4, 7] (fun k a => ∃ m : Nat, F ≤ m ∧ m ≤ M ∧ k = .int .i64 m ∧ a = .int .i64 ((dsat (sub t F m) : Nat) : Int)) (fun k _ => M + 1 - (intOf k).toNat)
      case atStart => exact ⟨F, by omega, by omega, rfl, by rw [dsat_start]; rfl⟩
      case round =>
        obtain ⟨m, hm1, hm2, rfl, rfl⟩ := hrel
        have ds := dsat_le (sub t F m)
        by_cases hm : m < M
        · have hd1 := (digB_iff _).1 (HD.out m hm1 hm)
          have g1 : (48 : Int) ≤ by8 t m := by unfold by8; omega
          have g2 : (by8 t m : Int) ≤ 57 := by unfold by8; omega
          have q1 : decide (m < t.length) = true := decide_eq_true (by omega)
          have q2 : (m : Int) < t.length := by omega
          have HNX := Lib.hid (dsat_next (t := t) hm1 (by omega) hd1.1)
          clear hd1
          go_wp2
          go_round
          case rel => exact ⟨m + 1, by omega, by omega, by go_num, by rw [HNX.out]⟩
          case measure => simp [intOf]; omega
        · obtain rfl : m = M := by omega
          clear hm hm2 HD
          have l1 : (((m : Nat) : Int) == F) = false := by simp only [beq_eq_false_iff_ne, ne_eq]; omega
          have l2 : (F : Int) < t.length := by omega
          have l3 : (((by8 t F : Nat) : Int) == 48) = false := by simp only [beq_eq_false_iff_ne, ne_eq]; omega
          have l4 : decide ((65535 : Int) < (dsat (sub t F m) : Nat)) = false := by
            have := dsat_lt (sub t F m)
            exact decide_eq_false (by omega)
          have n47 : (((by8 t m : Nat) : Int) != 47) = true := by simp only [bne_iff_ne, ne_eq]; omega
          have k1 : decide (m < t.length) = true := decide_eq_true hMl
          have k2 : (m : Int) < t.length := by omega
          have ENDS : (decide ((48 : Int) ≤ (by8 t m : Nat)) = false) ∨ (decide ((48 : Int) ≤ (by8 t m : Nat)) = true ∧ decide (((by8 t m : Nat) : Int) ≤ 57) = false) := by
            rw [Bool.eq_false_iff, ne_eq, digB_iff] at hz
            by_cases g : 48 ≤ (t.getD m 0).toNat
            · exact .inr ⟨decide_eq_true (by unfold by8; omega), decide_eq_false (by unfold by8; omega)⟩
            · exact .inl (decide_eq_false (by unfold by8; omega))
          clear hz
          rcases ENDS with k3 | ⟨k3, k4⟩
          all_goals
            go_wp2
            refine bodyPost_ret (v := .tuple #[adrV Adr.zero, .int .i64 190]) (by simp [results, Tryd.results19, go_sem, adrV, Adr.zero]) rfl ⟨rfl, ?_⟩
            repeat (first | with_reducible exact Pur.refl w | refine Pur.setCell ?_ (by simp) _ | refine Pur.alloc ?_ _)
set_option maxRecDepth 100000 in
set_option maxHeartbeats 1000000 in
theorem rurl_no (t : Bytes) (b : Bool) (w : World) (hs : t.length ≤ 140737488351232) (hb : b = false ∨ (b = true ∧ 256 < t.length)) (B : ∀ w, Calls Tryd.prog 20 #[.string ⟨t.toArray⟩, .string ⟨#[104, 116, 116, 112, 58, 47, 47]⟩] w fun e w' => e = .returned (.bool b) ∧ w = w') :
    Calls Tryd.prog 19 #[.string ⟨t.toArray⟩] w fun e w' => e = .returned (.tuple #[adrV Adr.zero, .int .i64 190]) ∧ Pur w w' := by
  rcases hb with rfl | ⟨rfl, hb⟩
  · go_enter Tryd.func19, Tryd.ntmps19
    go_wp2_with fail
    refine (B _).mono ?_
    rintro e w' ⟨rfl, rfl⟩
    go_wp2
    refine bodyPost_ret (v := .tuple #[adrV Adr.zero, .int .i64 190]) (by simp [results, Tryd.results19, go_sem, adrV, Adr.zero]) rfl ⟨rfl, ?_⟩
    repeat (first | with_reducible exact Pur.refl w | refine Pur.setCell ?_ (by simp) _ | refine Pur.alloc ?_ _)
  · have d1 : decide ((256 : Int) < t.length) = true := decide_eq_true (by omega)
    go_enter Tryd.func19, Tryd.ntmps19
    go_wp2_with fail
    refine (B _).mono ?_
    rintro e w' ⟨rfl, rfl⟩
    go_wp2
    refine bodyPost_ret (v := .tuple #[adrV Adr.zero, .int .i64 190]) (by simp [results, Tryd.results19, go_sem, adrV, Adr.zero]) rfl ⟨rfl, ?_⟩
    repeat (first | with_reducible exact Pur.refl w | refine Pur.setCell ?_ (by simp) _ | refine Pur.alloc ?_ _)

theorem rurl_any (t : Bytes) (w : World) (hs : t.length ≤ 140737488351232) :
    Calls Tryd.prog 19 #[.string ⟨t.toArray⟩] w fun e w' => e = .returned (.tuple #[adrV (said190 (url t)).1, .int .i64 (said190 (url t)).2]) ∧ Pur w w' := by
  have B := fun w => begins_any t headH w hs
  by_cases hp : headH <+: t
  · by_cases hl : t.length ≤ 256
    · rcases url_way hp hl with ⟨N, a1, a2, a3, a4⟩ | ⟨N, a1, a2, a3, a4, a5⟩ | ⟨N, F, M, a0, a1, a2, a3, a4, a5, a6, a7, a8, a9, a10⟩ | ⟨N, F, M, a0, a1, a2, a3, a4, a5, a6, a7, a8, a9, a10⟩ | ⟨N, F, M, a0, a1, a2, a3, a4, a5, a6, a7, a8, a9, a10, a11⟩ | ⟨N, F, M, a0, a1, a2, a3, a4, a5, a6, a7, a8, a9, a10, a11, a12⟩
      · exact rurl_bare t _ w hp hl N a1 a2 a3 a4
      · exact rurl_path t _ w hp hl N a1 a2 a3 a4 a5
      · exact rurl_badport t _ w hp hl N F M a0 a1 a2 a3 a4 a5 a6 a7 a8 a9 a10
      · exact rurl_portend t _ w hp hl N F M a0 a1 a2 a3 a4 a5 a6 a7 a8 a9 a10
      · exact rurl_portpath t _ w hp hl N F M a0 a1 a2 a3 a4 a5 a6 a7 a8 a9 a10 a11
      · exact rurl_portbad t _ w hp hl N F M a0 a1 a2 a3 a4 a5 a6 a7 a8 a9 a10 a11 a12
    · have hu : url t = none := by unfold url; rw [if_neg (fun h => hl h.2)]
      rw [hu]
      rw [decide_eq_true hp] at B
      exact rurl_no t _ w hs (.inr ⟨rfl, by omega⟩) B
  · have hu : url t = none := by unfold url; rw [if_neg (fun h => hp h.1)]
    rw [hu]
    rw [decide_eq_false hp] at B
    exact rurl_no t _ w hs (.inl rfl) B
end Go.Proofs.YtjbfkalkcopapaaDoor
