/- Layer 2: the number of a reference. -/
import Derived.Test.YtaknfofppknloaaGreatDoorTk6
namespace Go.Proofs.YtaknfofppknloaaGreatDoor
open Go Go.RowKit
set_option linter.all false
namespace Tk
/-- what the search gives at a character (or the end): the number that it is searched as, and where that is -/
theorem idx_pk (x : Int) (h0 : -1 ≤ x) (h1 : x ≤ 1114111) : ∃ (r D : Int), bits .or .i64 x 32 = r ∧ IntKind.i32.wrap r = r ∧ (∀ w, Calls Tryz.prog 81 #[.string ⟨#[48, 49, 50, 51, 52, 53, 54, 55, 56, 57, 97, 98, 99, 100, 101, 102]⟩, .int .i32 r] w fun e w' => e = .returned (.int .i64 D) ∧ Pur w w') ∧
    ((x < 0 ∨ 128 ≤ x) → D = -1) ∧ (0 ≤ x → x < 128 → D = Lib.indexByte set16 ((x.toNat ||| 32 : Nat).toUInt8)) := by
  rcases (show x = -1 ∨ 0 ≤ x by omega) with rfl | h
  · exact ⟨-1, -1, by decide, by decide, fun w => idx_hi (-1) w (by omega) (by omega) (by omega), fun _ => rfl, fun h => by omega⟩
  · obtain ⟨c, rfl⟩ := Int.eq_ofNat_of_zero_le h
    have hc : c ≤ 1114111 := by omega
    have hle := lor32_le c hc
    refine ⟨((c ||| 32 : Nat) : Int), if c < 128 then Lib.indexByte set16 ((c ||| 32 : Nat).toUInt8) else -1, or32 c hc, IntWalk.i32_in _ (by omega), fun w => ?_, fun h => by rw [if_neg (by omega)], fun _ h => by rw [if_pos (by omega)]; rfl⟩
    by_cases h8 : c < 128
    · rw [if_pos h8]
      have := lor32_lt c h8
      refine (Tryz.strings_IndexRune_ascii ⟨#[48, 49, 50, 51, 52, 53, 54, 55, 56, 57, 97, 98, 99, 100, 101, 102]⟩ ((c ||| 32 : Nat) : Int) w (by omega) (by omega)).mono ?_
      rintro e w' ⟨rfl, rfl⟩
      exact ⟨rfl, Pur.refl _⟩
    · rw [if_neg h8]
      have := lor32_ge c (by omega)
      exact idx_hi _ w (by omega) (by omega) (by omega)
/-- the ways of a digit -/
inductive DWay (B : Nat) (x D E : Int) : Prop where
  | low (h : D = -1) (n : ¬ (48 ≤ x ∧ x ≤ 57)) (s : ∀ v q, x < 0 ∨ numGo B v (x.toNat :: q) = none)
  | far (h : 0 ≤ E) (g : (B : Int) ≤ E) (hE : E = if 48 ≤ x ∧ x ≤ 57 then x - 48 else D) (p : 0 ≤ x) (s : ∀ v q, numGo B v (x.toNat :: q) = none)
  | good (h : 0 ≤ E) (g : E < (B : Int)) (hE : E = if 48 ≤ x ∧ x ≤ 57 then x - 48 else D) (p : 0 ≤ x) (l : x ≤ 127) (e : E = (dig x.toNat : Nat))
theorem dway (B : Nat) (hB : B = 10 ∨ B = 16) (x D : Int) (h0 : -1 ≤ x) (hx : x = -1 ∨ allowed x.toNat = true) (h59 : x ≠ 59) (h1 : (x < 0 ∨ 128 ≤ x) → D = -1) (h2 : 0 ≤ x → x < 128 → D = Lib.indexByte set16 ((x.toNat ||| 32 : Nat).toUInt8)) : ∃ E, DWay B x D E := by
  rcases (show x < 0 ∨ 128 ≤ x ∨ (0 ≤ x ∧ x < 128) by omega) with h | h | ⟨h, h'⟩
  · exact ⟨0, .low (h1 (.inl h)) (by omega) (fun _ _ => .inl h)⟩
  · refine ⟨0, .low (h1 (.inr h)) (by omega) (fun v q => .inr ?_)⟩
    rw [numGo, if_neg (by omega), if_neg (by unfold dig; repeat (first | rw [if_neg (by omega)] | omega))]
  · obtain ⟨c, rfl⟩ := Int.eq_ofNat_of_zero_le h
    have ha : allowed c = true := by rcases hx with hx | hx; · omega
                                     · exact hx
    have hD := h2 h h'
    simp only [Int.toNat_natCast] at hD ⊢
    have htab := dOf_tab c (by omega) ha
    have hE : dOf c = if 48 ≤ (c : Int) ∧ (c : Int) ≤ 57 then (c : Int) - 48 else D := by
      unfold dOf
      rw [hD]
      by_cases h4 : 48 ≤ c ∧ c ≤ 57
      · rw [if_pos h4, if_pos (by omega)]
      · rw [if_neg h4, if_neg (by omega)]
    rcases htab with ⟨t1, t2⟩ | ⟨t1, t2⟩
    · have hn : ¬ (48 ≤ (c : Int) ∧ (c : Int) ≤ 57) := by
        intro h4
        rw [if_pos h4, t1] at hE
        omega
      rw [if_neg hn, t1] at hE
      refine ⟨0, .low hE.symm hn (fun v q => .inr ?_)⟩
      rw [Int.toNat_natCast, numGo, if_neg (by omega), if_neg (by omega)]
    · rcases Nat.lt_or_ge (dig c) B with g | g
      · exact ⟨dOf c, .good t1 (by omega) hE h (by omega) (by rw [Int.toNat_natCast]; exact t2)⟩
      · refine ⟨dOf c, .far t1 (by omega) hE h (fun v q => ?_)⟩
        rw [Int.toNat_natCast, numGo, if_neg (by omega), if_neg (by omega)]
theorem allowed_pk {w : World} {p : Pl} {d : Sd} (h : At w p d) (j : Nat) : pk (d.cs.drop j) = -1 ∨ allowed (pk (d.cs.drop j)).toNat = true := by
  cases hx : d.cs.drop j with
  | nil => exact .inl rfl
  | cons c q =>
    refine .inr (h.okcs c ?_)
    have : c ∈ d.cs.drop j := by rw [hx]; simp
    exact List.mem_of_mem_drop this
theorem pk_bd {w : World} {p : Pl} {d : Sd} (h : At w p d) (j : Nat) : -1 ≤ pk (d.cs.drop j) ∧ pk (d.cs.drop j) ≤ 1114111 := by
  have := allowed_pk h j
  cases hx : d.cs.drop j with
  | nil => simp [pk]
  | cons c q =>
    rw [hx] at this
    simp only [pk] at this ⊢
    rcases this with h | h
    · omega
    · have := allowed_okc h; unfold okc at this; omega
set_option maxRecDepth 100000 in
set_option maxHeartbeats 16000000 in
theorem number_any {w : World} {p : Pl} {d : Sd} (h : At w p d) (hi : d.i ≤ d.cs.length) : Calls Tryz.prog 73 #[.pointer (some ⟨p.s, 0, none⟩)] w fun e w' => Nums p d w (number d.rest) e w' := by
  have hcl := h.clen
  have PK := peek_any h
  obtain ⟨bx, hbx⟩ : ∃ b, (pk d.rest == 120) = b := ⟨_, rfl⟩
  obtain ⟨B, f0, hB, hf, hf2, hnum⟩ : ∃ B f0, (bx = true ∧ B = 16 ∧ f0 = d.i + 1 ∨ bx = false ∧ B = 10 ∧ f0 = d.i) ∧ d.i ≤ f0 ∧ f0 ≤ d.cs.length ∧ Hid (number d.rest = numOf B (d.cs.drop f0)) := by
    rcases hr : d.rest with _ | ⟨c, q⟩
    · refine ⟨10, d.i, .inr ⟨by rw [← hbx, hr]; rfl, rfl, rfl⟩, Nat.le_refl _, hi, Lib.hid ?_⟩
      unfold Sd.rest at hr
      rw [hr]; rfl
    · obtain ⟨hlt, hq, hlen⟩ := rest_cons hr
      by_cases hc : c = 120
      · subst hc
        refine ⟨16, d.i + 1, .inl ⟨by rw [← hbx, hr]; rfl, rfl, rfl⟩, by omega, by omega, Lib.hid ?_⟩
        rw [hq]; rfl
      · refine ⟨10, d.i, .inr ⟨?_, rfl, rfl⟩, Nat.le_refl _, hi, Lib.hid ?_⟩
        · rw [← hbx, hr]; simp only [pk]; rw [beq_eq_false_iff_ne]; omega
        · unfold Sd.rest at hr
          rw [hr]
          unfold number
          split
          · rename_i e; cases e; exact absurd rfl hc
          · rfl
  have hB2 : B = 10 ∨ B = 16 := by omega
  go_enter Tryz.func73, Tryz.ntmps73
  go_wp2_with fail
  refine PK.mono ?_
  rintro e w1 ⟨rfl, hp1⟩
  have h1 := h.pur hp1
  have c1 := h1.c1
  have f1 := h1.f 1
  have ws : IntKind.i64.wrap ((d.i : Int) + 1) = (d.i : Int) + 1 := IntWalk.i64_in _ (by omega)
  have k2 := h1.seti (d.i + 1) ((d.i : Int) + 1) (by omega)
  have c2 := k2.c1
  rw [show ((d.i + 1 : Nat) : Int) = (d.i : Int) + 1 by omega] at c2
  obtain ⟨w2, hw2, hc2, hAt⟩ : ∃ w2, w2 = (if bx then w1.setCell ⟨p.s, 1, none⟩ (.int .i64 ((d.i : Int) + 1)) else w1) ∧ Chg [p.s] w w2 ∧ At w2 p { d with i := f0 } := by
    rcases hB with ⟨rfl, -, rfl⟩ | ⟨rfl, -, rfl⟩
    · exact ⟨_, rfl, (Chg.of_pur hp1).setCell (.inl (by simp)) _, k2⟩
    · exact ⟨_, rfl, Chg.of_pur hp1, h1⟩
  rcases hB with ⟨rfl, rfl, hf0⟩ | ⟨rfl, rfl, hf0⟩
  · simp only [if_true, if_false, Bool.false_eq_true] at hw2
    subst hw2
    clear PK
    go_wp2
    go_region
    go_wp2
    clear hbx c1 c2 f1
    go_loopw [4] (fun v wr => ∃ j n : Nat, v = .int .i64 (n : Int) ∧ n ≤ 1114112 ∧ f0 ≤ j ∧ j ≤ d.cs.length ∧ At wr p { d with i := j } ∧ Chg [p.s] w wr ∧ (j = f0 ∨ hd (fun c => c == 59) (d.cs.drop f0) = false) ∧ Hid (numGo 16 0 (d.cs.drop f0) = numGo 16 n (d.cs.drop j))) (fun _ wr => d.cs.length + 1 - natAt wr ⟨p.s, 1, none⟩)
    case atStart => exact ⟨f0, 0, rfl, by omega, by omega, hf2, hAt.pur ((Pur.refl _).drew), hc2.drew, .inl rfl, Lib.hid rfl⟩
    case round =>
      obtain ⟨j, n, rfl, hn, j1, j2, h3, h4, h5, H⟩ := hrel
      have PK : ∀ w', Pur wr w' → Calls Tryz.prog 23 #[.pointer (some ⟨p.s, 0, none⟩)] w' fun e w'' => e = .returned (.int .i64 (pk (d.cs.drop j))) ∧ Pur w' w'' := fun w' hp => peek_any (h3.pur hp)
      have hx := allowed_pk h3 j
      obtain ⟨x0, x1⟩ := pk_bd h3 j
      have e3 := h3.nat
      simp only at hx x0 x1
      have HX := Lib.hid (show pk (d.cs.drop j) = pk (d.cs.drop j) from rfl)
      generalize hpk : pk (d.cs.drop j) = x at *
      by_cases h59 : x = 59
      · subst h59
        have hj : j < d.cs.length := by
          rcases Nat.lt_or_ge j d.cs.length with g | g
          · exact g
          · rw [List.drop_of_length_le g] at hpk; cases hpk
        have hcons := drop_cons d.cs j hj
        have hc : d.cs.getD j 0 = 59 := by rw [hcons] at hpk; simp only [pk] at hpk; omega
        rw [hc] at hcons
        have hgo : numGo 16 0 (d.cs.drop f0) = some (n, d.cs.drop (j + 1)) := by rw [H.out, hcons, numGo, if_pos rfl]
        clear hcons H HX hpk
        have AL := fun w => allowed_any (n : Int) w (by omega)
        have hon : on allowed (n : Int) = allowed n := by simp [on]
        rw [hon] at AL
        by_cases hjf : j = f0
        · have hs := Lib.hid (show number d.rest = none by
            rw [hnum.out]
            unfold numOf
            rw [← hjf, drop_cons d.cs j hj]
            rw [if_pos (show hd (fun c => c == 59) (d.cs.getD j 0 :: d.cs.drop (j + 1)) = true by simp only [hd]; rw [hc]; rfl)])
          have d1 : ((j : Int) == ((d.i : Int) + 1)) = true := by simp; omega
          go_wp2_with fail
          refine (PK _ (Pur.refl _)).mono ?_
          rintro e w4 ⟨rfl, hp4⟩
          have k4 := h3.pur hp4
          have c1 := k4.c1
          simp only at c1
          go_wp2
          go_ret
          rw [hs.out]
          exact ⟨rfl, _, j, rfl, by omega, j2, k4, h4.pur hp4⟩
        · have hnf : hd (fun c => c == 59) (d.cs.drop f0) = false := h5.resolve_left hjf
          have d1 : ((j : Int) == ((d.i : Int) + 1)) = false := by simp; omega
          have hs := Lib.hid (show number d.rest = if allowed n || n == 13 then some (n, d.cs.drop (j + 1)) else none by
            rw [hnum.out]
            unfold numOf
            rw [hnf, hgo]
            simp)
          clear hgo hnf h5 hnum
          obtain ⟨b1, hb1⟩ : ∃ b, allowed n = b := ⟨_, rfl⟩
          obtain ⟨b2, hb2⟩ : ∃ b, ((n : Int) == 13) = b := ⟨_, rfl⟩
          have hb2' : (n == 13) = b2 := by rw [← hb2, Bool.eq_iff_iff]; simp; omega
          have hb3 : ((n : Int) != 13) = !b2 := by rw [bne, hb2]
          rw [hb1, hb2'] at hs
          rw [hb1] at AL
          have w1 : IntKind.i64.wrap ((j : Int) + 1) = (j : Int) + 1 := IntWalk.i64_in _ (by omega)
          rcases b1 with _ | _ <;> rcases b2 with _ | _
          all_goals
            simp only [Bool.not_true, Bool.not_false] at hb3
            simp only [Bool.or_true, Bool.or_false, Bool.or_self, Bool.true_or, Bool.false_or, if_true, if_false, Bool.false_eq_true] at hs
            go_wp2_with fail
            refine (PK _ (Pur.refl _)).mono ?_
            rintro e w4 ⟨rfl, hp4⟩
            have k4 := h3.pur hp4
            have c1 := k4.c1
            have f1 := k4.f 1
            have k5 := k4.seti (j + 1) ((j : Int) + 1) (by omega)
            simp only at c1
            go_wp2_with fail
            refine (AL _).mono ?_
            rintro e w5 ⟨rfl, rfl⟩
            go_wp2
            go_ret
            rw [hs.out]
          · exact ⟨rfl, _, j, rfl, by omega, j2, k4, h4.pur hp4⟩
          · exact ⟨rfl, j + 1, rfl, by omega, by omega, k5, (h4.pur hp4).setCell (.inl (by simp)) _⟩
          · exact ⟨rfl, j + 1, rfl, by omega, by omega, k5, (h4.pur hp4).setCell (.inl (by simp)) _⟩
          · exact ⟨rfl, j + 1, rfl, by omega, by omega, k5, (h4.pur hp4).setCell (.inl (by simp)) _⟩
      · have d59 : (x != 59) = true := by simpa using h59
        obtain ⟨r, D, hr1, hr2, IX, hD1, hD2⟩ := idx_pk x x0 x1
        obtain ⟨E, hE⟩ := dway 16 (by omega) x D x0 hx h59 hD1 hD2
        clear hD1 hD2
        have hnone : (∀ v q, x < 0 ∨ numGo 16 v (x.toNat :: q) = none) → number d.rest = none := fun hs => by
          have hg : numGo 16 0 (d.cs.drop f0) = none := by
            rw [H.out]
            cases hq : d.cs.drop j with
            | nil => rfl
            | cons c q =>
              rw [hq] at hpk
              simp only [pk] at hpk
              rcases hs n q with g | g
              · omega
              · rw [← hpk] at g; simpa using g
          rw [hnum.out]
          unfold numOf
          rw [hg]
          split <;> rfl
        rcases hE with ⟨hD, hno, hs⟩ | ⟨hE0, hge, hEE, hp0, hs⟩ | ⟨hE0, hlt, hEE, hp0, hl, hdig⟩
        · have HS := Lib.hid (hnone hs)
          clear hnone hs H HX hpk hnum h5 hx
          subst hD
          rcases (show x < 48 ∨ (48 ≤ x ∧ 57 < x) by omega) with g | ⟨g, g'⟩
          · have d1 : decide ((48 : Int) ≤ x) = false := by simp; omega
            clear hno
            go_wp2_with fail
            refine (PK _ (Pur.refl _)).mono ?_
            rintro e w4 ⟨rfl, hp4⟩
            go_wp2_with fail
            refine (PK _ hp4).mono ?_
            rintro e w5 ⟨rfl, hp5⟩
            go_wp2_with fail
            refine (IX _).mono ?_
            rintro e w6 ⟨rfl, hp6⟩
            have P6 := (hp4.trans hp5).trans hp6
            go_wp2_with fail
            refine (PK _ P6).mono ?_
            rintro e w7 ⟨rfl, hp7⟩
            have P7 := P6.trans hp7
            go_wp2
            go_ret
            rw [HS.out]
            exact ⟨rfl, _, j, rfl, by omega, j2, h3.pur P7, h4.pur P7⟩
          · have d1 : decide ((48 : Int) ≤ x) = true := by simp; omega
            have d2 : decide (x ≤ 57) = false := by simp; omega
            clear hno
            go_wp2_with fail
            refine (PK _ (Pur.refl _)).mono ?_
            rintro e w4 ⟨rfl, hp4⟩
            go_wp2_with fail
            refine (PK _ hp4).mono ?_
            rintro e w5 ⟨rfl, hp5⟩
            go_wp2_with fail
            refine (IX _).mono ?_
            rintro e w6 ⟨rfl, hp6⟩
            have P6 := (hp4.trans hp5).trans hp6
            go_wp2_with fail
            refine (PK _ P6).mono ?_
            rintro e w7 ⟨rfl, hp7⟩
            have P7 := P6.trans hp7
            go_wp2
            go_ret
            rw [HS.out]
            exact ⟨rfl, _, j, rfl, by omega, j2, h3.pur P7, h4.pur P7⟩
        · have HS := Lib.hid (hnone fun v q => .inr (hs v q))
          clear hnone hs H HX hpk hnum h5 hx
          have t1 : decide (E < 0) = false := by simp; omega
          have t2 : decide ((16 : Int) ≤ E) = true := by simp; omega
          obtain ⟨b1, hb1⟩ : ∃ b, decide ((48 : Int) ≤ x) = b := ⟨_, rfl⟩
          obtain ⟨b2, hb2⟩ : ∃ b, decide (x ≤ 57) = b := ⟨_, rfl⟩
          have hEb : E = if b1 && b2 then x - 48 else D := by rw [hEE, ← hb1, ← hb2]; by_cases g1 : 48 ≤ x <;> by_cases g2 : x ≤ 57 <;> simp [g1, g2]
          have ws48 : IntKind.i64.wrap (x - 48) = x - 48 := IntWalk.i64_in _ (by omega)
          clear hEE
          rcases b1 with _ | _ <;> rcases b2 with _ | _
          all_goals
            simp only [Bool.and_true, Bool.and_false, Bool.and_self, Bool.true_and, Bool.false_and, if_true, if_false, Bool.false_eq_true] at hEb
            subst hEb
            go_wp2_with fail
            refine (PK _ (Pur.refl _)).mono ?_
            rintro e w4 ⟨rfl, hp4⟩
            go_wp2_with fail
            refine (PK _ hp4).mono ?_
            rintro e w5 ⟨rfl, hp5⟩
            go_wp2_with fail
            refine (IX _).mono ?_
            rintro e w6 ⟨rfl, hp6⟩
            have P6 := (hp4.trans hp5).trans hp6
            go_wp2_with fail
            refine (PK _ P6).mono ?_
            rintro e w7 ⟨rfl, hp7⟩
            have P7 := P6.trans hp7
            go_wp2
            go_ret
            rw [HS.out]
            exact ⟨rfl, _, j, rfl, by omega, j2, h3.pur P7, h4.pur P7⟩
        · have hj : j < d.cs.length := by
            rcases Nat.lt_or_ge j d.cs.length with g | g
            · exact g
            · rw [List.drop_of_length_le g] at hpk; simp only [pk] at hpk; omega
          have hcons := drop_cons d.cs j hj
          have hxc : x = (d.cs.getD j 0 : Nat) := by rw [hcons] at hpk; exact hpk.symm
          have hgo : Hid (numGo 16 0 (d.cs.drop f0) = numGo 16 (min (n * 16 + dig x.toNat) 1114112) (d.cs.drop (j + 1))) := Lib.hid (by
            rw [H.out, hcons, numGo, hxc, Int.toNat_natCast, if_neg (by omega), if_pos (by rw [hxc, Int.toNat_natCast] at hdig; omega)])
          have h59' : j + 1 = f0 ∨ hd (fun c => c == 59) (d.cs.drop f0) = false := by
            rcases h5 with rfl | h5
            · refine .inr ?_
              rw [hcons]
              simp only [hd]
              rw [beq_eq_false_iff_ne]
              omega
            · exact .inr h5
          clear hnone H HX hpk hnum h5 hx hcons hxc
          generalize dig x.toNat = m at *
          have hmn : min ((n : Int) * 16 + E) 1114112 = ((min (n * 16 + m) 1114112 : Nat) : Int) := by omega
          have wsm : IntKind.i64.wrap ((n : Int) * 16) = (n : Int) * 16 := IntWalk.i64_in _ (by omega)
          have wsa : IntKind.i64.wrap ((n : Int) * 16 + E) = (n : Int) * 16 + E := IntWalk.i64_in _ (by omega)
          generalize min (n * 16 + m) 1114112 = n' at *
          have hn' : n' ≤ 1114112 := by omega
          clear hdig
          have t1 : decide (E < 0) = false := by simp; omega
          have t2 : decide ((16 : Int) ≤ E) = false := by simp; omega
          have t3 : decide (127 < x) = false := by simp; omega
          have w1 : IntKind.i64.wrap ((j : Int) + 1) = (j : Int) + 1 := IntWalk.i64_in _ (by omega)
          obtain ⟨b1, hb1⟩ : ∃ b, decide ((48 : Int) ≤ x) = b := ⟨_, rfl⟩
          obtain ⟨b2, hb2⟩ : ∃ b, decide (x ≤ 57) = b := ⟨_, rfl⟩
          have hEb : E = if b1 && b2 then x - 48 else D := by rw [hEE, ← hb1, ← hb2]; by_cases g1 : 48 ≤ x <;> by_cases g2 : x ≤ 57 <;> simp [g1, g2]
          have ws48 : IntKind.i64.wrap (x - 48) = x - 48 := IntWalk.i64_in _ (by omega)
          clear hEE
          rcases b1 with _ | _ <;> rcases b2 with _ | _
          all_goals
            simp only [Bool.and_true, Bool.and_false, Bool.and_self, Bool.true_and, Bool.false_and, if_true, if_false, Bool.false_eq_true] at hEb
            subst hEb
            go_wp2_with fail
            refine (PK _ (Pur.refl _)).mono ?_
            rintro e w4 ⟨rfl, hp4⟩
            go_wp2_with fail
            refine (PK _ hp4).mono ?_
            rintro e w5 ⟨rfl, hp5⟩
            go_wp2_with fail
            refine (IX _).mono ?_
            rintro e w6 ⟨rfl, hp6⟩
            have P6 := (hp4.trans hp5).trans hp6
            go_wp2_with fail
            refine (PK _ P6).mono ?_
            rintro e w7 ⟨rfl, hp7⟩
            have P7 := P6.trans hp7
            go_wp2_with fail
            refine (PK _ P7).mono ?_
            rintro e w8 ⟨rfl, hp8⟩
            have P8 := P7.trans hp8
            have k8 := h3.pur P8
            have c1 := k8.c1
            have f1 := k8.f 1
            have k9 := k8.seti (j + 1) ((j : Int) + 1) (by omega)
            have e9 := k9.nat
            simp only at c1
            go_wp2
            go_roundw
            case rel => exact ⟨j + 1, n', rfl, hn', by omega, by omega, k9, (h4.pur P8).setCell (.inl (by simp)) _, h59', hgo⟩
            case measure => rw [e3, e9]; omega
  · simp only [if_true, if_false, Bool.false_eq_true] at hw2
    subst hw2
    clear PK
    go_wp2
    go_region
    go_wp2
    clear hbx c1 c2 f1
    go_loopw [4] (fun v wr => ∃ j n : Nat, v = .int .i64 (n : Int) ∧ n ≤ 1114112 ∧ f0 ≤ j ∧ j ≤ d.cs.length ∧ At wr p { d with i := j } ∧ Chg [p.s] w wr ∧ (j = f0 ∨ hd (fun c => c == 59) (d.cs.drop f0) = false) ∧ Hid (numGo 10 0 (d.cs.drop f0) = numGo 10 n (d.cs.drop j))) (fun _ wr => d.cs.length + 1 - natAt wr ⟨p.s, 1, none⟩)
    case atStart => exact ⟨f0, 0, rfl, by omega, by omega, hf2, hAt.pur ((Pur.refl _).drew), hc2.drew, .inl rfl, Lib.hid rfl⟩
    case round =>
      obtain ⟨j, n, rfl, hn, j1, j2, h3, h4, h5, H⟩ := hrel
      have PK : ∀ w', Pur wr w' → Calls Tryz.prog 23 #[.pointer (some ⟨p.s, 0, none⟩)] w' fun e w'' => e = .returned (.int .i64 (pk (d.cs.drop j))) ∧ Pur w' w'' := fun w' hp => peek_any (h3.pur hp)
      have hx := allowed_pk h3 j
      obtain ⟨x0, x1⟩ := pk_bd h3 j
      have e3 := h3.nat
      simp only at hx x0 x1
      have HX := Lib.hid (show pk (d.cs.drop j) = pk (d.cs.drop j) from rfl)
      generalize hpk : pk (d.cs.drop j) = x at *
      by_cases h59 : x = 59
      · subst h59
        have hj : j < d.cs.length := by
          rcases Nat.lt_or_ge j d.cs.length with g | g
          · exact g
          · rw [List.drop_of_length_le g] at hpk; cases hpk
        have hcons := drop_cons d.cs j hj
        have hc : d.cs.getD j 0 = 59 := by rw [hcons] at hpk; simp only [pk] at hpk; omega
        rw [hc] at hcons
        have hgo : numGo 10 0 (d.cs.drop f0) = some (n, d.cs.drop (j + 1)) := by rw [H.out, hcons, numGo, if_pos rfl]
        clear hcons H HX hpk
        have AL := fun w => allowed_any (n : Int) w (by omega)
        have hon : on allowed (n : Int) = allowed n := by simp [on]
        rw [hon] at AL
        by_cases hjf : j = f0
        · have hs := Lib.hid (show number d.rest = none by
            rw [hnum.out]
            unfold numOf
            rw [← hjf, drop_cons d.cs j hj]
            rw [if_pos (show hd (fun c => c == 59) (d.cs.getD j 0 :: d.cs.drop (j + 1)) = true by simp only [hd]; rw [hc]; rfl)])
          have d1 : ((j : Int) == (d.i : Int)) = true := by simp; omega
          go_wp2_with fail
          refine (PK _ (Pur.refl _)).mono ?_
          rintro e w4 ⟨rfl, hp4⟩
          have k4 := h3.pur hp4
          have c1 := k4.c1
          simp only at c1
          go_wp2
          go_ret
          rw [hs.out]
          exact ⟨rfl, _, j, rfl, by omega, j2, k4, h4.pur hp4⟩
        · have hnf : hd (fun c => c == 59) (d.cs.drop f0) = false := h5.resolve_left hjf
          have d1 : ((j : Int) == (d.i : Int)) = false := by simp; omega
          have hs := Lib.hid (show number d.rest = if allowed n || n == 13 then some (n, d.cs.drop (j + 1)) else none by
            rw [hnum.out]
            unfold numOf
            rw [hnf, hgo]
            simp)
          clear hgo hnf h5 hnum
          obtain ⟨b1, hb1⟩ : ∃ b, allowed n = b := ⟨_, rfl⟩
          obtain ⟨b2, hb2⟩ : ∃ b, ((n : Int) == 13) = b := ⟨_, rfl⟩
          have hb2' : (n == 13) = b2 := by rw [← hb2, Bool.eq_iff_iff]; simp; omega
          have hb3 : ((n : Int) != 13) = !b2 := by rw [bne, hb2]
          rw [hb1, hb2'] at hs
          rw [hb1] at AL
          have w1 : IntKind.i64.wrap ((j : Int) + 1) = (j : Int) + 1 := IntWalk.i64_in _ (by omega)
          rcases b1 with _ | _ <;> rcases b2 with _ | _
          all_goals
            simp only [Bool.not_true, Bool.not_false] at hb3
            simp only [Bool.or_true, Bool.or_false, Bool.or_self, Bool.true_or, Bool.false_or, if_true, if_false, Bool.false_eq_true] at hs
            go_wp2_with fail
            refine (PK _ (Pur.refl _)).mono ?_
            rintro e w4 ⟨rfl, hp4⟩
            have k4 := h3.pur hp4
            have c1 := k4.c1
            have f1 := k4.f 1
            have k5 := k4.seti (j + 1) ((j : Int) + 1) (by omega)
            simp only at c1
            go_wp2_with fail
            refine (AL _).mono ?_
            rintro e w5 ⟨rfl, rfl⟩
            go_wp2
            go_ret
            rw [hs.out]
          · exact ⟨rfl, _, j, rfl, by omega, j2, k4, h4.pur hp4⟩
          · exact ⟨rfl, j + 1, rfl, by omega, by omega, k5, (h4.pur hp4).setCell (.inl (by simp)) _⟩
          · exact ⟨rfl, j + 1, rfl, by omega, by omega, k5, (h4.pur hp4).setCell (.inl (by simp)) _⟩
          · exact ⟨rfl, j + 1, rfl, by omega, by omega, k5, (h4.pur hp4).setCell (.inl (by simp)) _⟩
      · have d59 : (x != 59) = true := by simpa using h59
        obtain ⟨r, D, hr1, hr2, IX, hD1, hD2⟩ := idx_pk x x0 x1
        obtain ⟨E, hE⟩ := dway 10 (by omega) x D x0 hx h59 hD1 hD2
        clear hD1 hD2
        have hnone : (∀ v q, x < 0 ∨ numGo 10 v (x.toNat :: q) = none) → number d.rest = none := fun hs => by
          have hg : numGo 10 0 (d.cs.drop f0) = none := by
            rw [H.out]
            cases hq : d.cs.drop j with
            | nil => rfl
            | cons c q =>
              rw [hq] at hpk
              simp only [pk] at hpk
              rcases hs n q with g | g
              · omega
              · rw [← hpk] at g; simpa using g
          rw [hnum.out]
          unfold numOf
          rw [hg]
          split <;> rfl
        rcases hE with ⟨hD, hno, hs⟩ | ⟨hE0, hge, hEE, hp0, hs⟩ | ⟨hE0, hlt, hEE, hp0, hl, hdig⟩
        · have HS := Lib.hid (hnone hs)
          clear hnone hs H HX hpk hnum h5 hx
          subst hD
          rcases (show x < 48 ∨ (48 ≤ x ∧ 57 < x) by omega) with g | ⟨g, g'⟩
          · have d1 : decide ((48 : Int) ≤ x) = false := by simp; omega
            clear hno
            go_wp2_with fail
            refine (PK _ (Pur.refl _)).mono ?_
            rintro e w4 ⟨rfl, hp4⟩
            go_wp2_with fail
            refine (PK _ hp4).mono ?_
            rintro e w5 ⟨rfl, hp5⟩
            go_wp2_with fail
            refine (IX _).mono ?_
            rintro e w6 ⟨rfl, hp6⟩
            have P6 := (hp4.trans hp5).trans hp6
            go_wp2_with fail
            refine (PK _ P6).mono ?_
            rintro e w7 ⟨rfl, hp7⟩
            have P7 := P6.trans hp7
            go_wp2
            go_ret
            rw [HS.out]
            exact ⟨rfl, _, j, rfl, by omega, j2, h3.pur P7, h4.pur P7⟩
          · have d1 : decide ((48 : Int) ≤ x) = true := by simp; omega
            have d2 : decide (x ≤ 57) = false := by simp; omega
            clear hno
            go_wp2_with fail
            refine (PK _ (Pur.refl _)).mono ?_
            rintro e w4 ⟨rfl, hp4⟩
            go_wp2_with fail
            refine (PK _ hp4).mono ?_
            rintro e w5 ⟨rfl, hp5⟩
            go_wp2_with fail
            refine (IX _).mono ?_
            rintro e w6 ⟨rfl, hp6⟩
            have P6 := (hp4.trans hp5).trans hp6
            go_wp2_with fail
            refine (PK _ P6).mono ?_
            rintro e w7 ⟨rfl, hp7⟩
            have P7 := P6.trans hp7
            go_wp2
            go_ret
            rw [HS.out]
            exact ⟨rfl, _, j, rfl, by omega, j2, h3.pur P7, h4.pur P7⟩
        · have HS := Lib.hid (hnone fun v q => .inr (hs v q))
          clear hnone hs H HX hpk hnum h5 hx
          have t1 : decide (E < 0) = false := by simp; omega
          have t2 : decide ((10 : Int) ≤ E) = true := by simp; omega
          obtain ⟨b1, hb1⟩ : ∃ b, decide ((48 : Int) ≤ x) = b := ⟨_, rfl⟩
          obtain ⟨b2, hb2⟩ : ∃ b, decide (x ≤ 57) = b := ⟨_, rfl⟩
          have hEb : E = if b1 && b2 then x - 48 else D := by rw [hEE, ← hb1, ← hb2]; by_cases g1 : 48 ≤ x <;> by_cases g2 : x ≤ 57 <;> simp [g1, g2]
          have ws48 : IntKind.i64.wrap (x - 48) = x - 48 := IntWalk.i64_in _ (by omega)
          clear hEE
          rcases b1 with _ | _ <;> rcases b2 with _ | _
          all_goals
            simp only [Bool.and_true, Bool.and_false, Bool.and_self, Bool.true_and, Bool.false_and, if_true, if_false, Bool.false_eq_true] at hEb
            subst hEb
            go_wp2_with fail
            refine (PK _ (Pur.refl _)).mono ?_
            rintro e w4 ⟨rfl, hp4⟩
            go_wp2_with fail
            refine (PK _ hp4).mono ?_
            rintro e w5 ⟨rfl, hp5⟩
            go_wp2_with fail
            refine (IX _).mono ?_
            rintro e w6 ⟨rfl, hp6⟩
            have P6 := (hp4.trans hp5).trans hp6
            go_wp2_with fail
            refine (PK _ P6).mono ?_
            rintro e w7 ⟨rfl, hp7⟩
            have P7 := P6.trans hp7
            go_wp2
            go_ret
            rw [HS.out]
            exact ⟨rfl, _, j, rfl, by omega, j2, h3.pur P7, h4.pur P7⟩
        · have hj : j < d.cs.length := by
            rcases Nat.lt_or_ge j d.cs.length with g | g
            · exact g
            · rw [List.drop_of_length_le g] at hpk; simp only [pk] at hpk; omega
          have hcons := drop_cons d.cs j hj
          have hxc : x = (d.cs.getD j 0 : Nat) := by rw [hcons] at hpk; exact hpk.symm
          have hgo : Hid (numGo 10 0 (d.cs.drop f0) = numGo 10 (min (n * 10 + dig x.toNat) 1114112) (d.cs.drop (j + 1))) := Lib.hid (by
            rw [H.out, hcons, numGo, hxc, Int.toNat_natCast, if_neg (by omega), if_pos (by rw [hxc, Int.toNat_natCast] at hdig; omega)])
          have h59' : j + 1 = f0 ∨ hd (fun c => c == 59) (d.cs.drop f0) = false := by
            rcases h5 with rfl | h5
            · refine .inr ?_
              rw [hcons]
              simp only [hd]
              rw [beq_eq_false_iff_ne]
              omega
            · exact .inr h5
          clear hnone H HX hpk hnum h5 hx hcons hxc
          generalize dig x.toNat = m at *
          have hmn : min ((n : Int) * 10 + E) 1114112 = ((min (n * 10 + m) 1114112 : Nat) : Int) := by omega
          have wsm : IntKind.i64.wrap ((n : Int) * 10) = (n : Int) * 10 := IntWalk.i64_in _ (by omega)
          have wsa : IntKind.i64.wrap ((n : Int) * 10 + E) = (n : Int) * 10 + E := IntWalk.i64_in _ (by omega)
          generalize min (n * 10 + m) 1114112 = n' at *
          have hn' : n' ≤ 1114112 := by omega
          clear hdig
          have t1 : decide (E < 0) = false := by simp; omega
          have t2 : decide ((10 : Int) ≤ E) = false := by simp; omega
          have t3 : decide (127 < x) = false := by simp; omega
          have w1 : IntKind.i64.wrap ((j : Int) + 1) = (j : Int) + 1 := IntWalk.i64_in _ (by omega)
          obtain ⟨b1, hb1⟩ : ∃ b, decide ((48 : Int) ≤ x) = b := ⟨_, rfl⟩
          obtain ⟨b2, hb2⟩ : ∃ b, decide (x ≤ 57) = b := ⟨_, rfl⟩
          have hEb : E = if b1 && b2 then x - 48 else D := by rw [hEE, ← hb1, ← hb2]; by_cases g1 : 48 ≤ x <;> by_cases g2 : x ≤ 57 <;> simp [g1, g2]
          have ws48 : IntKind.i64.wrap (x - 48) = x - 48 := IntWalk.i64_in _ (by omega)
          clear hEE
          rcases b1 with _ | _ <;> rcases b2 with _ | _
          all_goals
            simp only [Bool.and_true, Bool.and_false, Bool.and_self, Bool.true_and, Bool.false_and, if_true, if_false, Bool.false_eq_true] at hEb
            subst hEb
            go_wp2_with fail
            refine (PK _ (Pur.refl _)).mono ?_
            rintro e w4 ⟨rfl, hp4⟩
            go_wp2_with fail
            refine (PK _ hp4).mono ?_
            rintro e w5 ⟨rfl, hp5⟩
            go_wp2_with fail
            refine (IX _).mono ?_
            rintro e w6 ⟨rfl, hp6⟩
            have P6 := (hp4.trans hp5).trans hp6
            go_wp2_with fail
            refine (PK _ P6).mono ?_
            rintro e w7 ⟨rfl, hp7⟩
            have P7 := P6.trans hp7
            go_wp2_with fail
            refine (PK _ P7).mono ?_
            rintro e w8 ⟨rfl, hp8⟩
            have P8 := P7.trans hp8
            have k8 := h3.pur P8
            have c1 := k8.c1
            have f1 := k8.f 1
            have k9 := k8.seti (j + 1) ((j : Int) + 1) (by omega)
            have e9 := k9.nat
            simp only at c1
            go_wp2
            go_roundw
            case rel => exact ⟨j + 1, n', rfl, hn', by omega, by omega, k9, (h4.pur P8).setCell (.inl (by simp)) _, h59', hgo⟩
            case measure => rw [e3, e9]; omega
end Tk
end Go.Proofs.YtaknfofppknloaaGreatDoor
