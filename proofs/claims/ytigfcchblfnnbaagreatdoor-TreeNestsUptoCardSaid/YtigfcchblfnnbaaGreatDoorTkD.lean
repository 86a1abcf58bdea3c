/- Layer 2: the number of a reference. Layer 2: what a reference means. Layer 2: an attribute's value. Layer 2: a tag's attributes. -/
import Derived.Test.YtigfcchblfnnbaaGreatDoorTkC
import Derived.Maps.RangeWalk
import Derived.Maps.OwnSet
import Derived.Maps.StringElems
namespace Go.Proofs.YtigfcchblfnnbaaGreatDoor
open Go Go.RowKit
set_option linter.all false
namespace Tk
/-- what the search gives at a character (or the end): the number that it is searched as, and where that is -/
theorem idx_pk (x : Int) (h0 : -1 ≤ x) (h1 : x ≤ 1114111) : ∃ (r D : Int), bits .or .i64 x 32 = r ∧ IntKind.i32.wrap r = r ∧ (∀ w, Calls Tryz.prog 121 #[.string ⟨#[48, 49, 50, 51, 52, 53, 54, 55, 56, 57, 97, 98, 99, 100, 101, 102]⟩, .int .i32 r] w fun e w' => e = .returned (.int .i64 D) ∧ Pur w w') ∧
    ((x < 0 ∨ 128 ≤ x) → D = -1) ∧ (0 ≤ x → x < 128 → D = Lib.indexByte set16 ((x.toNat ||| 32 : Nat).toUInt8)) := by
  rcases (show x = -1 ∨ 0 ≤ x by omega) with rfl | h
  · exact ⟨-1, -1, by decide, by decide, fun w => idx_hi (-1) w (by omega) (by omega) (by omega), fun _ => rfl, fun h => by omega⟩
  · obtain ⟨c, rfl⟩ := Int.eq_ofNat_of_zero_le h
    have hc : c ≤ 1114111 := by omega
    have hle := lor32_le c hc
    refine ⟨((c ||| 32 : Nat) : Int), if c < 128 then Lib.indexByte set16 ((c ||| 32 : Nat).toUInt8) else -1, or32 c hc, IntWalk.i32_in _ (by omega), fun w => ?_, fun h => by rw [if_neg (by omega)], fun _ h => by rw [if_pos (by omega)]; rfl⟩
    by_cases h8 : c < 128
    · rw [if_pos h8]
      have := lor32_lt c h8
      refine (Tryz.strings_IndexRune_ascii ⟨#[48, 49, 50, 51, 52, 53, 54, 55, 56, 57, 97, 98, 99, 100, 101, 102]⟩ ((c ||| 32 : Nat) : Int) w (by omega) (by omega)).mono ?_
      rintro e w' ⟨rfl, rfl⟩
      exact ⟨rfl, Pur.refl _⟩
    · rw [if_neg h8]
      have := lor32_ge c (by omega)
      exact idx_hi _ w (by omega) (by omega) (by omega)
/-- the ways of a digit -/
inductive DWay (B : Nat) (x D E : Int) : Prop where
  | low (h : D = -1) (n : ¬ (48 ≤ x ∧ x ≤ 57)) (s : ∀ v q, x < 0 ∨ numGo B v (x.toNat :: q) = none)
  | far (h : 0 ≤ E) (g : (B : Int) ≤ E) (hE : E = if 48 ≤ x ∧ x ≤ 57 then x - 48 else D) (p : 0 ≤ x) (s : ∀ v q, numGo B v (x.toNat :: q) = none)
  | good (h : 0 ≤ E) (g : E < (B : Int)) (hE : E = if 48 ≤ x ∧ x ≤ 57 then x - 48 else D) (p : 0 ≤ x) (l : x ≤ 127) (e : E = (dig x.toNat : Nat))
theorem dway (B : Nat) (hB : B = 10 ∨ B = 16) (x D : Int) (h0 : -1 ≤ x) (hx : x = -1 ∨ allowed x.toNat = true) (h59 : x ≠ 59) (h1 : (x < 0 ∨ 128 ≤ x) → D = -1) (h2 : 0 ≤ x → x < 128 → D = Lib.indexByte set16 ((x.toNat ||| 32 : Nat).toUInt8)) : ∃ E, DWay B x D E := by
  rcases (show x < 0 ∨ 128 ≤ x ∨ (0 ≤ x ∧ x < 128) by omega) with h | h | ⟨h, h'⟩
  · exact ⟨0, .low (h1 (.inl h)) (by omega) (fun _ _ => .inl h)⟩
  · refine ⟨0, .low (h1 (.inr h)) (by omega) (fun v q => .inr ?_)⟩
    rw [numGo, if_neg (by omega), if_neg (by unfold dig; repeat (first | rw [if_neg (by omega)] | omega))]
  · obtain ⟨c, rfl⟩ := Int.eq_ofNat_of_zero_le h
    have ha : allowed c = true := by rcases hx with hx | hx; · omega
                                     · exact hx
    have hD := h2 h h'
    simp only [Int.toNat_natCast] at hD ⊢
    have htab := dOf_tab c (by omega) ha
    have hE : dOf c = if 48 ≤ (c : Int) ∧ (c : Int) ≤ 57 then (c : Int) - 48 else D := by
      unfold dOf
      rw [hD]
      by_cases h4 : 48 ≤ c ∧ c ≤ 57
      · rw [if_pos h4, if_pos (by omega)]
      · rw [if_neg h4, if_neg (by omega)]
    rcases htab with ⟨t1, t2⟩ | ⟨t1, t2⟩
    · have hn : ¬ (48 ≤ (c : Int) ∧ (c : Int) ≤ 57) := by
        intro h4
        rw [if_pos h4, t1] at hE
        omega
      rw [if_neg hn, t1] at hE
      refine ⟨0, .low hE.symm hn (fun v q => .inr ?_)⟩
      rw [Int.toNat_natCast, numGo, if_neg (by omega), if_neg (by omega)]
    · rcases Nat.lt_or_ge (dig c) B with g | g
      · exact ⟨dOf c, .good t1 (by omega) hE h (by omega) (by rw [Int.toNat_natCast]; exact t2)⟩
      · refine ⟨dOf c, .far t1 (by omega) hE h (fun v q => ?_)⟩
        rw [Int.toNat_natCast, numGo, if_neg (by omega), if_neg (by omega)]
theorem allowed_pk {w : World} {p : Pl} {d : Sd} (h : At w p d) (j : Nat) : pk (d.cs.drop j) = -1 ∨ allowed (pk (d.cs.drop j)).toNat = true := by
  cases hx : d.cs.drop j with
  | nil => exact .inl rfl
  | cons c q =>
    refine .inr (h.okcs c ?_)
    have : c ∈ d.cs.drop j := by rw [hx]; simp
    exact List.mem_of_mem_drop this
theorem pk_bd {w : World} {p : Pl} {d : Sd} (h : At w p d) (j : Nat) : -1 ≤ pk (d.cs.drop j) ∧ pk (d.cs.drop j) ≤ 1114111 := by
  have := allowed_pk h j
  cases hx : d.cs.drop j with
  | nil => simp [pk]
  | cons c q =>
    rw [hx] at this
    simp only [pk] at this ⊢
    rcases this with h | h
    · omega
    · have := allowed_okc h; unfold okc at this; omega
set_option maxRecDepth 100000 in
set_option maxHeartbeats 16000000 in
theorem number_any {w : World} {p : Pl} {d : Sd} (h : At w p d) (hi : d.i ≤ d.cs.length) : Calls Tryz.prog 110 #[.pointer (some ⟨p.s, 0, none⟩)] w fun e w' => Nums p d w (number d.rest) e w' := by
  have hcl := h.clen
  have PK := peek_any h
  obtain ⟨bx, hbx⟩ : ∃ b, (pk d.rest == 120) = b := ⟨_, rfl⟩
  obtain ⟨B, f0, hB, hf, hf2, hnum⟩ : ∃ B f0, (bx = true ∧ B = 16 ∧ f0 = d.i + 1 ∨ bx = false ∧ B = 10 ∧ f0 = d.i) ∧ d.i ≤ f0 ∧ f0 ≤ d.cs.length ∧ Hid (number d.rest = numOf B (d.cs.drop f0)) := by
    rcases hr : d.rest with _ | ⟨c, q⟩
    · refine ⟨10, d.i, .inr ⟨by rw [← hbx, hr]; rfl, rfl, rfl⟩, Nat.le_refl _, hi, Lib.hid ?_⟩
      unfold Sd.rest at hr
      rw [hr]; rfl
    · obtain ⟨hlt, hq, hlen⟩ := rest_cons hr
      by_cases hc : c = 120
      · subst hc
        refine ⟨16, d.i + 1, .inl ⟨by rw [← hbx, hr]; rfl, rfl, rfl⟩, by omega, by omega, Lib.hid ?_⟩
        rw [hq]; rfl
      · refine ⟨10, d.i, .inr ⟨?_, rfl, rfl⟩, Nat.le_refl _, hi, Lib.hid ?_⟩
        · rw [← hbx, hr]; simp only [pk]; rw [beq_eq_false_iff_ne]; omega
        · unfold Sd.rest at hr
          rw [hr]
          unfold number
          split
          · rename_i e; cases e; exact absurd rfl hc
          · rfl
  have hB2 : B = 10 ∨ B = 16 := by omega
  go_enter Tryz.func110, Tryz.ntmps110
  go_wp2_with fail
  refine PK.mono ?_
  rintro e w1 ⟨rfl, hp1⟩
  have h1 := h.pur hp1
  have c1 := h1.c1
  have f1 := h1.f 1
  have ws : IntKind.i64.wrap ((d.i : Int) + 1) = (d.i : Int) + 1 := IntWalk.i64_in _ (by omega)
  have k2 := h1.seti (d.i + 1) ((d.i : Int) + 1) (by omega)
  have c2 := k2.c1
  rw [show ((d.i + 1 : Nat) : Int) = (d.i : Int) + 1 by omega] at c2
  obtain ⟨w2, hw2, hc2, hAt⟩ : ∃ w2, w2 = (if bx then w1.setCell ⟨p.s, 1, none⟩ (.int .i64 ((d.i : Int) + 1)) else w1) ∧ Chg [p.s] w w2 ∧ At w2 p { d with i := f0 } := by
    rcases hB with ⟨rfl, -, rfl⟩ | ⟨rfl, -, rfl⟩
    · exact ⟨_, rfl, (Chg.of_pur hp1).setCell (.inl (by simp)) _, k2⟩
    · exact ⟨_, rfl, Chg.of_pur hp1, h1⟩
  rcases hB with ⟨rfl, rfl, hf0⟩ | ⟨rfl, rfl, hf0⟩
  · simp only [if_true, if_false, Bool.false_eq_true] at hw2
    subst hw2
    clear PK
    go_wp2
    go_region
    go_wp2
    clear hbx c1 c2 f1
    go_loopw [4] (fun v wr => ∃ j n : Nat, v = .int .i64 (n : Int) ∧ n ≤ 1114112 ∧ f0 ≤ j ∧ j ≤ d.cs.length ∧ At wr p { d with i := j } ∧ Chg [p.s] w wr ∧ (j = f0 ∨ hd (fun c => c == 59) (d.cs.drop f0) = false) ∧ Hid (numGo 16 0 (d.cs.drop f0) = numGo 16 n (d.cs.drop j))) (fun _ wr => d.cs.length + 1 - natAt wr ⟨p.s, 1, none⟩)
    case atStart => exact ⟨f0, 0, rfl, by omega, by omega, hf2, hAt.pur ((Pur.refl _).drew), hc2.drew, .inl rfl, Lib.hid rfl⟩
    case round =>
      obtain ⟨j, n, rfl, hn, j1, j2, h3, h4, h5, H⟩ := hrel
      have PK : ∀ w', Pur wr w' → Calls Tryz.prog 45 #[.pointer (some ⟨p.s, 0, none⟩)] w' fun e w'' => e = .returned (.int .i64 (pk (d.cs.drop j))) ∧ Pur w' w'' := fun w' hp => peek_any (h3.pur hp)
      have hx := allowed_pk h3 j
      obtain ⟨x0, x1⟩ := pk_bd h3 j
      have e3 := h3.nat
      simp only at hx x0 x1
      have HX := Lib.hid (show pk (d.cs.drop j) = pk (d.cs.drop j) from rfl)
      generalize hpk : pk (d.cs.drop j) = x at *
      by_cases h59 : x = 59
      · subst h59
        have hj : j < d.cs.length := by
          rcases Nat.lt_or_ge j d.cs.length with g | g
          · exact g
          · rw [List.drop_of_length_le g] at hpk; cases hpk
        have hcons := drop_cons d.cs j hj
        have hc : d.cs.getD j 0 = 59 := by rw [hcons] at hpk; simp only [pk] at hpk; omega
        rw [hc] at hcons
        have hgo : numGo 16 0 (d.cs.drop f0) = some (n, d.cs.drop (j + 1)) := by rw [H.out, hcons, numGo, if_pos rfl]
        clear hcons H HX hpk
        have AL := fun w => allowed_any (n : Int) w (by omega)
        have hon : on allowed (n : Int) = allowed n := by simp [on]
        rw [hon] at AL
        by_cases hjf : j = f0
        · have hs := Lib.hid (show number d.rest = none by
            rw [hnum.out]
            unfold numOf
            rw [← hjf, drop_cons d.cs j hj]
            rw [if_pos (show hd (fun c => c == 59) (d.cs.getD j 0 :: d.cs.drop (j + 1)) = true by simp only [hd]; rw [hc]; rfl)])
          have d1 : ((j : Int) == ((d.i : Int) + 1)) = true := by simp; omega
          go_wp2_with fail
          refine (PK _ (Pur.refl _)).mono ?_
          rintro e w4 ⟨rfl, hp4⟩
          have k4 := h3.pur hp4
          have c1 := k4.c1
          simp only at c1
          go_wp2
          go_ret
          rw [hs.out]
          exact ⟨rfl, _, j, rfl, by omega, j2, k4, h4.pur hp4⟩
        · have hnf : hd (fun c => c == 59) (d.cs.drop f0) = false := h5.resolve_left hjf
          have d1 : ((j : Int) == ((d.i : Int) + 1)) = false := by simp; omega
          have hs := Lib.hid (show number d.rest = if allowed n || n == 13 then some (n, d.cs.drop (j + 1)) else none by
            rw [hnum.out]
            unfold numOf
            rw [hnf, hgo]
            simp)
          clear hgo hnf h5 hnum
          obtain ⟨b1, hb1⟩ : ∃ b, allowed n = b := ⟨_, rfl⟩
          obtain ⟨b2, hb2⟩ : ∃ b, ((n : Int) == 13) = b := ⟨_, rfl⟩
          have hb2' : (n == 13) = b2 := by rw [← hb2, Bool.eq_iff_iff]; simp; omega
          have hb3 : ((n : Int) != 13) = !b2 := by rw [bne, hb2]
          rw [hb1, hb2'] at hs
          rw [hb1] at AL
          have w1 : IntKind.i64.wrap ((j : Int) + 1) = (j : Int) + 1 := IntWalk.i64_in _ (by omega)
          rcases b1 with _ | _ <;> rcases b2 with _ | _
          all_goals
            simp only [Bool.not_true, Bool.not_false] at hb3
            simp only [Bool.or_true, Bool.or_false, Bool.or_self, Bool.true_or, Bool.false_or, if_true, if_false, Bool.false_eq_true] at hs
            go_wp2_with fail
            refine (PK _ (Pur.refl _)).mono ?_
            rintro e w4 ⟨rfl, hp4⟩
            have k4 := h3.pur hp4
            have c1 := k4.c1
            have f1 := k4.f 1
            have k5 := k4.seti (j + 1) ((j : Int) + 1) (by omega)
            simp only at c1
            go_wp2_with fail
            refine (AL _).mono ?_
            rintro e w5 ⟨rfl, rfl⟩
            go_wp2
            go_ret
            rw [hs.out]
          · exact ⟨rfl, _, j, rfl, by omega, j2, k4, h4.pur hp4⟩
          · exact ⟨rfl, j + 1, rfl, by omega, by omega, k5, (h4.pur hp4).setCell (.inl (by simp)) _⟩
          · exact ⟨rfl, j + 1, rfl, by omega, by omega, k5, (h4.pur hp4).setCell (.inl (by simp)) _⟩
          · exact ⟨rfl, j + 1, rfl, by omega, by omega, k5, (h4.pur hp4).setCell (.inl (by simp)) _⟩
      · have d59 : (x != 59) = true := by simpa using h59
        obtain ⟨r, D, hr1, hr2, IX, hD1, hD2⟩ := idx_pk x x0 x1
        obtain ⟨E, hE⟩ := dway 16 (by omega) x D x0 hx h59 hD1 hD2
        clear hD1 hD2
        have hnone : (∀ v q, x < 0 ∨ numGo 16 v (x.toNat :: q) = none) → number d.rest = none := fun hs => by
          have hg : numGo 16 0 (d.cs.drop f0) = none := by
            rw [H.out]
            cases hq : d.cs.drop j with
            | nil => rfl
            | cons c q =>
              rw [hq] at hpk
              simp only [pk] at hpk
              rcases hs n q with g | g
              · omega
              · rw [← hpk] at g; simpa using g
          rw [hnum.out]
          unfold numOf
          rw [hg]
          split <;> rfl
        rcases hE with ⟨hD, hno, hs⟩ | ⟨hE0, hge, hEE, hp0, hs⟩ | ⟨hE0, hlt, hEE, hp0, hl, hdig⟩
        · have HS := Lib.hid (hnone hs)
          clear hnone hs H HX hpk hnum h5 hx
          subst hD
          rcases (show x < 48 ∨ (48 ≤ x ∧ 57 < x) by omega) with g | ⟨g, g'⟩
          · have d1 : decide ((48 : Int) ≤ x) = false := by simp; omega
            clear hno
            go_wp2_with fail
            refine (PK _ (Pur.refl _)).mono ?_
            rintro e w4 ⟨rfl, hp4⟩
            go_wp2_with fail
            refine (PK _ hp4).mono ?_
            rintro e w5 ⟨rfl, hp5⟩
            go_wp2_with fail
            refine (IX _).mono ?_
            rintro e w6 ⟨rfl, hp6⟩
            have P6 := (hp4.trans hp5).trans hp6
            go_wp2_with fail
            refine (PK _ P6).mono ?_
            rintro e w7 ⟨rfl, hp7⟩
            have P7 := P6.trans hp7
            go_wp2
            go_ret
            rw [HS.out]
            exact ⟨rfl, _, j, rfl, by omega, j2, h3.pur P7, h4.pur P7⟩
          · have d1 : decide ((48 : Int) ≤ x) = true := by simp; omega
            have d2 : decide (x ≤ 57) = false := by simp; omega
            clear hno
            go_wp2_with fail
            refine (PK _ (Pur.refl _)).mono ?_
            rintro e w4 ⟨rfl, hp4⟩
            go_wp2_with fail
            refine (PK _ hp4).mono ?_
            rintro e w5 ⟨rfl, hp5⟩
            go_wp2_with fail
            refine (IX _).mono ?_
            rintro e w6 ⟨rfl, hp6⟩
            have P6 := (hp4.trans hp5).trans hp6
            go_wp2_with fail
            refine (PK _ P6).mono ?_
            rintro e w7 ⟨rfl, hp7⟩
            have P7 := P6.trans hp7
            go_wp2
            go_ret
            rw [HS.out]
            exact ⟨rfl, _, j, rfl, by omega, j2, h3.pur P7, h4.pur P7⟩
        · have HS := Lib.hid (hnone fun v q => .inr (hs v q))
          clear hnone hs H HX hpk hnum h5 hx
          have t1 : decide (E < 0) = false := by simp; omega
          have t2 : decide ((16 : Int) ≤ E) = true := by simp; omega
          obtain ⟨b1, hb1⟩ : ∃ b, decide ((48 : Int) ≤ x) = b := ⟨_, rfl⟩
          obtain ⟨b2, hb2⟩ : ∃ b, decide (x ≤ 57) = b := ⟨_, rfl⟩
          have hEb : E = if b1 && b2 then x - 48 else D := by rw [hEE, ← hb1, ← hb2]; by_cases g1 : 48 ≤ x <;> by_cases g2 : x ≤ 57 <;> simp [g1, g2]
          have ws48 : IntKind.i64.wrap (x - 48) = x - 48 := IntWalk.i64_in _ (by omega)
          clear hEE
          rcases b1 with _ | _ <;> rcases b2 with _ | _
          all_goals
            simp only [Bool.and_true, Bool.and_false, Bool.and_self, Bool.true_and, Bool.false_and, if_true, if_false, Bool.false_eq_true] at hEb
            subst hEb
            go_wp2_with fail
            refine (PK _ (Pur.refl _)).mono ?_
            rintro e w4 ⟨rfl, hp4⟩
            go_wp2_with fail
            refine (PK _ hp4).mono ?_
            rintro e w5 ⟨rfl, hp5⟩
            go_wp2_with fail
            refine (IX _).mono ?_
            rintro e w6 ⟨rfl, hp6⟩
            have P6 := (hp4.trans hp5).trans hp6
            go_wp2_with fail
            refine (PK _ P6).mono ?_
            rintro e w7 ⟨rfl, hp7⟩
            have P7 := P6.trans hp7
            go_wp2
            go_ret
            rw [HS.out]
            exact ⟨rfl, _, j, rfl, by omega, j2, h3.pur P7, h4.pur P7⟩
        · have hj : j < d.cs.length := by
            rcases Nat.lt_or_ge j d.cs.length with g | g
            · exact g
            · rw [List.drop_of_length_le g] at hpk; simp only [pk] at hpk; omega
          have hcons := drop_cons d.cs j hj
          have hxc : x = (d.cs.getD j 0 : Nat) := by rw [hcons] at hpk; exact hpk.symm
          have hgo : Hid (numGo 16 0 (d.cs.drop f0) = numGo 16 (min (n * 16 + dig x.toNat) 1114112) (d.cs.drop (j + 1))) := Lib.hid (by
            rw [H.out, hcons, numGo, hxc, Int.toNat_natCast, if_neg (by omega), if_pos (by rw [hxc, Int.toNat_natCast] at hdig; omega)])
          have h59' : j + 1 = f0 ∨ hd (fun c => c == 59) (d.cs.drop f0) = false := by
            rcases h5 with rfl | h5
            · refine .inr ?_
              rw [hcons]
              simp only [hd]
              rw [beq_eq_false_iff_ne]
              omega
            · exact .inr h5
          clear hnone H HX hpk hnum h5 hx hcons hxc
          generalize dig x.toNat = m at *
          have hmn : min ((n : Int) * 16 + E) 1114112 = ((min (n * 16 + m) 1114112 : Nat) : Int) := by omega
          have wsm : IntKind.i64.wrap ((n : Int) * 16) = (n : Int) * 16 := IntWalk.i64_in _ (by omega)
          have wsa : IntKind.i64.wrap ((n : Int) * 16 + E) = (n : Int) * 16 + E := IntWalk.i64_in _ (by omega)
          generalize min (n * 16 + m) 1114112 = n' at *
          have hn' : n' ≤ 1114112 := by omega
          clear hdig
          have t1 : decide (E < 0) = false := by simp; omega
          have t2 : decide ((16 : Int) ≤ E) = false := by simp; omega
          have t3 : decide (127 < x) = false := by simp; omega
          have w1 : IntKind.i64.wrap ((j : Int) + 1) = (j : Int) + 1 := IntWalk.i64_in _ (by omega)
          obtain ⟨b1, hb1⟩ : ∃ b, decide ((48 : Int) ≤ x) = b := ⟨_, rfl⟩
          obtain ⟨b2, hb2⟩ : ∃ b, decide (x ≤ 57) = b := ⟨_, rfl⟩
          have hEb : E = if b1 && b2 then x - 48 else D := by rw [hEE, ← hb1, ← hb2]; by_cases g1 : 48 ≤ x <;> by_cases g2 : x ≤ 57 <;> simp [g1, g2]
          have ws48 : IntKind.i64.wrap (x - 48) = x - 48 := IntWalk.i64_in _ (by omega)
          clear hEE
          rcases b1 with _ | _ <;> rcases b2 with _ | _
          all_goals
            simp only [Bool.and_true, Bool.and_false, Bool.and_self, Bool.true_and, Bool.false_and, if_true, if_false, Bool.false_eq_true] at hEb
            subst hEb
            go_wp2_with fail
            refine (PK _ (Pur.refl _)).mono ?_
            rintro e w4 ⟨rfl, hp4⟩
            go_wp2_with fail
            refine (PK _ hp4).mono ?_
            rintro e w5 ⟨rfl, hp5⟩
            go_wp2_with fail
            refine (IX _).mono ?_
            rintro e w6 ⟨rfl, hp6⟩
            have P6 := (hp4.trans hp5).trans hp6
            go_wp2_with fail
            refine (PK _ P6).mono ?_
            rintro e w7 ⟨rfl, hp7⟩
            have P7 := P6.trans hp7
            go_wp2_with fail
            refine (PK _ P7).mono ?_
            rintro e w8 ⟨rfl, hp8⟩
            have P8 := P7.trans hp8
            have k8 := h3.pur P8
            have c1 := k8.c1
            have f1 := k8.f 1
            have k9 := k8.seti (j + 1) ((j : Int) + 1) (by omega)
            have e9 := k9.nat
            simp only at c1
            go_wp2
            go_roundw
            case rel => exact ⟨j + 1, n', rfl, hn', by omega, by omega, k9, (h4.pur P8).setCell (.inl (by simp)) _, h59', hgo⟩
            case measure => rw [e3, e9]; omega
  · simp only [if_true, if_false, Bool.false_eq_true] at hw2
    subst hw2
    clear PK
    go_wp2
    go_region
    go_wp2
    clear hbx c1 c2 f1
    go_loopw [4] (fun v wr => ∃ j n : Nat, v = .int .i64 (n : Int) ∧ n ≤ 1114112 ∧ f0 ≤ j ∧ j ≤ d.cs.length ∧ At wr p { d with i := j } ∧ Chg [p.s] w wr ∧ (j = f0 ∨ hd (fun c => c == 59) (d.cs.drop f0) = false) ∧ Hid (numGo 10 0 (d.cs.drop f0) = numGo 10 n (d.cs.drop j))) (fun _ wr => d.cs.length + 1 - natAt wr ⟨p.s, 1, none⟩)
    case atStart => exact ⟨f0, 0, rfl, by omega, by omega, hf2, hAt.pur ((Pur.refl _).drew), hc2.drew, .inl rfl, Lib.hid rfl⟩
    case round =>
      obtain ⟨j, n, rfl, hn, j1, j2, h3, h4, h5, H⟩ := hrel
      have PK : ∀ w', Pur wr w' → Calls Tryz.prog 45 #[.pointer (some ⟨p.s, 0, none⟩)] w' fun e w'' => e = .returned (.int .i64 (pk (d.cs.drop j))) ∧ Pur w' w'' := fun w' hp => peek_any (h3.pur hp)
      have hx := allowed_pk h3 j
      obtain ⟨x0, x1⟩ := pk_bd h3 j
      have e3 := h3.nat
      simp only at hx x0 x1
      have HX := Lib.hid (show pk (d.cs.drop j) = pk (d.cs.drop j) from rfl)
      generalize hpk : pk (d.cs.drop j) = x at *
      by_cases h59 : x = 59
      · subst h59
        have hj : j < d.cs.length := by
          rcases Nat.lt_or_ge j d.cs.length with g | g
          · exact g
          · rw [List.drop_of_length_le g] at hpk; cases hpk
        have hcons := drop_cons d.cs j hj
        have hc : d.cs.getD j 0 = 59 := by rw [hcons] at hpk; simp only [pk] at hpk; omega
        rw [hc] at hcons
        have hgo : numGo 10 0 (d.cs.drop f0) = some (n, d.cs.drop (j + 1)) := by rw [H.out, hcons, numGo, if_pos rfl]
        clear hcons H HX hpk
        have AL := fun w => allowed_any (n : Int) w (by omega)
        have hon : on allowed (n : Int) = allowed n := by simp [on]
        rw [hon] at AL
        by_cases hjf : j = f0
        · have hs := Lib.hid (show number d.rest = none by
            rw [hnum.out]
            unfold numOf
            rw [← hjf, drop_cons d.cs j hj]
            rw [if_pos (show hd (fun c => c == 59) (d.cs.getD j 0 :: d.cs.drop (j + 1)) = true by simp only [hd]; rw [hc]; rfl)])
          have d1 : ((j : Int) == (d.i : Int)) = true := by simp; omega
          go_wp2_with fail
          refine (PK _ (Pur.refl _)).mono ?_
          rintro e w4 ⟨rfl, hp4⟩
          have k4 := h3.pur hp4
          have c1 := k4.c1
          simp only at c1
          go_wp2
          go_ret
          rw [hs.out]
          exact ⟨rfl, _, j, rfl, by omega, j2, k4, h4.pur hp4⟩
        · have hnf : hd (fun c => c == 59) (d.cs.drop f0) = false := h5.resolve_left hjf
          have d1 : ((j : Int) == (d.i : Int)) = false := by simp; omega
          have hs := Lib.hid (show number d.rest = if allowed n || n == 13 then some (n, d.cs.drop (j + 1)) else none by
            rw [hnum.out]
            unfold numOf
            rw [hnf, hgo]
            simp)
          clear hgo hnf h5 hnum
          obtain ⟨b1, hb1⟩ : ∃ b, allowed n = b := ⟨_, rfl⟩
          obtain ⟨b2, hb2⟩ : ∃ b, ((n : Int) == 13) = b := ⟨_, rfl⟩
          have hb2' : (n == 13) = b2 := by rw [← hb2, Bool.eq_iff_iff]; simp; omega
          have hb3 : ((n : Int) != 13) = !b2 := by rw [bne, hb2]
          rw [hb1, hb2'] at hs
          rw [hb1] at AL
          have w1 : IntKind.i64.wrap ((j : Int) + 1) = (j : Int) + 1 := IntWalk.i64_in _ (by omega)
          rcases b1 with _ | _ <;> rcases b2 with _ | _
          all_goals
            simp only [Bool.not_true, Bool.not_false] at hb3
            simp only [Bool.or_true, Bool.or_false, Bool.or_self, Bool.true_or, Bool.false_or, if_true, if_false, Bool.false_eq_true] at hs
            go_wp2_with fail
            refine (PK _ (Pur.refl _)).mono ?_
            rintro e w4 ⟨rfl, hp4⟩
            have k4 := h3.pur hp4
            have c1 := k4.c1
            have f1 := k4.f 1
            have k5 := k4.seti (j + 1) ((j : Int) + 1) (by omega)
            simp only at c1
            go_wp2_with fail
            refine (AL _).mono ?_
            rintro e w5 ⟨rfl, rfl⟩
            go_wp2
            go_ret
            rw [hs.out]
          · exact ⟨rfl, _, j, rfl, by omega, j2, k4, h4.pur hp4⟩
          · exact ⟨rfl, j + 1, rfl, by omega, by omega, k5, (h4.pur hp4).setCell (.inl (by simp)) _⟩
          · exact ⟨rfl, j + 1, rfl, by omega, by omega, k5, (h4.pur hp4).setCell (.inl (by simp)) _⟩
          · exact ⟨rfl, j + 1, rfl, by omega, by omega, k5, (h4.pur hp4).setCell (.inl (by simp)) _⟩
      · have d59 : (x != 59) = true := by simpa using h59
        obtain ⟨r, D, hr1, hr2, IX, hD1, hD2⟩ := idx_pk x x0 x1
        obtain ⟨E, hE⟩ := dway 10 (by omega) x D x0 hx h59 hD1 hD2
        clear hD1 hD2
        have hnone : (∀ v q, x < 0 ∨ numGo 10 v (x.toNat :: q) = none) → number d.rest = none := fun hs => by
          have hg : numGo 10 0 (d.cs.drop f0) = none := by
            rw [H.out]
            cases hq : d.cs.drop j with
            | nil => rfl
            | cons c q =>
              rw [hq] at hpk
              simp only [pk] at hpk
              rcases hs n q with g | g
              · omega
              · rw [← hpk] at g; simpa using g
          rw [hnum.out]
          unfold numOf
          rw [hg]
          split <;> rfl
        rcases hE with ⟨hD, hno, hs⟩ | ⟨hE0, hge, hEE, hp0, hs⟩ | ⟨hE0, hlt, hEE, hp0, hl, hdig⟩
        · have HS := Lib.hid (hnone hs)
          clear hnone hs H HX hpk hnum h5 hx
          subst hD
          rcases (show x < 48 ∨ (48 ≤ x ∧ 57 < x) by omega) with g | ⟨g, g'⟩
          · have d1 : decide ((48 : Int) ≤ x) = false := by simp; omega
            clear hno
            go_wp2_with fail
            refine (PK _ (Pur.refl _)).mono ?_
            rintro e w4 ⟨rfl, hp4⟩
            go_wp2_with fail
            refine (PK _ hp4).mono ?_
            rintro e w5 ⟨rfl, hp5⟩
            go_wp2_with fail
            refine (IX _).mono ?_
            rintro e w6 ⟨rfl, hp6⟩
            have P6 := (hp4.trans hp5).trans hp6
            go_wp2_with fail
            refine (PK _ P6).mono ?_
            rintro e w7 ⟨rfl, hp7⟩
            have P7 := P6.trans hp7
            go_wp2
            go_ret
            rw [HS.out]
            exact ⟨rfl, _, j, rfl, by omega, j2, h3.pur P7, h4.pur P7⟩
          · have d1 : decide ((48 : Int) ≤ x) = true := by simp; omega
            have d2 : decide (x ≤ 57) = false := by simp; omega
            clear hno
            go_wp2_with fail
            refine (PK _ (Pur.refl _)).mono ?_
            rintro e w4 ⟨rfl, hp4⟩
            go_wp2_with fail
            refine (PK _ hp4).mono ?_
            rintro e w5 ⟨rfl, hp5⟩
            go_wp2_with fail
            refine (IX _).mono ?_
            rintro e w6 ⟨rfl, hp6⟩
            have P6 := (hp4.trans hp5).trans hp6
            go_wp2_with fail
            refine (PK _ P6).mono ?_
            rintro e w7 ⟨rfl, hp7⟩
            have P7 := P6.trans hp7
            go_wp2
            go_ret
            rw [HS.out]
            exact ⟨rfl, _, j, rfl, by omega, j2, h3.pur P7, h4.pur P7⟩
        · have HS := Lib.hid (hnone fun v q => .inr (hs v q))
          clear hnone hs H HX hpk hnum h5 hx
          have t1 : decide (E < 0) = false := by simp; omega
          have t2 : decide ((10 : Int) ≤ E) = true := by simp; omega
          obtain ⟨b1, hb1⟩ : ∃ b, decide ((48 : Int) ≤ x) = b := ⟨_, rfl⟩
          obtain ⟨b2, hb2⟩ : ∃ b, decide (x ≤ 57) = b := ⟨_, rfl⟩
          have hEb : E = if b1 && b2 then x - 48 else D := by rw [hEE, ← hb1, ← hb2]; by_cases g1 : 48 ≤ x <;> by_cases g2 : x ≤ 57 <;> simp [g1, g2]
          have ws48 : IntKind.i64.wrap (x - 48) = x - 48 := IntWalk.i64_in _ (by omega)
          clear hEE
          rcases b1 with _ | _ <;> rcases b2 with _ | _
          all_goals
            simp only [Bool.and_true, Bool.and_false, Bool.and_self, Bool.true_and, Bool.false_and, if_true, if_false, Bool.false_eq_true] at hEb
            subst hEb
            go_wp2_with fail
            refine (PK _ (Pur.refl _)).mono ?_
            rintro e w4 ⟨rfl, hp4⟩
            go_wp2_with fail
            refine (PK _ hp4).mono ?_
            rintro e w5 ⟨rfl, hp5⟩
            go_wp2_with fail
            refine (IX _).mono ?_
            rintro e w6 ⟨rfl, hp6⟩
            have P6 := (hp4.trans hp5).trans hp6
            go_wp2_with fail
            refine (PK _ P6).mono ?_
            rintro e w7 ⟨rfl, hp7⟩
            have P7 := P6.trans hp7
            go_wp2
            go_ret
            rw [HS.out]
            exact ⟨rfl, _, j, rfl, by omega, j2, h3.pur P7, h4.pur P7⟩
        · have hj : j < d.cs.length := by
            rcases Nat.lt_or_ge j d.cs.length with g | g
            · exact g
            · rw [List.drop_of_length_le g] at hpk; simp only [pk] at hpk; omega
          have hcons := drop_cons d.cs j hj
          have hxc : x = (d.cs.getD j 0 : Nat) := by rw [hcons] at hpk; exact hpk.symm
          have hgo : Hid (numGo 10 0 (d.cs.drop f0) = numGo 10 (min (n * 10 + dig x.toNat) 1114112) (d.cs.drop (j + 1))) := Lib.hid (by
            rw [H.out, hcons, numGo, hxc, Int.toNat_natCast, if_neg (by omega), if_pos (by rw [hxc, Int.toNat_natCast] at hdig; omega)])
          have h59' : j + 1 = f0 ∨ hd (fun c => c == 59) (d.cs.drop f0) = false := by
            rcases h5 with rfl | h5
            · refine .inr ?_
              rw [hcons]
              simp only [hd]
              rw [beq_eq_false_iff_ne]
              omega
            · exact .inr h5
          clear hnone H HX hpk hnum h5 hx hcons hxc
          generalize dig x.toNat = m at *
          have hmn : min ((n : Int) * 10 + E) 1114112 = ((min (n * 10 + m) 1114112 : Nat) : Int) := by omega
          have wsm : IntKind.i64.wrap ((n : Int) * 10) = (n : Int) * 10 := IntWalk.i64_in _ (by omega)
          have wsa : IntKind.i64.wrap ((n : Int) * 10 + E) = (n : Int) * 10 + E := IntWalk.i64_in _ (by omega)
          generalize min (n * 10 + m) 1114112 = n' at *
          have hn' : n' ≤ 1114112 := by omega
          clear hdig
          have t1 : decide (E < 0) = false := by simp; omega
          have t2 : decide ((10 : Int) ≤ E) = false := by simp; omega
          have t3 : decide (127 < x) = false := by simp; omega
          have w1 : IntKind.i64.wrap ((j : Int) + 1) = (j : Int) + 1 := IntWalk.i64_in _ (by omega)
          obtain ⟨b1, hb1⟩ : ∃ b, decide ((48 : Int) ≤ x) = b := ⟨_, rfl⟩
          obtain ⟨b2, hb2⟩ : ∃ b, decide (x ≤ 57) = b := ⟨_, rfl⟩
          have hEb : E = if b1 && b2 then x - 48 else D := by rw [hEE, ← hb1, ← hb2]; by_cases g1 : 48 ≤ x <;> by_cases g2 : x ≤ 57 <;> simp [g1, g2]
          have ws48 : IntKind.i64.wrap (x - 48) = x - 48 := IntWalk.i64_in _ (by omega)
          clear hEE
          rcases b1 with _ | _ <;> rcases b2 with _ | _
          all_goals
            simp only [Bool.and_true, Bool.and_false, Bool.and_self, Bool.true_and, Bool.false_and, if_true, if_false, Bool.false_eq_true] at hEb
            subst hEb
            go_wp2_with fail
            refine (PK _ (Pur.refl _)).mono ?_
            rintro e w4 ⟨rfl, hp4⟩
            go_wp2_with fail
            refine (PK _ hp4).mono ?_
            rintro e w5 ⟨rfl, hp5⟩
            go_wp2_with fail
            refine (IX _).mono ?_
            rintro e w6 ⟨rfl, hp6⟩
            have P6 := (hp4.trans hp5).trans hp6
            go_wp2_with fail
            refine (PK _ P6).mono ?_
            rintro e w7 ⟨rfl, hp7⟩
            have P7 := P6.trans hp7
            go_wp2_with fail
            refine (PK _ P7).mono ?_
            rintro e w8 ⟨rfl, hp8⟩
            have P8 := P7.trans hp8
            have k8 := h3.pur P8
            have c1 := k8.c1
            have f1 := k8.f 1
            have k9 := k8.seti (j + 1) ((j : Int) + 1) (by omega)
            have e9 := k9.nat
            simp only at c1
            go_wp2
            go_roundw
            case rel => exact ⟨j + 1, n', rfl, hn', by omega, by omega, k9, (h4.pur P8).setCell (.inl (by simp)) _, h59', hgo⟩
            case measure => rw [e3, e9]; omega
end Tk
end Go.Proofs.YtigfcchblfnnbaaGreatDoor
namespace Go.Proofs.YtigfcchblfnnbaaGreatDoor
open Go Go.RowKit
set_option linter.all false
namespace Tk
theorem wpList_insert_own {H : Type} {P : Program} (w : World) {ops : Array Oper} {rest : List Oper} {o : Oper} {a : Act} {Q : Exit → Act → World → Prop}
    (hg : o.guard = none) (m x v : Operand) (t : TypeId) (hop : o.op = Op.insert t m x v)
    (k e : TypeId) (K : Maps.Keyed P k) (ht : P.underlying t = some (.map k e)) (R : Value → Option (DataW H × List MemPlace)) (b n : Nat) (D : DataW H)
    (hm : a.eval m = .map (some b)) (hown : w.ownsMap P k R b n D) (hn : n < maxLen) (key val : Value) (kl : Lit) (hx : a.eval x = key) (hv : a.eval v = val) (hkey : Go.keyOf P k key = some kl)
    (d : DataW H) (ps : List MemPlace) (hval : R val = some (d, ps))
    (hK : ∀ w', w'.ownsMap P k R b (n + 1) (D.put kl d) → w.grownBy w' (some b) → wpList P ops Q rest (a.put o.dst undef) w') :
    wpList P ops Q (o :: rest) a w := by
  refine wpList_plain hg fun K' hK' => ?_
  obtain ⟨w', hrun, r1, r2⟩ := hown.update K ht hn hkey hval
  unfold Oper.wp
  simp [execOp, hop, hm, hx, hv, hrun, Result.andThen]
  exact hK' _ _ (hK w' r1 r2)
@[go_sem] theorem run_mk {P : Program} (t : TypeId) (w : World) : (Instr.makeMap t none).run P w = .ok (.map (some w.heap.size)) (w.alloc (.map #[] 0)) := run_makeMap t w
theorem key_lit {k : List UInt8} (h : k.length ≤ maxLen) : Go.keyOf Tryz.prog 9 (.string ⟨k.toArray⟩) = some (.string k) :=
  Go.WideMaps.keyOf_string_mk Tryz.underlying9 (by show k.toArray.size ≤ maxLen; simpa using h)
theorem str_law : Go.Maps.Keyed Tryz.prog 9 := Go.Maps.string_keyed Tryz.underlying9
theorem str_inv : ∀ key kl, Go.keyOf Tryz.prog 9 key = some kl → ∃ x : ByteArray, key = .string x := by
  intro key kl h
  cases key <;> simp [Go.keyOf, Tryz.underlying9, mapKey] at h
  exact ⟨_, rfl⟩
theorem str_key {l : List UInt8} {kl : Lit} (h : Go.keyOf Tryz.prog 9 (.string ⟨l.toArray⟩) = some kl) : kl = .string l := by
  simp [Go.keyOf, Tryz.underlying9, mapKey] at h
  exact h.2.symm
def D5 : DataW Unit := DataW.map [(.string [38, 97, 109, 112, 59], .lit (.int .i64 38)), (.string [38, 97, 112, 111, 115, 59], .lit (.int .i64 39)), (.string [38, 103, 116, 59], .lit (.int .i64 62)), (.string [38, 108, 116, 59], .lit (.int .i64 60)), (.string [38, 113, 117, 111, 116, 59], .lit (.int .i64 34))]
theorem D5_eq : (((((DataW.map []).put (.string [38, 108, 116, 59]) (.lit (.int .i64 60))).put (.string [38, 103, 116, 59]) (.lit (.int .i64 62))).put (.string [38, 97, 109, 112, 59]) (.lit (.int .i64 38))).put (.string [38, 113, 117, 111, 116, 59]) (.lit (.int .i64 34))).put (.string [38, 97, 112, 111, 115, 59]) (.lit (.int .i64 39)) = D5 := rfl
def names5 : List (List UInt8 × Nat) := [([38, 108, 116, 59], 60), ([38, 103, 116, 59], 62), ([38, 97, 109, 112, 59], 38), ([38, 113, 117, 111, 116, 59], 34), ([38, 97, 112, 111, 115, 59], 39)]
theorem D5_at (l : List UInt8) (h : Maps.has D5 (.string l) = true) : ∃ c, (l, c) ∈ names5 ∧ ∀ zd, D5.atKey (.string l) zd = .lit (.int .i64 ((c : Nat) : Int)) := by
  simp only [Maps.has, D5, List.any_cons, List.any_nil, Lit.sameKey, Bool.or_eq_true, beq_iff_eq, Bool.or_false] at h
  rcases h with h | h | h | h | h
  · obtain rfl := h
    exact ⟨38, by simp [names5], fun _ => rfl⟩
  · obtain rfl := h
    exact ⟨39, by simp [names5], fun _ => rfl⟩
  · obtain rfl := h
    exact ⟨62, by simp [names5], fun _ => rfl⟩
  · obtain rfl := h
    exact ⟨60, by simp [names5], fun _ => rfl⟩
  · obtain rfl := h
    exact ⟨34, by simp [names5], fun _ => rfl⟩
theorem D5_has (l : List UInt8) (c : Nat) (h : (l, c) ∈ names5) : Maps.has D5 (.string l) = true := by
  simp only [names5, List.mem_cons, Prod.mk.injEq, List.not_mem_nil, or_false] at h
  rcases h with ⟨rfl, -⟩ | ⟨rfl, -⟩ | ⟨rfl, -⟩ | ⟨rfl, -⟩ | ⟨rfl, -⟩ <;> rfl
theorem pre_two {t : List Nat} {xs : Cs} (h : pre t xs = true) (n : Nat) (hn : n < t.length) : xs[n]? = t[n]? := by
  simp only [pre, decide_eq_true_eq] at h
  rw [← h, List.getElem?_take_of_lt hn]
theorem ref_hit (l : List UInt8) (c : Nat) (xs : Cs) (h : (l, c) ∈ names5) (hp : pre (nats l) xs = true) : reference xs = .ok (c, xs.drop l.length) := by
  simp only [names5, List.mem_cons, Prod.mk.injEq, List.not_mem_nil, or_false] at h
  have h1 := pre_two hp
  have no : ∀ t n, (n < t.length) → (n < l.length) → t[n]? ≠ (nats l)[n]? → pre t xs = false := fun t n hn hn' hne => by
    rw [Bool.eq_false_iff]
    intro hq
    exact hne ((pre_two hq n hn).symm.trans (h1 n (by simpa [nats] using hn')))
  unfold reference
  rcases h with ⟨rfl, rfl⟩ | ⟨rfl, rfl⟩ | ⟨rfl, rfl⟩ | ⟨rfl, rfl⟩ | ⟨rfl, rfl⟩
  · rw [if_pos (show pre tLt xs = true from hp)]; rfl
  · rw [if_neg (by rw [no tLt 1 (by decide) (by decide) (by decide)]; simp), if_pos (show pre tGt xs = true from hp)]; rfl
  · rw [if_neg (by rw [no tLt 1 (by decide) (by decide) (by decide)]; simp), if_neg (by rw [no tGt 1 (by decide) (by decide) (by decide)]; simp), if_pos (show pre tAmp xs = true from hp)]; rfl
  · rw [if_neg (by rw [no tLt 1 (by decide) (by decide) (by decide)]; simp), if_neg (by rw [no tGt 1 (by decide) (by decide) (by decide)]; simp), if_neg (by rw [no tAmp 1 (by decide) (by decide) (by decide)]; simp), if_pos (show pre tQuot xs = true from hp)]; rfl
  · rw [if_neg (by rw [no tLt 1 (by decide) (by decide) (by decide)]; simp), if_neg (by rw [no tGt 1 (by decide) (by decide) (by decide)]; simp), if_neg (by rw [no tAmp 2 (by decide) (by decide) (by decide)]; simp), if_neg (by rw [no tQuot 1 (by decide) (by decide) (by decide)]; simp), if_pos (show pre tApos xs = true from hp)]; rfl
theorem ref_miss (xs : Cs) (h : ∀ l c, (l, c) ∈ names5 → pre (nats l) xs = false) : reference xs = if pre [38, 35] xs then (match number (xs.drop 2) with | some x => .ok x | none => .error (xs.length, 22)) else .error (xs.length, 22) := by
  have h1 : pre tLt xs = false := h [38, 108, 116, 59] 60 (by simp [names5])
  have h2 : pre tGt xs = false := h [38, 103, 116, 59] 62 (by simp [names5])
  have h3 : pre tAmp xs = false := h [38, 97, 109, 112, 59] 38 (by simp [names5])
  have h4 : pre tQuot xs = false := h [38, 113, 117, 111, 116, 59] 34 (by simp [names5])
  have h5 : pre tApos xs = false := h [38, 97, 112, 111, 115, 59] 39 (by simp [names5])
  unfold reference
  rw [h1, h2, h3, h4, h5]
  rfl
theorem names5_len {l : List UInt8} {c : Nat} (h : (l, c) ∈ names5) : l.length ≤ 6 ∧ 0 < l.length := by
  simp only [names5, List.mem_cons, Prod.mk.injEq, List.not_mem_nil, or_false] at h
  rcases h with ⟨rfl, -⟩ | ⟨rfl, -⟩ | ⟨rfl, -⟩ | ⟨rfl, -⟩ | ⟨rfl, -⟩ <;> decide
set_option maxRecDepth 100000 in
set_option maxHeartbeats 16000000 in
theorem reference_any {w : World} {p : Pl} {d : Sd} (h : At w p d) (hi : d.i ≤ d.cs.length) : Calls Tryz.prog 85 #[.pointer (some ⟨p.s, 0, none⟩)] w fun e w' => Gives p d w (reference d.rest) (fun c => .int .i64 (c : Int)) e w' := by
  have hcl := h.clen
  have c1 := h.c1
  have own0 := World.ownsMap_made w Tryz.prog 9 (plainElem (H := Unit) Tryz.prog 3)
  go_enter Tryz.func85, Tryz.ntmps85
  go_wp2_with (refine wpList_insert_own _ rfl _ _ _ 112 rfl 9 3 str_law Tryz.underlying112 (plainElem Tryz.prog 3) _ 0 _ rfl own0 (by unfold maxLen; omega) (.string ⟨#[38, 108, 116, 59]⟩) (.int .i64 60) (.string [38, 108, 116, 59]) rfl rfl (key_lit (k := [38, 108, 116, 59]) (by unfold maxLen; decide)) (.lit (.int .i64 60)) [] (plainElem_int Tryz.underlying3 (by decide)) ?_)
  intro m1 own1 gr1
  go_wp2_with (refine wpList_insert_own _ rfl _ _ _ 112 rfl 9 3 str_law Tryz.underlying112 (plainElem Tryz.prog 3) _ 1 _ rfl own1 (by unfold maxLen; omega) (.string ⟨#[38, 103, 116, 59]⟩) (.int .i64 62) (.string [38, 103, 116, 59]) rfl rfl (key_lit (k := [38, 103, 116, 59]) (by unfold maxLen; decide)) (.lit (.int .i64 62)) [] (plainElem_int Tryz.underlying3 (by decide)) ?_)
  intro m2 own2 gr2
  go_wp2_with (refine wpList_insert_own _ rfl _ _ _ 112 rfl 9 3 str_law Tryz.underlying112 (plainElem Tryz.prog 3) _ 2 _ rfl own2 (by unfold maxLen; omega) (.string ⟨#[38, 97, 109, 112, 59]⟩) (.int .i64 38) (.string [38, 97, 109, 112, 59]) rfl rfl (key_lit (k := [38, 97, 109, 112, 59]) (by unfold maxLen; decide)) (.lit (.int .i64 38)) [] (plainElem_int Tryz.underlying3 (by decide)) ?_)
  intro m3 own3 gr3
  go_wp2_with (refine wpList_insert_own _ rfl _ _ _ 112 rfl 9 3 str_law Tryz.underlying112 (plainElem Tryz.prog 3) _ 3 _ rfl own3 (by unfold maxLen; omega) (.string ⟨#[38, 113, 117, 111, 116, 59]⟩) (.int .i64 34) (.string [38, 113, 117, 111, 116, 59]) rfl rfl (key_lit (k := [38, 113, 117, 111, 116, 59]) (by unfold maxLen; decide)) (.lit (.int .i64 34)) [] (plainElem_int Tryz.underlying3 (by decide)) ?_)
  intro m4 own4 gr4
  go_wp2_with (refine wpList_insert_own _ rfl _ _ _ 112 rfl 9 3 str_law Tryz.underlying112 (plainElem Tryz.prog 3) _ 4 _ rfl own4 (by unfold maxLen; omega) (.string ⟨#[38, 97, 112, 111, 115, 59]⟩) (.int .i64 39) (.string [38, 97, 112, 111, 115, 59]) rfl rfl (key_lit (k := [38, 97, 112, 111, 115, 59]) (by unfold maxLen; decide)) (.lit (.int .i64 39)) [] (plainElem_int Tryz.underlying3 (by decide)) ?_)
  intro m5 own5 gr5
  have G5 : Pur w m5 := by
    have b0 : Below w.heap.size w (w.alloc (.map #[] 0)) := (Pur.refl w).alloc _
    exact ((((b0.grown gr1 b0.size (fun k hk => by cases hk; exact Nat.le_refl _)).grown gr2 (Nat.le_trans b0.size gr1.size) (fun k hk => by cases hk; exact Nat.le_refl _)).grown gr3 (Nat.le_trans (Nat.le_trans b0.size gr1.size) gr2.size) (fun k hk => by cases hk; exact Nat.le_refl _)).grown gr4 (Nat.le_trans (Nat.le_trans (Nat.le_trans b0.size gr1.size) gr2.size) gr3.size) (fun k hk => by cases hk; exact Nat.le_refl _)).grown gr5 (Nat.le_trans (Nat.le_trans (Nat.le_trans (Nat.le_trans b0.size gr1.size) gr2.size) gr3.size) gr4.size) (fun k hk => by cases hk; exact Nat.le_refl _)
  rw [D5_eq] at own5
  clear own0 own1 own2 own3 own4 gr1 gr2 gr3 gr4 gr5
  go_wp2_with (at_range; refine wpList_range_own _ rfl _ 112 rfl 9 3 str_law Tryz.underlying112 _ _ _ D5 rfl own5 ?_)
  intro w0 hrg0 hg0 hs0
  have G0 : Pur w w0 := G5.grown hg0 G5.size (fun k hk => by cases hk)
  have hr0 : w.heap.size ≤ m5.heap.size := G5.size
  go_wp2
  generalize m5.heap.size = r at *
  clear own5 G5 hg0 hs0
  go_loopw [4] (fun _ wr => ∃ left cnt, wr.ranges Tryz.prog 9 (plainElem Tryz.prog 3) w.heap.size r 5 D5 left cnt ∧ Pur w wr ∧ Hid (∀ l c, (l, c) ∈ names5 → left (.string l) = false → pre (nats l) d.rest = false) ∧ Hid (∀ kl, left kl = true → Maps.has D5 kl = true)) (fun _ wr => wr.rangeLeft w.heap.size r)
  case atStart => exact ⟨_, _, hrg0, G0, Lib.hid (fun l c hm hf => by rw [D5_has l c hm] at hf; cases hf), Lib.hid fun _ h => h⟩
  case round =>
    obtain ⟨left, cnt, hrg, hpr, HN, HL⟩ := hrel
    have hro := hrg.left_eq
    go_wp2_with (at_next; refine wpList_next_ranges _ rfl _ rfl 9 str_law (plainElem Tryz.prog 3) (fun s : ByteArray => Value.string s) (Value.int .i64) str_inv (fun v y hy => by obtain ⟨c, rfl, _⟩ := plainElem_int_inv Tryz.underlying3 hy; exact ⟨c, rfl⟩) w.heap.size r 5 D5 left cnt rfl hrg ?_ ?_)
    · intro _ hl0
      have HM := Lib.hid (ref_miss d.rest (fun l c hm => HN.out l c hm (hl0 _)))
      have h1 := h.pur hpr
      have AT := at_any h1 [38, 35] hi (by decide)
      have c1 := h1.c1
      have f1 := h1.f 1
      have en : nats [38, 35] = [38, 35] := rfl
      rw [en] at AT
      clear HN HL hro hl0 hrg hrg0 G0
      rcases hp : pre [38, 35] d.rest with _ | _
      · rw [hp] at AT
        have HS := Lib.hid (show reference d.rest = .error (d.rest.length, 22) by rw [HM.out, hp]; rfl)
        clear HM
        go_wp2_with fail
        refine AT.mono ?_
        rintro e w2 ⟨rfl, hp2⟩
        go_wp2_with fail
        refine (fail_any (h1.pur hp2) [p.s] d.i 22 (by omega)).mono ?_
        intro e w6 hf
        obtain ⟨b, rfl, hf2⟩ := id hf
        go_wp2
        refine ⟨rfl, ?_⟩
        rw [HS.out]
        simp only [Gives]
        rw [rest_len, show d.cs.length - (d.cs.length - d.i) = d.i by omega]
        exact Flt.after (Chg.of_pur (hpr.trans hp2)) hf
      · rw [hp] at AT
        have hlen := pre_len hp
        rw [rest_len] at hlen
        simp only [List.length_cons, List.length_nil] at hlen
        have HS := Lib.hid (show reference d.rest = (match number (d.rest.drop 2) with | some x => .ok x | none => .error (d.rest.length, 22)) by rw [HM.out, hp]; rfl)
        have w1 : IntKind.i64.wrap ((d.i : Int) + 2) = (d.i : Int) + 2 := IntWalk.i64_in _ (by omega)
        have hd2 : d.rest.drop 2 = ({ d with i := d.i + 2 } : Sd).rest := by unfold Sd.rest; rw [List.drop_drop]
        clear HM
        go_wp2_with fail
        refine AT.mono ?_
        rintro e w2 ⟨rfl, hp2⟩
        have h2 := h1.pur hp2
        have c1 := h2.c1
        have f1 := h2.f 1
        have h3 := h2.seti (d.i + 2) ((d.i : Int) + 2) (by omega)
        have g3 : Chg [p.s] w (w2.setCell ⟨p.s, 1, none⟩ (.int .i64 ((d.i : Int) + 2))) := (Chg.of_pur (hpr.trans hp2)).setCell (.inl (by simp)) _
        have NU := number_any h3 (by simp only; omega)
        rw [← hd2] at NU
        rcases hn : number (d.rest.drop 2) with _ | ⟨v, q⟩
        · rw [hn] at HS NU
          simp only at HS
          go_wp2_with fail
          refine NU.mono ?_
          rintro e w4 ⟨rfl, q, j, e1, e2, e3, h4, g4⟩
          simp only at h4
          go_wp2_with fail
          refine (fail_any h4 [p.s] d.i 22 (by omega)).mono ?_
          intro e w6 hf
          obtain ⟨b, rfl, hf2⟩ := id hf
          go_wp2
          refine ⟨rfl, ?_⟩
          rw [HS.out]
          simp only [Gives]
          rw [rest_len, show d.cs.length - (d.cs.length - d.i) = d.i by omega]
          exact Flt.after (g3.trans g4) hf
        · rw [hn] at HS NU
          simp only at HS
          have dv : decide ((0 : Int) ≤ (v : Int)) = true := by simp
          go_wp2_with fail
          refine NU.mono ?_
          rintro e w4 ⟨rfl, j, e1, e2, e3, h4, g4⟩
          simp only at h4 e1 e2 e3
          go_wp2
          go_ret
          rw [HS.out]
          exact ⟨rfl, j, e1, by omega, e3, h4, g3.trans g4⟩
    · intro x c kl y yp w2 cnt' hkey hlk hv hat hrg2 hlt hg2 hs2 hen
      obtain ⟨l, rfl⟩ : ∃ l : List UInt8, x = ⟨l.toArray⟩ := ⟨x.data.toList, by simp⟩
      obtain rfl : kl = .string l := str_key hkey
      obtain ⟨c', hm, hc'⟩ := D5_at l (HL.out _ hlk)
      obtain ⟨c2, hc2, hy, -⟩ := plainElem_int_inv Tryz.underlying3 hv
      cases hc2
      have hcc : c = (c' : Int) := by
        have := (hat (.lit (.int .i64 0))).symm.trans (hc' _)
        obtain ⟨rfl, rfl⟩ := Prod.mk.inj hy
        simpa using this
      subst hcc
      clear hat hv hy hc'
      have hp2 : Pur w w2 := hpr.grown hg2 hpr.size (fun k hk => by cases hk; exact hr0)
      have hrd := hrg2.left_eq
      obtain ⟨l6, l0⟩ := names5_len hm
      have h2 := h.pur hp2
      have AT := at_any h2 l hi (by omega)
      rcases hp : pre (nats l) d.rest with _ | _
      · rw [hp] at AT
        have HN' := Lib.hid (show ∀ l' c', (l', c') ∈ names5 → ((fun z : Lit => left z && !z.sameKey (.string l)) (.string l')) = false → pre (nats l') d.rest = false from fun l' c' hm' hf => by
          simp only [Bool.and_eq_false_iff, Bool.not_eq_false', Lit.sameKey, beq_iff_eq] at hf
          rcases hf with hf | rfl
          · exact HN.out l' c' hm' hf
          · exact hp)
        have HL' := Lib.hid (show ∀ kl, (fun z : Lit => left z && !z.sameKey (.string l)) kl = true → Maps.has D5 kl = true from fun kl hf => by
          simp only [Bool.and_eq_true] at hf
          exact HL.out kl hf.1)
        clear HN HL hrg0 G0 hrg hm
        go_wp2_with fail
        refine AT.mono ?_
        rintro e w4 ⟨rfl, hp4⟩
        have hrg4 := hrg2.kept (w' := w4) (row := none) ⟨hp4.os, hp4.tape, hp4.output, hp4.size, fun i hi _ => hp4.block i hi⟩ (by simp) (by simp)
        have hrd4 := hrg4.left_eq
        go_wp2
        go_roundw
        case rel => exact ⟨_, _, hrg4, hp2.trans hp4, HN', HL'⟩
        case measure => rw [hrd4, hro]; omega
      · rw [hp] at AT
        have hlen := pre_len hp
        rw [rest_len] at hlen
        have en : (nats l).length = l.length := by simp [nats]
        rw [en] at hlen
        have HS := Lib.hid (ref_hit l c' d.rest hm hp)
        have w1 : IntKind.i64.wrap ((d.i : Int) + (l.length : Int)) = (d.i : Int) + (l.length : Int) := IntWalk.i64_in _ (by omega)
        clear HN HL hrg0 G0 hrg hm
        go_wp2_with fail
        refine AT.mono ?_
        rintro e w4 ⟨rfl, hp4⟩
        have h4 := h2.pur hp4
        have c1 := h4.c1
        have f1 := h4.f 1
        have h5 := h4.seti (d.i + l.length) ((d.i : Int) + (l.length : Int)) (by omega)
        go_wp2
        go_ret
        rw [HS.out]
        exact ⟨rfl, d.i + l.length, by unfold Sd.rest; rw [List.drop_drop], by omega, by omega, h5, (Chg.of_pur (hp2.trans hp4)).setCell (.inl (by simp)) _⟩
end Tk
end Go.Proofs.YtigfcchblfnnbaaGreatDoor
namespace Go.Proofs.YtigfcchblfnnbaaGreatDoor
open Go Go.RowKit
set_option linter.all false
namespace Tk
theorem int_info : (Tryz.prog.info? 3).map (fun i => (i.zero, i.size, i.bytes)) = some (some (.int .i64 0), 1, 8) := by kernel_rfl
theorem ints_one (u : Value) (acc : Cs) (h : u ∈ ints acc) : u.oneCell' = true := by
  obtain ⟨c, -, rfl⟩ := List.mem_map.1 h
  rfl
/-- append of one number that lies in a block of its own, just made -/
theorem append_int {ops : Array Oper} {rest : List Oper} {o : Oper} {a : Act} {Q : Exit → Act → World → Prop} (w0 : World) (hg : o.guard = none) (s x : Operand)
    (hop : o.op = .call { callee := .builtin .append, args := #[s, x], argTypes := #[85, 85] }) (B : Nat) (v : Value) (acc : Cs) (c : Nat) (e : TypeId) (f : Nat × Nat) (y : Int) (hy : y = (c : Int))
    (hs : a.eval s = v) (hx : a.eval x = .slice (some ⟨w0.heap.size, 0, none⟩) 1 1) (hown : w0.ownsRow B 3 1 v acc.length (ints acc)) (hlen : acc.length ≤ 1000000) (hB : B ≤ w0.heap.size)
    (h : ∀ v' w', w'.ownsRow B 3 1 v' (acc ++ [c]).length (ints (acc ++ [c])) → (w0.alloc (.cells #[.int .i64 y] e f)).grownBy w' v.ownBlock → wpList Tryz.prog ops Q rest (a.put o.dst v') w') :
    wpList Tryz.prog ops Q (o :: rest) a (w0.alloc (.cells #[.int .i64 y] e f)) := by
  subst hy
  obtain ⟨i0, hi, hz0, hz1, hz2⟩ := info_parts int_info
  refine wpList_append_own _ hg s x 85 hop B 3 i0 (.int .i64 0) 1 8 Tryz.underlying85 hi hz0 hz1 hz2 rfl (by decide) v acc.length (ints acc) hs ?_ ⟨w0.heap.size, 0, none⟩ 1 1 [.int .i64 (c : Int)] hx rfl ?_ ?_ ?_ ?_ ?_ ?_
  · exact row_pur hown ((Pur.refl w0).alloc _)
  · intro j u hj
    match j, hj with
    | 0, hj => simp at hj; subst hj; simp [Addr.add, World.cell?_alloc_mark]
  · intro u hu; simp at hu; subst hu; rfl
  · unfold maxLen; omega
  · omega
  · exact Nat.le_trans hB ((Pur.refl w0).alloc _).size
  · intro v' w' h1 h2 _
    refine h v' w' ?_ h2
    rw [List.length_append, ints_append]
    exact h1
theorem numGo_ok {B v : Nat} {xs : Cs} {x : Nat × Cs} (h : numGo B v xs = some x) : x.2.length < xs.length := by
  induction xs generalizing v with
  | nil => simp [numGo] at h
  | cons c r ih =>
    rw [numGo] at h
    split at h
    · cases h; simp
    · split at h
      · have := ih h; simp only [List.length_cons]; omega
      · cases h
theorem number_ok {xs : Cs} {x : Nat × Cs} (h : number xs = some x) : okc x.1 ∧ x.2.length < xs.length := by
  have key : ∀ B ys, numOf B ys = some x → okc x.1 ∧ x.2.length < ys.length := fun B ys h => by
    unfold numOf at h
    split at h
    · cases h
    · obtain ⟨y, hy, h2⟩ := Option.bind_eq_some_iff.1 h
      split at h2
      · rename_i hb
        cases h2
        refine ⟨?_, numGo_ok hy⟩
        rcases Bool.or_eq_true _ _ ▸ hb with hb | hb
        · exact allowed_okc hb
        · have : x.1 = 13 := by simpa using hb
          unfold okc; omega
      · cases h2
  unfold number at h
  split at h
  · have := key _ _ h
    exact ⟨this.1, by have := this.2; simp only [List.length_cons]; omega⟩
  · exact key _ _ h
theorem ref_ok {xs : Cs} {v : Nat} {q : Cs} (h : reference xs = .ok (v, q)) : okc v ∧ q.length < xs.length := by
  have hdl : ∀ (t : List Nat) (n : Nat), pre t xs = true → 0 < t.length → 0 < n → (xs.drop n).length < xs.length := fun t n hp ht hn => by
    have := pre_len hp
    rw [List.length_drop]; omega
  unfold reference at h
  repeat (split at h; · (rename_i hp; cases h; exact ⟨by unfold okc; omega, hdl _ _ hp (by decide) (by decide)⟩))
  split at h
  · rename_i hp
    have hl := pre_len hp
    simp only [List.length_cons, List.length_nil] at hl
    split at h
    · rename_i x hx
      cases h
      have := number_ok hx
      rw [List.length_drop] at this
      exact ⟨this.1, by have := this.2; simp only at this; omega⟩
    · cases h
  · cases h
theorem ok_snoc {acc : Cs} {c : Nat} (h : ∀ c ∈ acc, okc c) (hc : okc c) : ∀ x ∈ acc ++ [c], okc x := by
  intro x hx
  rcases List.mem_append.1 hx with hx | hx
  · exact h x hx
  · obtain rfl : x = c := by simpa using hx
    exact hc
/-- the value under way, behind some of it -/
theorem value_step {mark f : Nat} {xs ys : Cs} {acc : Cs} {c : Nat} {r : R Cs} (h : r = (valGo mark (f + 1) xs).and fun a z => .ok (acc ++ a, z)) (g : valGo mark (f + 1) xs = (valGo mark f ys).and fun a z => .ok (c :: a, z)) :
    r = (valGo mark f ys).and fun a z => .ok ((acc ++ [c]) ++ a, z) := by
  rw [h, g]
  rcases valGo mark f ys with x | ⟨x, q⟩
  · rfl
  · simp
set_option maxRecDepth 100000 in
set_option maxHeartbeats 16000000 in
theorem value_any {w : World} {p : Pl} {d : Sd} (h : At w p d) (hi : d.i ≤ d.cs.length) : Calls Tryz.prog 107 #[.pointer (some ⟨p.s, 0, none⟩)] w fun e w' => Gives p d w (value d.rest) (fun c => .string ⟨(narrow c).toArray⟩) e w' := by
  have hcl := h.clen
  have PK := peek_any h
  have hps := bk_lt h.own
  obtain ⟨m, hm⟩ : ∃ m, pk d.rest = m := ⟨_, rfl⟩
  by_cases hq : m = 34 ∨ m = 39
  · obtain ⟨mk, q, hr, rfl⟩ : ∃ mk q, d.rest = mk :: q ∧ m = ((mk : Nat) : Int) := by
      rcases hr : d.rest with _ | ⟨c, q⟩
      · rw [hr] at hm; simp only [pk] at hm; omega
      · rw [hr] at hm; exact ⟨c, q, rfl, hm.symm⟩
    obtain ⟨hlt, hq2, hlen⟩ := rest_cons hr
    have hmk : mk = 34 ∨ mk = 39 := by omega
    have HV := Lib.hid (show value d.rest = valGo mk (q.length + 1) (d.cs.drop (d.i + 1)) by rw [hr, hq2]; simp only [value]; rw [if_pos hmk])
    have hq3 : (d.cs.drop (d.i + 1)).length = q.length := by rw [hq2]
    rw [hm] at PK
    have w1 : IntKind.i64.wrap ((d.i : Int) + 1) = (d.i : Int) + 1 := IntWalk.i64_in _ (by omega)
    obtain ⟨b1, hb1⟩ : ∃ b, ((mk : Int) != 34) = b := ⟨_, rfl⟩
    obtain ⟨b2, hb2⟩ : ∃ b, ((mk : Int) != 39) = b := ⟨_, rfl⟩
    have hb : (b1 && b2) = false := by
      rw [← hb1, ← hb2]
      rcases hmk with rfl | rfl <;> rfl
    rw [List.length_drop] at hq3
    clear hr hq2 hlen hm hq
    go_enter Tryz.func107, Tryz.ntmps107
    go_wp2_with fail
    refine PK.mono ?_
    rintro e w2 ⟨rfl, hp2⟩
    have h2 := h.pur hp2
    have c1 := h2.c1
    have f1 := h2.f 1
    have h3 := h2.seti (d.i + 1) ((d.i : Int) + 1) (by omega)
    have g3 : Chg [p.s] w (w2.setCell ⟨p.s, 1, none⟩ (.int .i64 ((d.i : Int) + 1))) := (Chg.of_pur hp2).setCell (.inl (by simp)) _
    rcases b1 with _ | _ <;> rcases b2 with _ | _ <;> (try (exfalso; simp at hb; done))
    all_goals
      go_wp2
      go_loopw [4] (fun v wr => ∃ (j f : Nat) (acc : Cs), d.i < j ∧ j ≤ d.cs.length ∧ d.cs.length < j + f ∧ At wr p { d with i := j } ∧ Chg [p.s] w wr ∧ acc.length + d.i + 1 ≤ j ∧ (∀ c ∈ acc, okc c) ∧ wr.ownsRow w.heap.size 3 1 v acc.length (ints acc) ∧ Hid (value d.rest = (valGo mk f (d.cs.drop j)).and fun a z => .ok (acc ++ a, z))) (fun _ wr => d.cs.length + 1 - natAt wr ⟨p.s, 1, none⟩)
      case atStart => exact ⟨d.i + 1, q.length + 1, [], by omega, by omega, by omega, h3, g3, by simp, by simp, World.ownsRow_nil _ _ _ _, Lib.hid (by rw [HV.out]; rcases valGo mk (q.length + 1) (d.cs.drop (d.i + 1)) with x | ⟨x, z⟩ <;> rfl)⟩
      case round =>
        obtain ⟨j, f, acc, j1, j2, j3, k3, k4, hal, hok, hown, H⟩ := hrel
        obtain ⟨f, rfl⟩ : ∃ g, f = g + 1 := ⟨f - 1, by omega⟩
        have hsz := k4.size
        have PKj : ∀ w', Pur wr w' → Calls Tryz.prog 45 #[.pointer (some ⟨p.s, 0, none⟩)] w' fun e w'' => e = .returned (.int .i64 (pk (d.cs.drop j))) ∧ Pur w' w'' := fun w' hp => peek_any (k3.pur hp)
        obtain ⟨x0, x1⟩ := pk_bd k3 j
        have e3 := k3.nat
        simp only at x0 x1
        obtain ⟨x, hpk⟩ : ∃ x, pk (d.cs.drop j) = x := ⟨_, rfl⟩
        have w1 : IntKind.i64.wrap ((j : Int) + 1) = (j : Int) + 1 := IntWalk.i64_in _ (by omega)
        rw [hpk] at PKj x0 x1
        have BL := fun w => blank_any x w x0
        clear HV PK hb1 hb2 hb c1 f1 h2 h3 g3
        by_cases hxm : x = (mk : Int)
        · -- the mark: the end
          subst hxm
          have hj : j < d.cs.length := by
            rcases Nat.lt_or_ge j d.cs.length with g | g
            · exact g
            · rw [List.drop_of_length_le g] at hpk; simp only [pk] at hpk; omega
          have hcons := drop_cons d.cs j hj
          have HS := Lib.hid (show value d.rest = .ok (acc, d.cs.drop (j + 1)) by
            rw [H.out, hcons]
            rw [hcons] at hpk
            simp only [pk] at hpk
            rw [valGo, if_pos (by omega)]
            simp)
          have dm : ((mk : Int) != (mk : Int)) = false := by simp
          clear H hcons hpk BL
          go_wp2_with fail
          refine (PKj _ (Pur.refl _)).mono ?_
          rintro e w4 ⟨rfl, hp4⟩
          have k5 := k3.pur hp4
          have c1 := k5.c1
          have f1 := k5.f 1
          have k6 := k5.seti (j + 1) ((j : Int) + 1) (by omega)
          have hown5 := row_pur hown hp4
          have hown6 : (w4.setCell ⟨p.s, 1, none⟩ (.int .i64 ((j : Int) + 1))).ownsRow w.heap.size 3 1 _ acc.length (ints acc) := row_same hown5 fun g hg => by
            rw [RowKit.Below.heap_setCell _ _ _ _ (fun e => by have := (hown5.lt g hg).1; simp only at e; omega)]
          have NR := narrow_any _ acc _ (IRead.of_own hown6) hok (by omega)
          go_wp2_with fail
          refine NR.mono ?_
          rintro e w6 ⟨rfl, hp6⟩
          go_wp2
          go_ret
          rw [HS.out]
          exact ⟨rfl, j + 1, rfl, by omega, by omega, k6.pur hp6, ((k4.pur hp4).setCell (.inl (by simp)) _).pur hp6⟩
        have dm : (x != (mk : Int)) = true := by simpa using hxm
        by_cases hx2 : x = -1 ∨ x = 60
        · -- a fault
          have HS := Lib.hid (show value d.rest = .error (d.cs.length - j, 21) by
            rw [H.out]
            cases hd : d.cs.drop j with
            | nil =>
              have : d.cs.length ≤ j := by simpa using hd
              rw [valGo, show d.cs.length - j = 0 by omega]; rfl
            | cons c q =>
              have hl : (c :: q).length = d.cs.length - j := by rw [← hd, List.length_drop]
              rw [hd] at hpk
              simp only [pk] at hpk
              rw [valGo, if_neg (by omega), if_pos (by omega), hl]; rfl)
          obtain ⟨b3, hb3⟩ : ∃ b, (x == -1) = b := ⟨_, rfl⟩
          obtain ⟨b4, hb4⟩ : ∃ b, (x == 60) = b := ⟨_, rfl⟩
          have hbb : (b3 || b4) = true := by
            rw [← hb3, ← hb4]
            rcases hx2 with rfl | rfl <;> rfl
          clear H hpk hx2 hxm BL
          rcases b3 with _ | _ <;> rcases b4 with _ | _ <;> (try (exfalso; simp at hbb; done))
          all_goals
            go_wp2_with fail
            refine (PKj _ (Pur.refl _)).mono ?_
            rintro e w4 ⟨rfl, hp4⟩
            go_wp2_with fail
            refine (PKj _ hp4).mono ?_
            rintro e w5 ⟨rfl, hp5⟩
            have k5 := k3.pur (hp4.trans hp5)
            have c1 := k5.c1
            go_wp2_with fail
            refine (fail_any k5 [p.s] j 21 (by omega)).mono ?_
            intro e w6 hf
            obtain ⟨b, rfl, hf2⟩ := id hf
            go_wp2
            refine ⟨rfl, ?_⟩
            rw [HS.out]
            simp only [Gives]
            rw [show d.cs.length - (d.cs.length - j) = j by omega]
            exact Flt.after (k4.pur (hp4.trans hp5)) hf
        have hj : j < d.cs.length := by
          rcases Nat.lt_or_ge j d.cs.length with g | g
          · exact g
          · rw [List.drop_of_length_le g] at hpk; simp only [pk] at hpk; omega
        have hcons := drop_cons d.cs j hj
        have hxc : x = (d.cs.getD j 0 : Nat) := by rw [hcons] at hpk; exact hpk.symm
        have hokx : okc (d.cs.getD j 0) := by rw [List.getD_eq_getElem?_getD, List.getElem?_eq_getElem hj]; exact allowed_okc (h.okcs _ (List.getElem_mem hj))
        have d3 : (x == -1) = false := by rw [beq_eq_false_iff_ne]; omega
        have d4 : (x == 60) = false := by rw [beq_eq_false_iff_ne]; omega
        by_cases hx3 : x = 38
        · -- a reference
          subst hx3
          have RF : ∀ w', (hp : Pur wr w') → _ := fun w' hp => reference_any (k3.pur hp) j2
          simp only [Sd.rest] at RF
          have HV : valGo mk (f + 1) (d.cs.drop j) = (reference (d.cs.drop j)).and fun v q => (valGo mk f q).and fun a z => .ok (v :: a, z) := by
            rw [hcons, valGo, if_neg (by omega), if_neg (by omega), if_pos (by omega)]
          have d5 : ((38 : Int) == 38) = true := rfl
          clear hcons hxc hokx BL hpk
          rcases hrf : reference (d.cs.drop j) with ⟨k, n⟩ | ⟨v, q⟩
          · have HS := Lib.hid (show value d.rest = .error (k, n) by rw [H.out, HV, hrf]; rfl)
            rw [hrf] at RF
            clear H HV
            go_wp2_with fail
            refine (PKj _ (Pur.refl _)).mono ?_
            rintro e w4 ⟨rfl, hp4⟩
            go_wp2_with fail
            refine (PKj _ hp4).mono ?_
            rintro e w5 ⟨rfl, hp5⟩
            go_wp2_with fail
            refine (RF _ (hp4.trans hp5)).mono ?_
            intro e w6 hf
            obtain ⟨b, rfl, hf2⟩ := id hf
            go_wp2
            refine ⟨rfl, ?_⟩
            rw [HS.out]
            exact Flt.after (k4.pur (hp4.trans hp5)) hf
          · obtain ⟨hov, hqq⟩ := ref_ok hrf
            have HS := Lib.hid (value_step (c := v) (ys := q) H.out (by rw [HV, hrf]; rfl))
            rw [hrf] at RF
            clear H HV
            go_wp2_with fail
            refine (PKj _ (Pur.refl _)).mono ?_
            rintro e w4 ⟨rfl, hp4⟩
            go_wp2_with fail
            refine (PKj _ hp4).mono ?_
            rintro e w5 ⟨rfl, hp5⟩
            go_wp2_with fail
            refine (RF _ (hp4.trans hp5)).mono ?_
            rintro e w6 ⟨rfl, j', e1, e2, e4, h6, g6⟩
            simp only at h6 e1 e2 e4
            have hown6 := row_chg (row_pur hown (hp4.trans hp5)) g6 (fun g hg hm => by have := (hown.lt g hg).1; simp only [List.mem_singleton] at hm; omega)
            have hj' : j < j' := by
              have : (d.cs.drop j').length < (d.cs.drop j).length := by rw [e1]; exact hqq
              rw [List.length_drop, List.length_drop] at this
              omega
            go_wp2_with (at_builtin; refine append_int w6 rfl _ _ (by rfl) w.heap.size _ acc v _ _ _ rfl (by rfl) (by rfl) hown6 (by omega) (Nat.le_trans hsz (Nat.le_trans (hp4.trans hp5).size g6.size)) ?_)
            intro v7 w7 hown7 hg7
            have g6' := (k4.pur (hp4.trans hp5)).trans g6
            have hlt7 : ∀ b, u4.ownBlock = some b → w.heap.size ≤ b := fun b hb => (hown.lt b hb).1
            have g7 : Chg [p.s] w w7 := (g6'.alloc _).grown hg7 (fun b hb => .inr (hlt7 b hb))
            have h7 : At w7 p { d with i := j' } := (h6.pur ((Pur.refl _).alloc _)).same fun b hb => hg7.block b (Nat.lt_of_lt_of_le (h6.lt b hb) ((Pur.refl _).alloc _).size) (fun e => by have h1 := hlt7 b e.symm; have h2 := h.lt b hb; omega)
            have e7 := h7.nat
            go_wp2
            go_roundw
            case rel => exact ⟨j', f, acc ++ [v], by omega, e4, by omega, h7, g7, by simp; omega, (ok_snoc hok hov), by rw [List.length_append]; exact hown7, e1 ▸ HS⟩
            case measure => rw [e3, e7]; simp only; omega
        have d5 : (x == 38) = false := by simpa using hx3
        have hbl : on blank x = blank (d.cs.getD j 0) := by rw [hxc]; simp [on]
        rw [hbl] at BL
        obtain ⟨c, hc⟩ : ∃ c, c = d.cs.getD j 0 := ⟨_, rfl⟩
        have HS := Lib.hid (value_step (c := if blank (d.cs.getD j 0) then 32 else d.cs.getD j 0) (ys := d.cs.drop (j + 1)) H.out (by rw [hcons, valGo, if_neg (by omega), if_neg (by omega), if_neg (by omega)]))
        clear H hcons hpk hx2 hxm hx3
        rw [← hc] at hxc hokx HS BL
        clear hc
        subst hxc
        rcases hbk : blank c with _ | _
        all_goals
          rw [hbk] at HS BL
          simp only [if_true, if_false, Bool.false_eq_true] at HS
          go_wp2_with fail
          refine (PKj _ (Pur.refl _)).mono ?_
          rintro e w4 ⟨rfl, hp4⟩
          go_wp2_with fail
          refine (PKj _ hp4).mono ?_
          rintro e w5 ⟨rfl, hp5⟩
          go_wp2_with fail
          refine (BL _).mono ?_
          rintro e w6 ⟨rfl, rfl⟩
          have hown6 := row_pur hown (hp4.trans hp5)
        · go_wp2_with (at_builtin; refine append_int w5 rfl _ _ (by rfl) w.heap.size _ acc c _ _ _ rfl (by rfl) (by rfl) hown6 (by omega) (Nat.le_trans hsz (hp4.trans hp5).size) ?_)
          intro v7 w7 hown7 hg7
          have h6 := k3.pur (hp4.trans hp5)
          have g6' := k4.pur (hp4.trans hp5)
          have hlt7 : ∀ b, u4.ownBlock = some b → w.heap.size ≤ b := fun b hb => (hown.lt b hb).1
          have g7 : Chg [p.s] w w7 := (g6'.alloc _).grown hg7 (fun b hb => .inr (hlt7 b hb))
          have h7 : At w7 p { d with i := j } := (h6.pur ((Pur.refl _).alloc _)).same fun b hb => hg7.block b (Nat.lt_of_lt_of_le (h6.lt b hb) ((Pur.refl _).alloc _).size) (fun e => by have h1 := hlt7 b e.symm; have h2 := h.lt b hb; omega)
          have c1 := h7.c1
          have f1 := h7.f 1
          have h8 := h7.seti (j + 1) ((j : Int) + 1) (by omega)
          have hown8 : (w7.setCell ⟨p.s, 1, none⟩ (.int .i64 ((j : Int) + 1))).ownsRow w.heap.size 3 1 _ _ _ := row_same hown7 fun g hg => by
            rw [RowKit.Below.heap_setCell _ _ _ _ (fun e => by have := (hown7.lt g hg).1; simp only at e; omega)]
          have e8 := h8.nat
          simp only at c1
          go_wp2
          go_roundw
          case rel => exact ⟨j + 1, f, acc ++ [c], by omega, by omega, by omega, h8, g7.setCell (.inl (by simp)) _, by simp; omega, (ok_snoc hok hokx), by rw [List.length_append]; exact hown8, HS⟩
          case measure => rw [e3, e8]; simp only; omega
        · go_wp2_with (at_builtin; refine append_int w5 rfl _ _ (by rfl) w.heap.size _ acc 32 _ _ _ rfl (by rfl) (by rfl) hown6 (by omega) (Nat.le_trans hsz (hp4.trans hp5).size) ?_)
          intro v7 w7 hown7 hg7
          have h6 := k3.pur (hp4.trans hp5)
          have g6' := k4.pur (hp4.trans hp5)
          have hlt7 : ∀ b, u4.ownBlock = some b → w.heap.size ≤ b := fun b hb => (hown.lt b hb).1
          have g7 : Chg [p.s] w w7 := (g6'.alloc _).grown hg7 (fun b hb => .inr (hlt7 b hb))
          have h7 : At w7 p { d with i := j } := (h6.pur ((Pur.refl _).alloc _)).same fun b hb => hg7.block b (Nat.lt_of_lt_of_le (h6.lt b hb) ((Pur.refl _).alloc _).size) (fun e => by have h1 := hlt7 b e.symm; have h2 := h.lt b hb; omega)
          have c1 := h7.c1
          have f1 := h7.f 1
          have h8 := h7.seti (j + 1) ((j : Int) + 1) (by omega)
          have hown8 : (w7.setCell ⟨p.s, 1, none⟩ (.int .i64 ((j : Int) + 1))).ownsRow w.heap.size 3 1 _ _ _ := row_same hown7 fun g hg => by
            rw [RowKit.Below.heap_setCell _ _ _ _ (fun e => by have := (hown7.lt g hg).1; simp only at e; omega)]
          have e8 := h8.nat
          simp only at c1
          go_wp2
          go_roundw
          case rel => exact ⟨j + 1, f, acc ++ [32], by omega, by omega, by omega, h8, g7.setCell (.inl (by simp)) _, by simp; omega, (ok_snoc hok (by unfold okc; omega)), by rw [List.length_append]; exact hown8, HS⟩
          case measure => rw [e3, e8]; simp only; omega
  · have HS := Lib.hid (show value d.rest = .error (d.cs.length - d.i, 21) by
      rcases hr : d.rest with _ | ⟨c, q⟩
      · have := rest_nil hr
        simp only [value]; rw [show d.cs.length - d.i = 0 by omega]
      · obtain ⟨_, _, hlen⟩ := rest_cons hr
        rw [hr] at hm
        simp only [pk] at hm
        simp only [value]
        rw [if_neg (by omega), hlen])
    have d1 : (m != 34) = true := by simp; omega
    have d2 : (m != 39) = true := by simp; omega
    rw [hm] at PK
    clear hm hq
    go_enter Tryz.func107, Tryz.ntmps107
    go_wp2_with fail
    refine PK.mono ?_
    rintro e w2 ⟨rfl, hp2⟩
    have h2 := h.pur hp2
    have c1 := h2.c1
    go_wp2_with fail
    refine (fail_any h2 [p.s] d.i 21 (by omega)).mono ?_
    intro e w6 hf
    obtain ⟨b, rfl, hf2⟩ := id hf
    go_wp2
    refine ⟨rfl, ?_⟩
    rw [HS.out]
    simp only [Gives]
    rw [show d.cs.length - (d.cs.length - d.i) = d.i by omega]
    exact Flt.after (Chg.of_pur hp2) hf
end Tk
end Go.Proofs.YtigfcchblfnnbaaGreatDoor
namespace Go.Proofs.YtigfcchblfnnbaaGreatDoor
open Go Go.RowKit
set_option linter.all false
namespace Tk
theorem attr_info : (Tryz.prog.info? 156).map (fun i => (i.zero.map (·.cells.size), i.size, i.bytes)) = some (some 4, 4, 48) := by kernel_rfl
theorem tok_info : (Tryz.prog.info? 60).map (fun i => (i.zero.map (·.cells.size), i.size, i.bytes)) = some (some 7, 7, 88) := by kernel_rfl
/-- append of one element that lies in a block of its own, just made -/
theorem append_new {ops : Array Oper} {rest : List Oper} {o : Oper} {a : Act} {Q : Exit → Act → World → Prop} (w0 : World) (hg : o.guard = none) (s x : Operand) (t e : TypeId) (size bytes : Nat)
    (hinfo : (Tryz.prog.info? e).map (fun i => (i.zero.map (·.cells.size), i.size, i.bytes)) = some (some size, size, bytes)) (ht : Tryz.prog.underlying t = some (.slice e)) (hsz : 0 < size) (hby : bytes ≤ 1000)
    (hop : o.op = .call { callee := .builtin .append, args := #[s, x], argTypes := #[t, t] }) (B : Nat) (v : Value) (n : Nat) (xs : List Value) (e' : TypeId) (f : Nat × Nat) (news : List Value) (hnew : news.length = size) (h1 : ∀ u ∈ news, u.oneCell' = true)
    (hs : a.eval s = v) (N : Nat) (hN : N = w0.heap.size) (hx : a.eval x = .slice (some ⟨N, 0, none⟩) 1 1) (hown : w0.ownsRow B e size v n xs) (hlen : n ≤ 1000000) (hB : B ≤ w0.heap.size)
    (h : ∀ v' w', w'.ownsRow B e size v' (n + 1) (xs ++ news) → (w0.alloc (.cells news.toArray e' f)).grownBy w' v.ownBlock → (v'.ownBlock = v.ownBlock ∨ v'.ownBlock = some (w0.heap.size + 1)) → wpList Tryz.prog ops Q rest (a.put o.dst v') w') :
    wpList Tryz.prog ops Q (o :: rest) a (w0.alloc (.cells news.toArray e' f)) := by
  subst hN
  obtain ⟨i0, hi, hz⟩ := Option.map_eq_some_iff.1 hinfo
  simp only [Prod.mk.injEq] at hz
  obtain ⟨hz0, hz1, hz2⟩ := hz
  obtain ⟨z0, hz0, hzs⟩ := Option.map_eq_some_iff.1 hz0
  have hsz' : (w0.alloc (.cells news.toArray e' f)).heap.size = w0.heap.size + 1 := Array.size_push _
  refine wpList_append_own_at _ hg s x t hop B e i0 z0 size bytes ht hi hz0 hz1 hz2 hzs hsz v n xs hs ?_ ⟨w0.heap.size, 0, none⟩ 1 1 news hx (by rw [hnew, Nat.one_mul]) ?_ h1 ?_ ?_ ?_ ?_
  · exact row_pur hown ((Pur.refl w0).alloc _)
  · intro j u hj
    have : (Addr.mk w0.heap.size 0 none).add j = ⟨w0.heap.size, j, none⟩ := by unfold Addr.add; split <;> simp_all
    rw [this, World.cell?_alloc_mark]
    simpa using hj
  · unfold maxLen; omega
  · have : (n + 1) * bytes ≤ 1000001 * 1000 := Nat.mul_le_mul (by omega) hby
    omega
  · rw [hsz']; omega
  · intro v' w' h1 h2 _ h4
    refine h v' w' h1 h2 ?_
    rw [hsz'] at h4
    exact h4
/-- how 'attrs' ends: a new row of attributes -/
def Atts (p : Pl) (d : Sd) (w : World) (r : R (List Attr)) (e : Ending) (w' : World) : Prop := match r with
  | .ok (l, q) => ∃ v, e = .returned v ∧ Went p d w q w' ∧ w'.ownsRow w.heap.size 156 4 v l.length ((l.map (Attr.fin d.cs)).flatMap AttrV.cells)
  | .error (k, n) => Flt [p.s] w d.cs (d.cs.length - k) n e w'
theorem takeC_ok {c : Nat} {xs q : Cs} {u : Unit} (h : takeC c xs = .ok (u, q)) : q.length < xs.length := by
  cases xs with
  | nil => simp [takeC] at h
  | cons x r =>
    simp only [takeC] at h
    split at h
    · cases h; simp
    · cases h
theorem blanks_le (xs : Cs) : (blanks xs).length ≤ xs.length := (List.dropWhile_sublist _).length_le
theorem At.set_other {w : World} {p : Pl} {d : Sd} (h : At w p d) {a : Addr} (ha : a.block ∉ p.all) (v : Value) : At (w.setCell a v) p d :=
  h.same fun b hb => by rw [RowKit.Below.heap_setCell _ _ _ _ (fun e => ha (e ▸ hb))]
theorem row_set {w : World} {base : Nat} {e : TypeId} {size : Nat} {v : Value} {n : Nat} {xs : List Value} (h : w.ownsRow base e size v n xs) {a : Addr} (ha : v.ownBlock ≠ some a.block) (u : Value) : (w.setCell a u).ownsRow base e size v n xs :=
  row_same h fun g hg => by rw [RowKit.Below.heap_setCell _ _ _ _ (fun e => ha (by rw [hg, e]))]
/-- are there blanks? -/
def blk (xs : Cs) : Bool := decide ((blanks xs).length < xs.length)
theorem blanks_b {w : World} {p : Pl} {d : Sd} (h : At w p d) (hi : d.i ≤ d.cs.length) : Calls Tryz.prog 83 #[.pointer (some ⟨p.s, 0, none⟩)] w fun e w' => e = .returned (.bool (blk d.rest)) ∧ Went p d w (blanks d.rest) w' := blanks_any h hi
theorem attrs_step {f : Nat} {xs z : Cs} {acc : List Attr} {a : Attr} {r : R (List Attr)} (h : r = (attrsGo (f + 1) xs).and fun l z => .ok (acc ++ l, z)) (g : attrsGo (f + 1) xs = (attrsGo f z).and fun l z => .ok (a :: l, z)) :
    r = (attrsGo f z).and fun l z => .ok ((acc ++ [a]) ++ l, z) := by
  rw [h, g]
  rcases attrsGo f z with x | ⟨x, q⟩
  · rfl
  · simp
set_option maxRecDepth 100000 in
set_option maxHeartbeats 16000000 in
theorem attrs_any {w : World} {p : Pl} {d : Sd} (h : At w p d) (hi : d.i ≤ d.cs.length) : Calls Tryz.prog 79 #[.pointer (some ⟨p.s, 0, none⟩)] w fun e w' => Atts p d w (attrs d.rest) e w' := by
  have hcl := h.clen
  have hps := bk_lt h.own
  have hrl := rest_len (d := d)
  go_enter Tryz.func79, Tryz.ntmps79
  go_wp2
  go_loopw [3] (fun v wr => ∃ (j f : Nat) (acc : List Attr), d.i ≤ j ∧ j ≤ d.cs.length ∧ d.cs.length < j + f ∧ At wr p { d with i := j } ∧ Chg [p.s] w wr ∧ acc.length + d.i ≤ j ∧ wr.ownsRow w.heap.size 156 4 v acc.length ((acc.map (Attr.fin d.cs)).flatMap AttrV.cells) ∧ Hid (attrs d.rest = (attrsGo f (d.cs.drop j)).and fun l z => .ok (acc ++ l, z))) (fun _ wr => d.cs.length + 1 - natAt wr ⟨p.s, 1, none⟩)
  case atStart => exact ⟨d.i, d.rest.length + 1, [], by omega, hi, by omega, h, Chg.refl _ _, by simp, World.ownsRow_nil _ _ _ _, Lib.hid (by unfold attrs Sd.rest; rcases attrsGo ((d.cs.drop d.i).length + 1) (d.cs.drop d.i) with x | ⟨x, z⟩ <;> rfl)⟩
  case round =>
    obtain ⟨j, f, acc, j1, j2, j3, k3, k4, hal, hown, H⟩ := hrel
    obtain ⟨f, rfl⟩ : ∃ g, f = g + 1 := ⟨f - 1, by omega⟩
    have hsz := k4.size
    have e3 := k3.nat
    have BL := blanks_b k3 j2
    simp only [Sd.rest] at BL
    have hlow : ∀ (u : Value) (w' : World) n xs, w'.ownsRow w.heap.size 156 4 u n xs → ∀ g, u.ownBlock = some g → g ∉ [p.s] := fun u w' n xs hx g hg hm => by have := (hx.lt g hg).1; simp only [List.mem_singleton] at hm; omega
    rcases hb1 : blk (d.cs.drop j) with _ | _
    · -- no blanks: the end
      rw [hb1] at BL
      have HS := Lib.hid (show attrs d.rest = .ok (acc, blanks (d.cs.drop j)) by
        have hno : ¬ ((blanks (d.cs.drop j)).length < (d.cs.drop j).length ∧ hd begins (blanks (d.cs.drop j)) = true) := fun g => by
          have := g.1
          simp only [blk, decide_eq_false_iff_not] at hb1
          exact hb1 this
        rw [H.out, attrsGo, if_neg hno]
        simp)
      go_wp2_with fail
      refine BL.mono ?_
      rintro e w1 ⟨rfl, i1, a1, a2, a3, h1, c1⟩
      simp only at a1 a2 a3 h1
      have hown1 := row_chg hown c1 (hlow _ _ _ _ hown)
      go_wp2
      go_ret
      rw [HS.out]
      exact ⟨_, rfl, ⟨i1, a1, by omega, a3, h1, k4.trans c1⟩, hown1⟩
    rw [hb1] at BL
    rcases g2 : hd begins (blanks (d.cs.drop j)) with _ | _
    · -- no name behind them: the end
      have HS := Lib.hid (show attrs d.rest = .ok (acc, blanks (d.cs.drop j)) by
        have hno : ¬ ((blanks (d.cs.drop j)).length < (d.cs.drop j).length ∧ hd begins (blanks (d.cs.drop j)) = true) := fun g => by
          rw [g2] at g
          cases g.2
        rw [H.out, attrsGo, if_neg hno]
        simp)
      go_wp2_with fail
      refine BL.mono ?_
      rintro e w1 ⟨rfl, i1, a1, a2, a3, h1, c1⟩
      simp only at a1 a2 a3 h1
      rw [← a1] at g2
      replace a1 := Lib.hid a1
      have P1 := peek_any h1
      have B1 := fun w => begins_any (pk (d.cs.drop i1)) w (pk_bd h1 i1).1
      rw [on_pk, g2] at B1
      simp only [Sd.rest] at P1
      go_wp2_with fail
      refine P1.mono ?_
      rintro e w2 ⟨rfl, p2⟩
      go_wp2_with fail
      refine (B1 _).mono ?_
      rintro e w3 ⟨rfl, rfl⟩
      have hown1 := row_pur (row_chg hown c1 (hlow _ _ _ _ hown)) p2
      go_wp2
      go_ret
      rw [HS.out]
      exact ⟨_, rfl, ⟨i1, a1.out, by omega, a3, h1.pur p2, (k4.trans c1).pur p2⟩, hown1⟩
    have g1 : (blanks (d.cs.drop j)).length < (d.cs.drop j).length := by simpa [blk] using hb1
    have HG := Lib.hid (show attrsGo (f + 1) (d.cs.drop j) = (name (blanks (d.cs.drop j))).and fun nm r1 => (takeC 61 (blanks r1)).and fun _ r2 => (value (blanks r2)).and fun v r3 => (attrsGo f r3).and fun l z => .ok (⟨nm, v, (blanks (d.cs.drop j)).length⟩ :: l, z) by
      rw [attrsGo, if_pos ⟨g1, g2⟩])
    clear hb1
    go_wp2_with fail
    refine BL.mono ?_
    rintro e w1 ⟨rfl, i1, a1, a2, a3, h1, c1⟩
    simp only at a1 a2 a3 h1
    rw [← a1] at g1 g2 HG
    clear a1
    have P1 := peek_any h1
    have B1 := fun w => begins_any (pk (d.cs.drop i1)) w (pk_bd h1 i1).1
    rw [on_pk, g2] at B1
    simp only [Sd.rest] at P1
    have G1 := k4.trans c1
    have hown1 := row_chg hown c1 (hlow _ _ _ _ hown)
    rw [List.length_drop, List.length_drop] at g1
    clear BL
    go_wp2_with fail
    refine P1.mono ?_
    rintro e w2 ⟨rfl, p2⟩
    go_wp2_with fail
    refine (B1 _).mono ?_
    rintro e w3 ⟨rfl, rfl⟩
    have h2 := h1.pur p2
    have hc2 := h2.c1
    simp only at hc2
    have G2 := G1.pur p2
    have hown2 := row_pur hown1 p2
    clear P1 B1
    go_wp2_with fail
    refine (place_any h2 i1 (by omega)).mono ?_
    rintro e w3 ⟨rfl, p3⟩
    have h3 := h2.pur p3
    have G3 := G2.pur p3
    have hown3 := row_pur hown2 p3
    -- the attribute's own block
    have p4 : Pur w3 (w3.alloc (.cells #[.string ⟨#[]⟩, .string ⟨#[]⟩, .int .i64 ((place d.cs i1).1 : Int), .int .i64 ((place d.cs i1).2 : Int)] 156)) := (Pur.refl w3).alloc _
    have h4 := h3.pur p4
    have G4 := G3.pur p4
    have hown4 := row_pur hown3 p4
    have K4 := bk_new w3 (.cells #[.string ⟨#[]⟩, .string ⟨#[]⟩, .int .i64 ((place d.cs i1).1 : Int), .int .i64 ((place d.cs i1).2 : Int)] 156)
    have hL : p.s < w3.heap.size := Nat.lt_of_lt_of_le hps G3.size
    have hLa : w3.heap.size ∉ p.all := fun hm => by have := h3.lt _ hm; omega
    have hLw : w.heap.size ≤ w3.heap.size := G3.size
    have hLo : ∀ g, u3.ownBlock = some g → g ≠ w3.heap.size := fun g hg e => by have := (hown3.lt g hg).2; omega
    have NM := name_any h4 (by simp only; omega)
    simp only [Sd.rest] at NM
    have HP := Lib.hid (show (Attr.fin d.cs ⟨[], [], (d.cs.drop i1).length⟩).at_ = place d.cs i1 by
      simp only [Attr.fin]
      rw [List.length_drop, show d.cs.length - (d.cs.length - i1) = i1 by omega])
    generalize hB : w3.heap.size = LB at *
    rcases hn : name (d.cs.drop i1) with ⟨k, n⟩ | ⟨nm, r1⟩
    · rw [hn] at NM HG
      have HS := Lib.hid (show attrs d.rest = .error (k, n) by rw [H.out, HG.out]; rfl)
      clear HG H K4 hown hown1 hown2 hown3 hown4
      go_wp2_with fail
      refine NM.mono ?_
      intro e w6 hf
      obtain ⟨b, rfl, hf2⟩ := id hf
      go_wp2
      refine ⟨rfl, ?_⟩
      rw [HS.out]
      exact Flt.after G4 hf
    rw [hn] at NM HG
    simp only [and_ok] at HG
    clear hn
    go_wp2_with fail
    refine NM.mono ?_
    rintro e w5 ⟨rfl, i5, a5, b5, d5, h5, c5⟩
    simp only at a5 b5 d5 h5
    have K5 := bk_chg K4 c5 (by simp; omega)
    have G5 := G4.trans c5
    have hown5 := row_chg hown4 c5 (hlow _ _ _ _ hown4)
    have x0 := bk_cell K5 0 _ rfl
    have f0 := bk_free K5 0
    have K6 := bk_set K5 0 (.string ⟨(narrow nm).toArray⟩)
    have h6 := h5.set_other (a := ⟨LB, 0, none⟩) hLa (.string ⟨(narrow nm).toArray⟩)
    have G6 := G5.setCell (a := ⟨LB, 0, none⟩) (.inr hLw) (.string ⟨(narrow nm).toArray⟩)
    have hown6 := row_set hown5 (a := ⟨LB, 0, none⟩) (fun e => hLo _ e rfl) (.string ⟨(narrow nm).toArray⟩)
    have B6 := blanks_b h6 d5
    simp only [Sd.rest] at B6
    rw [a5] at B6
    clear a5
    clear NM hown hown1 hown2 hown3 hown4 hown5 K4 K5 h1 h2 h3 h4 h5 c1 c5 G1 G2 G3 G4 G5 p2 p3 p4 hc2
    go_wp2_with fail
    refine B6.mono ?_
    rintro e w7 ⟨rfl, i7, a7, b7, d7, h7, c7⟩
    simp only at a7 b7 d7 h7
    have K7 := bk_chg K6 c7 (by simp; omega)
    have G7 := G6.trans c7
    have hown7 := row_chg hown6 c7 (hlow _ _ _ _ hown6)
    have T7 := take_any h7 d7 61
    simp only [Sd.rest] at T7
    rw [show (61 : UInt8).toNat = 61 from rfl, a7] at T7
    clear a7
    clear B6 x0 f0
    rcases ht : takeC 61 (blanks r1) with ⟨k, n⟩ | ⟨u, r2⟩
    · rw [ht] at T7 HG
      have HS := Lib.hid (show attrs d.rest = .error (k, n) by rw [H.out, HG.out]; rfl)
      clear HG H
      go_wp2_with fail
      refine T7.mono ?_
      intro e w6 hf
      obtain ⟨b, rfl, hf2⟩ := id hf
      go_wp2
      refine ⟨rfl, ?_⟩
      rw [HS.out]
      exact Flt.after G7 hf
    rw [ht] at T7 HG
    simp only [and_ok] at HG
    clear ht
    go_wp2_with fail
    refine T7.mono ?_
    rintro e w8 ⟨rfl, i8, a8, b8, d8, h8, c8⟩
    simp only at a8 b8 d8 h8
    have K8 := bk_chg K7 c8 (by simp; omega)
    have G8 := G7.trans c8
    have hown8 := row_chg hown7 c8 (hlow _ _ _ _ hown7)
    have B8 := blanks_b h8 d8
    simp only [Sd.rest] at B8
    rw [a8] at B8
    clear a8
    clear T7
    go_wp2_with fail
    refine B8.mono ?_
    rintro e w9 ⟨rfl, i9, a9, b9, d9, h9, c9⟩
    simp only at a9 b9 d9 h9
    have K9 := bk_chg K8 c9 (by simp; omega)
    have G9 := G8.trans c9
    have hown9 := row_chg hown8 c9 (hlow _ _ _ _ hown8)
    have V9 := value_any h9 d9
    simp only [Sd.rest] at V9
    rw [a9] at V9
    clear a9
    clear B8
    rcases hv : value (blanks r2) with ⟨k, n⟩ | ⟨v, r3⟩
    · rw [hv] at V9 HG
      have HS := Lib.hid (show attrs d.rest = .error (k, n) by rw [H.out, HG.out]; rfl)
      clear HG H
      go_wp2_with fail
      refine V9.mono ?_
      intro e w6 hf
      obtain ⟨b, rfl, hf2⟩ := id hf
      go_wp2
      refine ⟨rfl, ?_⟩
      rw [HS.out]
      exact Flt.after G9 hf
    rw [hv] at V9 HG
    simp only [and_ok] at HG
    clear hv
    go_wp2_with fail
    refine V9.mono ?_
    rintro e w10 ⟨rfl, i10, a10, b10, d10, h10, c10⟩
    simp only at a10 b10 d10 h10
    replace a10 := Lib.hid a10
    have K10 := bk_chg K9 c10 (by simp; omega)
    have G10 := G9.trans c10
    have hown10 := row_chg hown9 c10 (hlow _ _ _ _ hown9)
    have f1 := bk_free K10 1
    have x1 := bk_cell K10 1 _ rfl
    have K11 := bk_set K10 1 (.string ⟨(narrow v).toArray⟩)
    have h11 := h10.set_other (a := ⟨LB, 1, none⟩) hLa (.string ⟨(narrow v).toArray⟩)
    have G11 := G10.setCell (a := ⟨LB, 1, none⟩) (.inr hLw) (.string ⟨(narrow v).toArray⟩)
    have hown11 := row_set hown10 (a := ⟨LB, 1, none⟩) (fun e => hLo _ e rfl) (.string ⟨(narrow v).toArray⟩)
    have y0 := bk_cell K11 0 (.string ⟨(narrow nm).toArray⟩) rfl
    have y1 := bk_cell K11 1 (.string ⟨(narrow v).toArray⟩) rfl
    have y2 := bk_cell K11 2 (.int .i64 ((place d.cs i1).1 : Int)) rfl
    have y3 := bk_cell K11 3 (.int .i64 ((place d.cs i1).2 : Int)) rfl
    have HS := Lib.hid (attrs_step H.out HG.out)
    have hacc : (((acc ++ [(⟨nm, v, (d.cs.drop i1).length⟩ : Attr)]).map (Attr.fin d.cs)).flatMap AttrV.cells) = ((acc.map (Attr.fin d.cs)).flatMap AttrV.cells) ++ [.string ⟨(narrow nm).toArray⟩, .string ⟨(narrow v).toArray⟩, .int .i64 ((place d.cs i1).1 : Int), .int .i64 ((place d.cs i1).2 : Int)] := by
      have hq : d.cs.length - (d.cs.length - i1) = i1 := by omega
      simp [AttrV.cells, Attr.fin, hq]
    clear V9 H HG HP K6 K7 K8 K9 K10 hown6 hown7 hown8 hown9 hown10 h6 h7 h8 h9 h10 c7 c8 c9 c10
    go_wp2_with (at_builtin; refine append_new (w10.setCell ⟨LB, 1, none⟩ (.string ⟨(narrow v).toArray⟩)) rfl _ _ 58 156 4 48 attr_info Tryz.underlying58 (by decide) (by decide) (by rfl) w.heap.size _ acc.length _ _ _ [.string ⟨(narrow nm).toArray⟩, .string ⟨(narrow v).toArray⟩, .int .i64 ((place d.cs i1).1 : Int), .int .i64 ((place d.cs i1).2 : Int)] rfl ?c1 (by rfl) w10.heap.size (by simp [World.setCell]) (by rfl) hown11 (by omega) G11.size ?_)
    case c1 => intro u hu; simp at hu; rcases hu with rfl | rfl | rfl | rfl <;> rfl
    intro v12 w12 hown12 hg12 _
    have hlt12 : ∀ b, u3.ownBlock = some b → w.heap.size ≤ b := fun b hb => (hown11.lt b hb).1
    have G12 : Chg [p.s] w w12 := (G11.alloc _).grown hg12 (fun b hb => .inr (hlt12 b hb))
    have h12 : At w12 p { d with i := i10 } := (h11.pur ((Pur.refl _).alloc _)).same fun b hb => hg12.block b (Nat.lt_of_lt_of_le (h11.lt b hb) ((Pur.refl _).alloc _).size) (fun e => by have q1 := hlt12 b e.symm; have q2 := h.lt b hb; omega)
    have e12 := h12.nat
    go_wp2
    go_roundw
    case rel => exact ⟨i10, f, acc ++ [⟨nm, v, (d.cs.drop i1).length⟩], by omega, d10, by omega, h12, G12, by simp; omega, by rw [List.length_append, hacc]; exact hown12, a10.out ▸ HS⟩
    case measure => rw [e3, e12]; simp only; omega
end Tk
end Go.Proofs.YtigfcchblfnnbaaGreatDoor
