/- strings.EqualFold where the other text is ASCII, without k and s; unicode.SimpleFold at ASCII. -/
import Derived.Test.YtaknfofppknloaaGreatDoorTu
import Derived.Test.YtaknfofppknloaaGreatDoorBlk
import Derived.Lib.LaidTab
import Derived.Shelf.Unicode.PredsPay
import Derived.Laws.BitsAllLaws
import Derived.Laws.RangeAny
import Derived.WalkMore
import Derived.ScopeJumps
namespace Go.Proofs.YtaknfofppknloaaGreatDoor
open Go Go.RowKit
set_option linter.all false
namespace Tk
/-- unicode.asciiFold -/
def foldTab : List Int := (List.range 128).map fun (i : Nat) => if 65 ≤ i ∧ i ≤ 90 then (i : Int) + 32 else if i = 107 then 8490 else if i = 115 then 383 else if 97 ≤ i ∧ i ≤ 122 then (i : Int) - 32 else (i : Int)
theorem foldTab_len : foldTab.length = 128 := by simp [foldTab]
def FoldW (w : World) : Prop := Lib.TabIs Tryz.prog w "unicode.asciiFold" .u16 foldTab
theorem FoldW.pur {w w' : World} (h : FoldW w) (hp : Pur w w') : FoldW w' := TabIs_below (g := 1) (by kernel_rfl) h hp
/-- the other case, of what is neither k nor s -/
def other (y : Nat) : Nat := if 65 ≤ y ∧ y ≤ 90 then y + 32 else if 97 ≤ y ∧ y ≤ 122 then y - 32 else y
def plainF (y : Nat) : Prop := y < 128 ∧ y ≠ 107 ∧ y ≠ 115 ∧ y ≠ 75 ∧ y ≠ 83
theorem foldTab_at : ∀ y, y < 128 → y ≠ 107 → y ≠ 115 → foldTab.getD y 0 = (other y : Nat) := by decide +kernel
theorem other_plain {y : Nat} (h : plainF y) : plainF (other y) ∧ other (other y) = y := by
  unfold plainF other at *
  refine ⟨⟨?_, ?_, ?_, ?_, ?_⟩, ?_⟩ <;> repeat (first | split | omega)
set_option maxRecDepth 100000 in
theorem fold_any (y : Nat) (w : World) (hF : FoldW w) (hy : plainF y) : Calls Tryz.prog 71 #[.int .i32 (y : Int)] w fun e w' => e = .returned (.int .i32 ((other y : Nat) : Int)) ∧ w = w' := by
  have hy' := hy
  unfold plainF at hy'
  have hc := hF.cell (g := 1) (by kernel_rfl) y (by rw [foldTab_len]; exact hy'.1)
  rw [foldTab_at y hy'.1 hy'.2.1 hy'.2.2.1] at hc
  have ho := (other_plain hy).1.1
  generalize other y = z at *
  have w1 : IntKind.i64.wrap (y : Int) = (y : Int) := IntWalk.i64_in _ (by omega)
  have w2 : IntKind.i32.wrap (z : Int) = (z : Int) := IntWalk.i32_in _ (by omega)
  have d1 : decide ((y : Int) < 0) = false := by simp
  have d2 : decide ((1114111 : Int) < (y : Int)) = false := by simp; omega
  have d3 : decide ((y : Int) < 128) = true := by simp; omega
  have b1 : (0 : Int) ≤ (y : Int) := by omega
  have b2 : (y : Int) < 128 := by omega
  have b3 : y < 128 := hy'.1
  clear hF hy hy'
  go_enter Tryz.func71, Tryz.ntmps71
  go_wp2
  go_ret
  exact ⟨rfl, rfl⟩
def smallB (b : Nat) : Nat := if 65 ≤ b ∧ b ≤ 90 then b + 32 else b
def foldEq (s t : List UInt8) : Bool := decide (s.map (fun b => smallB b.toNat) = t.map (fun b => smallB b.toNat))
theorem foldEq_nil (t : List UInt8) : foldEq [] t = decide (t.length = 0) := by cases t <;> simp [foldEq]
theorem foldEq_nil' (s : List UInt8) : foldEq s [] = decide (s.length = 0) := by cases s <;> simp [foldEq]
theorem foldEq_cons (a b : UInt8) (s t : List UInt8) : foldEq (a :: s) (b :: t) = (decide (smallB a.toNat = smallB b.toNat) && foldEq s t) := by
  simp [foldEq, Bool.decide_and]
theorem drop_by8 (s : List UInt8) (i : Nat) (h : i < s.length) : ∃ a : UInt8, a.toNat = by8 s i ∧ s.drop i = a :: s.drop (i + 1) := by
  refine ⟨s[i], ?_, List.drop_eq_getElem_cons h⟩
  unfold by8; simp [List.getD_eq_getElem?_getD, List.getElem?_eq_getElem h]
theorem foldEq_at (s t : List UInt8) (i : Nat) (hs : i < s.length) (ht : i < t.length) : foldEq (s.drop i) (t.drop i) = (decide (smallB (by8 s i) = smallB (by8 t i)) && foldEq (s.drop (i + 1)) (t.drop (i + 1))) := by
  obtain ⟨a, ha, e1⟩ := drop_by8 s i hs
  obtain ⟨b, hb, e2⟩ := drop_by8 t i ht
  rw [e1, e2, foldEq_cons, ha, hb]
theorem decode_hi (l : List UInt8) (h : 0 < l.length) (hx : 128 ≤ by8 l 0) : 128 ≤ (Utf8.decode ⟨l.toArray⟩ 0).1 ∧ (Utf8.decode ⟨l.toArray⟩ 0).1 ≤ 1114111 := by
  have hd := chr_decode l 0 h
  rw [sub_all l (Nat.le_refl _)] at hd
  have hp := decode_pos ⟨l.toArray⟩ 0
  by_cases h1 : Utf8.decode ⟨l.toArray⟩ 0 = (65533, 1)
  · rw [h1]; decide
  · rw [if_neg h1] at hd
    have hN : ∀ n c low, 128 ≤ low → (chrN l 0 n c low).2 ≠ 0 → 128 ≤ (chrN l 0 n c low).1 := fun n c low hl hn => by
      unfold chrN at hn ⊢
      split
      · rename_i hh; have := hh.2.2.1; simp only; omega
      · rename_i hh; rw [if_neg hh] at hn; exact absurd rfl hn
    rw [hd] at hp ⊢
    refine ⟨?_, (chr_bd l 0).1⟩
    have e : chr l 0 = if 192 ≤ by8 l 0 ∧ by8 l 0 < 224 then chrN l 0 2 (by8 l 0 - 192) 128 else if 224 ≤ by8 l 0 ∧ by8 l 0 < 240 then chrN l 0 3 (by8 l 0 - 224) 2048 else if 240 ≤ by8 l 0 ∧ by8 l 0 < 248 then chrN l 0 4 (by8 l 0 - 240) 65536 else (0, 0) := by
      unfold chr
      rw [if_neg (by omega), if_neg (by omega)]
    rw [e] at hp ⊢
    by_cases c1 : 192 ≤ by8 l 0 ∧ by8 l 0 < 224
    · rw [if_pos c1] at hp ⊢; exact hN _ _ _ (by omega) (by omega)
    rw [if_neg c1] at hp ⊢
    by_cases c2 : 224 ≤ by8 l 0 ∧ by8 l 0 < 240
    · rw [if_pos c2] at hp ⊢; exact hN _ _ _ (by omega) (by omega)
    rw [if_neg c2] at hp ⊢
    by_cases c3 : 240 ≤ by8 l 0 ∧ by8 l 0 < 248
    · rw [if_pos c3] at hp ⊢; exact hN _ _ _ (by omega) (by omega)
    rw [if_neg c3] at hp
    simp at hp
/-- what stands at the jump -/
def EqJ (s t : List UInt8) (w : World) (a' : Act) (w' : World) : Prop := w' = w ∧ ∃ (i : Nat) (u4 u6 u7 u8 u14 u15 u16 u17 u18 u19 u20 u21 u22 u23 u24 u25 u26 u27 u28 u29 u30 u31 u32 u33 u34 u35 u36 u37 u38 u39 u40 u41 u42 u43 u44 u45 u46 u47 u48 u49 u50 u51 u52 u53 u54 : Value), i < s.length ∧ i < t.length ∧ 128 ≤ by8 s i ∧ foldEq s t = foldEq (s.drop i) (t.drop i) ∧ a' = { tmps := #[.string ⟨s.toArray⟩, .string ⟨t.toArray⟩, undef, undef, u4, .int .i64 (i : Int), u6, u7, u8, undef, undef, undef, undef, undef, u14, u15, u16, u17, u18, u19, u20, u21, u22, u23, u24, u25, u26, u27, u28, u29, u30, u31, u32, u33, u34, u35, u36, u37, u38, u39, u40, u41, u42, u43, u44, u45, u46, u47, u48, u49, u50, u51, u52, u53, u54, undef, undef, undef, undef, undef, undef, undef, undef, undef, undef, undef, undef, undef, undef, undef, undef, undef, undef, undef, undef, undef, undef, undef, undef, undef, undef, undef, undef, undef, undef, undef, undef, undef, undef, undef, undef, undef, undef, undef, undef, undef, undef, undef, undef, undef, undef, undef, undef, undef, undef, undef, undef, undef, undef, undef, undef, undef, undef, undef, undef, undef, undef, undef, undef, undef, undef, undef, undef], defers := [] }
set_option maxRecDepth 100000 in
set_option maxHeartbeats 16000000 in
theorem fold_text (s t : List UInt8) (w : World) (hF : FoldW w) (ht : ∀ b ∈ t, plainF b.toNat) (hs : s.length ≤ 1000000) (hl : t.length ≤ 1000) :
    Calls Tryz.prog 53 #[.string ⟨s.toArray⟩, .string ⟨t.toArray⟩] w fun e w' => e = .returned (.bool (foldEq s t)) ∧ Pur w w' := by
  obtain ⟨n, hn⟩ : ∃ n, min s.length t.length = n := ⟨_, rfl⟩
  have hn2 : min (s.length : Int) (t.length : Int) = (n : Int) := by omega
  go_enter Tryz.func53, Tryz.ntmps53
  go_wp2
  refine wp_scope_jumps 0 (EqJ s t w) (fun _ _ => 0) rfl ?_ ?_
  · go_wp2
    go_loopw [5] (fun v wr => wr = w ∧ ∃ i : Nat, v = .int .i64 i ∧ i ≤ n ∧ Hid (foldEq s t = foldEq (s.drop i) (t.drop i))) (fun v _ => n + 1 - (intOf v).toNat)
    case atStart => exact ⟨rfl, 0, rfl, by omega, Lib.hid rfl⟩
    case round =>
      obtain ⟨rfl, i, rfl, hin, H⟩ := hrel
      by_cases hlt : i < n
      · have hlt' : (i : Int) < (n : Int) := by omega
        have hsl : i < s.length := by omega
        have htl : i < t.length := by omega
        have hsl' : (i : Int) < (s.length : Int) := by omega
        have htl' : (i : Int) < (t.length : Int) := by omega
        have hstep := foldEq_at s t i hsl htl
        have hx := by8_lt s i
        have hy : plainF (by8 t i) := by
          obtain ⟨b, hb, e⟩ := drop_by8 t i htl
          rw [← hb]
          exact ht b (List.mem_of_mem_drop (show b ∈ t.drop i by rw [e]; simp))
        have HB := Lib.hid (show by8 s i = by8 s i from rfl)
        obtain ⟨x, hxx⟩ : ∃ x, by8 s i = x := ⟨_, rfl⟩
        obtain ⟨y, hyy⟩ : ∃ y, by8 t i = y := ⟨_, rfl⟩
        rw [hxx, hyy] at hstep
        rw [hxx] at hx
        rw [hyy] at hy
        have hy8 : y < 128 := hy.1
        have ws : IntKind.i64.wrap ((i : Int) + 1) = (i : Int) + 1 := IntWalk.i64_in _ (by omega)
        have hor := u8_or_nat x y (by omega) (by omega)
        by_cases h128 : 128 ≤ x
        · have d1 : decide ((128 : Int) ≤ ((x ||| y : Nat) : Int)) = true := by have := @Nat.left_le_or x y; simp; omega
          have d1' : 128 ≤ x ||| y := Nat.le_trans h128 Nat.left_le_or
          have HX := Lib.hid (hxx ▸ h128 : 128 ≤ by8 s i)
          clear hstep hlt' ws HB
          go_wp2
          go_step3
          go_wp2
          simp only [Exit.inBlock, Exit.then, Exit.jump]
          exact ⟨trivial, rfl, i, _, _, _, _, _, _, _, _, _, _, _, _, _, _, _, _, _, _, _, _, _, _, _, _, _, _, _, _, _, _, _, _, _, _, _, _, _, _, _, _, _, _, _, _, _, hsl, htl, HX.out, H.out, rfl⟩
        · have hor8 : x ||| y < 128 := Nat.or_lt_two_pow (n := 7) (by omega) hy8
          have d1 : decide ((128 : Int) ≤ ((x ||| y : Nat) : Int)) = false := by simp; omega
          have d1' : ¬ 128 ≤ x ||| y := by omega
          have hx8 : x < 128 := by omega
          have hsm : (smallB x = smallB y) ↔ (x = y ∨ (65 ≤ y ∧ y ≤ 90 ∧ x = y + 32) ∨ (65 ≤ x ∧ x ≤ 90 ∧ y = x + 32)) := by
            unfold smallB
            constructor
            · intro h; repeat (first | split at h | omega)
            · intro h; repeat (first | split | omega)
          rcases (show x = y ∨ y < x ∨ x < y by omega) with hxy | hxy | hxy
          · have d2 : ((y : Int) == (x : Int)) = true := by simp; omega
            have HS := Lib.hid (show foldEq s t = foldEq (s.drop (i + 1)) (t.drop (i + 1)) by
              rw [H.out, hstep, show decide (smallB x = smallB y) = true by simpa using hsm.2 (.inl hxy), Bool.true_and])
            clear hstep H hsm HB hor8 d1' hxy
            go_wp2
            go_roundw
            case rel => exact ⟨trivial, i + 1, by go_num, by omega, HS⟩
            case measure => simp [intOf]; omega
          · have d2 : ((y : Int) == (x : Int)) = false := by rw [beq_eq_false_iff_ne]; omega
            have d3 : decide ((y : Int) < (x : Int)) = true := by simp; omega
            have d3' : y < x := by omega
            obtain ⟨bo, hbo⟩ : ∃ bo : Bool, decide (65 ≤ y ∧ y ≤ 90 ∧ x = y + 32) = bo := ⟨_, rfl⟩
            have hdec : decide (smallB x = smallB y) = bo := by
              rw [← hbo]
              exact decide_eq_decide.2 (hsm.trans ⟨fun h => by omega, fun h => .inr (.inl h)⟩)
            rw [hdec] at hstep
            have HS := Lib.hid (H.out.trans hstep)
            clear hstep H hsm HB hor8 d1' hxy hdec
            by_cases h65 : 65 ≤ y ∧ y ≤ 90
            · have d4 : decide ((65 : Int) ≤ (y : Int)) = true := by simp; omega
              have d5 : decide ((y : Int) ≤ 90) = true := by simp; omega
              have w97 : IntKind.u8.wrap ((y : Int) + 97) = (y : Int) + 97 := IntWalk.u8_in _ (by omega)
              have w32 : IntKind.u8.wrap ((y : Int) + 97 - 65) = (y : Int) + 97 - 65 := IntWalk.u8_in _ (by omega)
              rcases bo with _ | _
              · have d6 : ((x : Int) == (y : Int) + 97 - 65) = false := by simp only [decide_eq_false_iff_not] at hbo; rw [beq_eq_false_iff_ne]; omega
                clear hbo h65
                go_wp2
                simp only [Exit.inBlock, Exit.then, Exit.jump]
                refine bodyPost_ret (results_tmp rfl _ _ _) rfl ⟨?_, Pur.refl _⟩
                rw [HS.out]; rfl
              · have d6 : ((x : Int) == (y : Int) + 97 - 65) = true := by simp only [decide_eq_true_eq] at hbo; rw [beq_iff_eq]; omega
                clear hbo h65
                go_wp2
                go_roundw
                case rel => exact ⟨trivial, i + 1, by go_num, by omega, Lib.hid (HS.out.trans (Bool.true_and _))⟩
                case measure => simp [intOf]; omega
            · obtain rfl : bo = false := by rw [← hbo, decide_eq_false_iff_not]; omega
              rcases (show y < 65 ∨ (65 ≤ y ∧ 90 < y) by omega) with g | ⟨g, g'⟩
              · have d4 : decide ((65 : Int) ≤ (y : Int)) = false := by simp; omega
                clear hbo h65
                go_wp2
                simp only [Exit.inBlock, Exit.then, Exit.jump]
                refine bodyPost_ret (results_tmp rfl _ _ _) rfl ⟨?_, Pur.refl _⟩
                rw [HS.out]; rfl
              · have d4 : decide ((65 : Int) ≤ (y : Int)) = true := by simp; omega
                have d5 : decide ((y : Int) ≤ 90) = false := by simp; omega
                clear hbo h65
                go_wp2
                simp only [Exit.inBlock, Exit.then, Exit.jump]
                refine bodyPost_ret (results_tmp rfl _ _ _) rfl ⟨?_, Pur.refl _⟩
                rw [HS.out]; rfl
          · have d2 : ((y : Int) == (x : Int)) = false := by rw [beq_eq_false_iff_ne]; omega
            have d3 : decide ((y : Int) < (x : Int)) = false := by simp; omega
            have d3' : ¬ y < x := by omega
            obtain ⟨bo, hbo⟩ : ∃ bo : Bool, decide (65 ≤ x ∧ x ≤ 90 ∧ y = x + 32) = bo := ⟨_, rfl⟩
            have hdec : decide (smallB x = smallB y) = bo := by
              rw [← hbo]
              exact decide_eq_decide.2 (hsm.trans ⟨fun h => by omega, fun h => .inr (.inr h)⟩)
            rw [hdec] at hstep
            have HS := Lib.hid (H.out.trans hstep)
            clear hstep H hsm HB hor8 d1' hxy hdec
            by_cases h65 : 65 ≤ x ∧ x ≤ 90
            · have d4 : decide ((65 : Int) ≤ (x : Int)) = true := by simp; omega
              have d5 : decide ((x : Int) ≤ 90) = true := by simp; omega
              have w97 : IntKind.u8.wrap ((x : Int) + 97) = (x : Int) + 97 := IntWalk.u8_in _ (by omega)
              have w32 : IntKind.u8.wrap ((x : Int) + 97 - 65) = (x : Int) + 97 - 65 := IntWalk.u8_in _ (by omega)
              rcases bo with _ | _
              · have d6 : ((y : Int) == (x : Int) + 97 - 65) = false := by simp only [decide_eq_false_iff_not] at hbo; rw [beq_eq_false_iff_ne]; omega
                clear hbo h65
                go_wp2
                simp only [Exit.inBlock, Exit.then, Exit.jump]
                refine bodyPost_ret (results_tmp rfl _ _ _) rfl ⟨?_, Pur.refl _⟩
                rw [HS.out]; rfl
              · have d6 : ((y : Int) == (x : Int) + 97 - 65) = true := by simp only [decide_eq_true_eq] at hbo; rw [beq_iff_eq]; omega
                clear hbo h65
                go_wp2
                go_roundw
                case rel => exact ⟨trivial, i + 1, by go_num, by omega, Lib.hid (HS.out.trans (Bool.true_and _))⟩
                case measure => simp [intOf]; omega
            · obtain rfl : bo = false := by rw [← hbo, decide_eq_false_iff_not]; omega
              rcases (show x < 65 ∨ (65 ≤ x ∧ 90 < x) by omega) with g | ⟨g, g'⟩
              · have d4 : decide ((65 : Int) ≤ (x : Int)) = false := by simp; omega
                clear hbo h65
                go_wp2
                simp only [Exit.inBlock, Exit.then, Exit.jump]
                refine bodyPost_ret (results_tmp rfl _ _ _) rfl ⟨?_, Pur.refl _⟩
                rw [HS.out]; rfl
              · have d4 : decide ((65 : Int) ≤ (x : Int)) = true := by simp; omega
                have d5 : decide ((x : Int) ≤ 90) = false := by simp; omega
                clear hbo h65
                go_wp2
                simp only [Exit.inBlock, Exit.then, Exit.jump]
                refine bodyPost_ret (results_tmp rfl _ _ _) rfl ⟨?_, Pur.refl _⟩
                rw [HS.out]; rfl
      · have hi : i = s.length ∨ i = t.length := by omega
        have HS := Lib.hid (show foldEq s t = decide (s.length = t.length) by
          rw [H.out]
          rcases hi with g | g
          · rw [List.drop_of_length_le (show s.length ≤ i by omega), foldEq_nil, List.length_drop]
            exact decide_eq_decide.2 (by omega)
          · rw [List.drop_of_length_le (show t.length ≤ i by omega), foldEq_nil', List.length_drop]
            exact decide_eq_decide.2 (by omega))
        have hlt' : ¬ (i : Int) < (n : Int) := by omega
        obtain ⟨bo, hbo⟩ : ∃ bo : Bool, ((s.length : Int) == (t.length : Int)) = bo := ⟨_, rfl⟩
        have hbo2 : decide (s.length = t.length) = bo := by rw [← hbo, Bool.eq_iff_iff]; simp only [decide_eq_true_eq, beq_iff_eq]; omega
        clear H hi hin hlt hn hn2
        go_wp2
        simp only [Exit.inBlock, Exit.then, Exit.jump]
        refine bodyPost_ret (results_tmp rfl _ _ _) rfl ⟨?_, Pur.refl _⟩
        rw [HS.out, hbo2]; rfl
  · rintro a' w' ⟨rfl, i, u4, u6, u7, u8, u14, u15, u16, u17, u18, u19, u20, u21, u22, u23, u24, u25, u26, u27, u28, u29, u30, u31, u32, u33, u34, u35, u36, u37, u38, u39, u40, u41, u42, u43, u44, u45, u46, u47, u48, u49, u50, u51, u52, u53, u54, hsl, htl, h128, H, rfl⟩
    have hsl' : (i : Int) ≤ (s.length : Int) := by omega
    have htl' : (i : Int) ≤ (t.length : Int) := by omega
    have i0 : (0 : Int) ≤ (i : Int) := by omega
    have hy : plainF (by8 t i) := by
      obtain ⟨b, hb, e⟩ := drop_by8 t i htl
      rw [← hb]
      exact ht b (List.mem_of_mem_drop (show b ∈ t.drop i by rw [e]; simp))
    have HS := Lib.hid (show foldEq s t = false by
      rw [H, foldEq_at s t i hsl htl, show decide (smallB (by8 s i) = smallB (by8 t i)) = false by
        have hy1 := hy.1
        simp only [decide_eq_false_iff_not]
        unfold smallB
        repeat (first | split | omega)]
      rfl)
    have hsub : ∀ (l : List UInt8), i < l.length → (sub l i l.length).length = l.length - i ∧ by8 (sub l i l.length) 0 = by8 l i := fun l hl => by
      refine ⟨by rw [length_sub]; omega, ?_⟩
      rw [by8_sub, if_pos (by omega)]
      rfl
    obtain ⟨S1, S2⟩ := hsub s hsl
    obtain ⟨T1, T2⟩ := hsub t htl
    have hS3 : 0 < (sub s i s.length).length := by omega
    have hT3 : 0 < (sub t i t.length).length := by omega
    obtain ⟨r1, r2⟩ := decode_hi (sub s i s.length) hS3 (by rw [S2]; exact h128)
    have NX := fun (w : World) ty => run_next_any (P := Tryz.prog) w ⟨(sub s i s.length).toArray⟩ 0 ty (by show 0 < (sub s i s.length).toArray.size; simpa using hS3)
    have DR := fun w => Tryz.utf8_DecodeRuneInString_ascii ⟨(sub t i t.length).toArray⟩ (UInt8.ofNat (by8 t i)) w (by
      show (sub t i t.length)[0]? = _
      obtain ⟨b, hb, e⟩ := drop_by8 (sub t i t.length) 0 hT3
      rw [List.drop_zero] at e
      rw [e]
      simp only [List.getElem?_cons_zero, Option.some.injEq]
      rw [← T2, ← hb]
      simp) (by
        have := hy.1
        rw [UInt8.toNat_ofNat']
        omega)
    have hyn : (UInt8.ofNat (by8 t i)).toNat = by8 t i := by rw [UInt8.toNat_ofNat']; have := hy.1; omega
    rw [hyn] at DR
    have F1 := fun w hF => fold_any (by8 t i) w hF hy
    have F2 := fun w hF => fold_any (other (by8 t i)) w hF (other_plain hy).1
    rw [(other_plain hy).2] at F2
    have ho := (other_plain hy).1.1
    have hy1 := hy.1
    generalize (Utf8.decode ⟨(sub s i s.length).toArray⟩ 0).1 = r at *
    generalize (Utf8.decode ⟨(sub s i s.length).toArray⟩ 0).2 = rn at *
    generalize by8 t i = y at *
    generalize other y = z at *
    generalize hSS : sub s i s.length = S at *
    generalize hTT : sub t i t.length = T at *
    have hFr : ∀ k, FoldW (w'.iter ⟨S.toArray⟩ k) := fun k => hF.pur ((Pur.refl _).alloc _)
    have d1 : ((T.length : Int) == 0) = false := by rw [beq_eq_false_iff_ne]; omega
    have d2 : ((y : Int) == (r : Int)) = false := by rw [beq_eq_false_iff_ne]; omega
    have d3 : decide ((y : Int) < (r : Int)) = true := by simp; omega
    have d4 : decide ((r : Int) < 128) = false := by simp; omega
    have d5 : decide ((z : Int) < (r : Int)) = true := by simp; omega
    have d6 : ((y : Int) != (y : Int)) = false := by simp
    have d7 : ((z : Int) == (r : Int)) = false := by rw [beq_eq_false_iff_ne]; omega
    have t1 : (1 : Int) ≤ (T.length : Int) := by omega
    have k1 : i ≤ s.length := by omega
    have k2 : i ≤ t.length := by omega
    clear H hsub S1 S2 T1 T2 hy hyn h128 hsl htl ht hs hl hn hn2
    obtain ⟨bz, hbz⟩ : ∃ b, ((z : Int) != (y : Int)) = b := ⟨_, rfl⟩
    go_wp2
    refine wp_loop_rounds 1 ?_
    rw [rounds_succ]
    go_wp2_with fail
    refine (DR _).mono ?_
    rintro e w2 ⟨rfl, rfl⟩
    go_wp2_with fail
    refine (F1 _ (hFr _)).mono ?_
    rintro e w2 ⟨rfl, rfl⟩
    rcases bz with _ | _
    · have hzy : z = y := by simp only [bne_eq_false_iff_eq] at hbz; omega
      subst hzy
      go_wp2
      refine wp_loop_rounds 1 ?_
      rw [rounds_succ]
      go_wp2
      simp only [Exit.inBlock, Exit.then, Exit.jump]
      refine bodyPost_ret (results_tmp rfl _ _ _) rfl ⟨?_, (Pur.refl _).alloc _⟩
      rw [HS.out]; rfl
    · go_wp2
      refine wp_loop_rounds 2 ?_
      rw [rounds_succ]
      go_wp2_with fail
      refine (F2 _ (hFr _)).mono ?_
      rintro e w2 ⟨rfl, rfl⟩
      go_wp2
      rw [rounds_succ]
      go_wp2
      simp only [Exit.inBlock, Exit.then, Exit.jump]
      refine bodyPost_ret (results_tmp rfl _ _ _) rfl ⟨?_, (Pur.refl _).alloc _⟩
      rw [HS.out]; rfl
end Tk
end Go.Proofs.YtaknfofppknloaaGreatDoor
