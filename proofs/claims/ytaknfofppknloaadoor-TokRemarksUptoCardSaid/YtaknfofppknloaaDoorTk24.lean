/- TokLines: line ends of both bytes, or of the first alone, are told as those of the second alone. -/
import Derived.Test.YtaknfofppknloaaDoorTk23
namespace Go.Proofs.YtaknfofppknloaaDoor
open Go Go.RowKit
set_option linter.all false
namespace Tk
theorem tell_any {w : World} {r : Ans} {v ev : Value} {n : Nat} {p : Nat × Nat} (h : Told w r v ev) (hW : TW w) (hn : Ans.num r = n) (hp : Ans.pos r = p) : Calls Tryd.prog 13 #[ev] w fun e w' => e = .returned (.tuple #[.int .i64 (n : Int), .agg #[.int .i64 (p.1 : Int), .int .i64 (p.2 : Int)]]) ∧ Pur w w' := by
  subst hn; subst hp; exact tell_told h hW
theorem byte_at (l : List UInt8) (n : Nat) (h : n < l.length) : l.drop n = UInt8.ofNat (by8 l n) :: l.drop (n + 1) ∧ sub l n (n + 1) = [UInt8.ofNat (by8 l n)] := by
  refine ⟨?_, sub_one l n (by omega)⟩
  rw [List.drop_eq_getElem_cons h]
  congr 1
  simp [by8, List.getD_eq_getElem?_getD, List.getElem?_eq_getElem h]
theorem lines_cons (t : List UInt8) (b : UInt8) (m : List UInt8) : lines t (b :: m) = endB t b ++ lines t m := rfl
theorem str_eq2 (x y : List UInt8) (h : x = y) : Value.string ⟨x.toArray⟩ = .string ⟨y.toArray⟩ := by rw [h]
set_option maxRecDepth 100000 in
set_option maxHeartbeats 8000000 in
theorem lines_law (l : List UInt8) (w : World) (hW : TW w) (hl : l.length ≤ 1000000000) : Calls Tryd.prog 6 #[.string ⟨l.toArray⟩] w fun e w' => e = .returned (.bool true) ∧ Pur w w' := by
  by_cases hlong : 2000 < l.length
  · have d1 : decide (2000 < (l.length : Int)) = true := by simp; omega
    clear hlong
    go_enter Tryd.func6, Tryd.ntmps6
    go_wp2_with fail
    refine (awake_any w hW).mono ?_
    rintro e w1 ⟨rfl, p1⟩
    go_wp2
    go_ret
    exact ⟨rfl, p1⟩
  · have d1 : decide (2000 < (l.length : Int)) = false := by simp; omega
    go_enter Tryd.func6, Tryd.ntmps6
    go_wp2_with fail
    refine (awake_any w hW).mono ?_
    rintro e w1 ⟨rfl, p1⟩
    have hW1 := hW.pur p1
    go_wp2
    go_loopw [3, 4, 5] (fun s t k wr => ∃ (n : Nat) (x y : List UInt8), n ≤ l.length ∧ s = .string ⟨x.toArray⟩ ∧ t = .string ⟨y.toArray⟩ ∧ k = .int .i64 n ∧ wr = w1 ∧ x.length ≤ 2 * n ∧ y.length ≤ 2 * n ∧
      Hid (lines [13] l = x ++ lines [13] (l.drop n)) ∧ Hid (lines [13, 10] l = y ++ lines [13, 10] (l.drop n)) ∧ Hid (∀ b ∈ l.take n, b ≠ 13)) (fun _ _ k _ => l.length + 1 - (intOf k).toNat)
    case atStart => exact ⟨0, [], [], by omega, rfl, rfl, rfl, rfl, by simp, by simp, Lib.hid rfl, Lib.hid rfl, Lib.hid (by simp)⟩
    case round =>
      obtain ⟨n, x, y, hn, rfl, rfl, rfl, rfl, hx, hy, H1, H2, H3⟩ := hrel
      by_cases hlt : n < l.length
      · have hlt' : (n : Int) < l.length := by omega
        obtain ⟨e1, e2⟩ := byte_at l n hlt
        have hb8 := by8_lt l n
        have e3 : l.take (n + 1) = l.take n ++ [UInt8.ofNat (by8 l n)] := by
          rw [List.take_succ_eq_append_getElem hlt]
          congr 2
          simp [by8, List.getD_eq_getElem?_getD, List.getElem?_eq_getElem hlt]
        have wn : IntKind.i64.wrap ((n : Int) + 1) = (n : Int) + 1 := IntWalk.i64_in _ (by omega)
        have i1 : ((n : Int)).toNat = n := by omega
        have i2 : ((n : Int) + 1).toNat = n + 1 := by omega
        have z1 : ¬ 9223372036854775807 < x.length + 1 := by omega
        have z2 : ¬ 9223372036854775807 < y.length + 2 := by omega
        have z3 : ¬ 9223372036854775807 < y.length + 1 := by omega
        by_cases h13 : by8 l n = 13
        · have d13 : ((by8 l n : Int) == 13) = true := by rw [beq_iff_eq]; omega
          clear H1 H2 H3 e1 e2 e3 h13
          go_wp2
          go_ret
          exact ⟨rfl, p1⟩
        · have d13 : ((by8 l n : Int) == 13) = false := by rw [beq_eq_false_iff_ne]; omega
          have hne : UInt8.ofNat (by8 l n) ≠ 13 := fun e => h13 (by
            have := congrArg UInt8.toNat e
            rw [UInt8.toNat_ofNat'] at this
            have e13 : (13 : UInt8).toNat = 13 := rfl
            rw [e13] at this; omega)
          have H3' := Lib.hid (show ∀ b ∈ l.take (n + 1), b ≠ 13 by
            rw [e3]; intro b hb
            rcases List.mem_append.1 hb with hb | hb
            · exact H3.out b hb
            · simp at hb; rw [hb]; exact hne)
          by_cases h10 : by8 l n = 10
          · have d10 : ((by8 l n : Int) == 10) = true := by rw [beq_iff_eq]; omega
            have hE : UInt8.ofNat (by8 l n) = 10 := by rw [h10]; rfl
            have H1' := Lib.hid (show lines [13] l = (x ++ [13]) ++ lines [13] (l.drop (n + 1)) by
              rw [H1.out, e1, lines_cons, hE, List.append_assoc]; rfl)
            have H2' := Lib.hid (show lines [13, 10] l = (y ++ [13, 10]) ++ lines [13, 10] (l.drop (n + 1)) by
              rw [H2.out, e1, lines_cons, hE, List.append_assoc]; rfl)
            clear H1 H2 H3 e1 e2 e3 h13 h10 hE hne
            go_wp2
            go_roundw
            case rel => exact ⟨n + 1, x ++ [13], y ++ [13, 10], by omega, rfl, rfl, by go_num, trivial, by simp; omega, by simp; omega, H1', H2', H3'⟩
            case measure => simp [intOf]; omega
          · have d10 : ((by8 l n : Int) == 10) = false := by rw [beq_eq_false_iff_ne]; omega
            have hE : UInt8.ofNat (by8 l n) ≠ 10 := fun e => h10 (by
              have := congrArg UInt8.toNat e
              rw [UInt8.toNat_ofNat'] at this
              have e13 : (10 : UInt8).toNat = 10 := rfl
              rw [e13] at this; omega)
            have H1' := Lib.hid (show lines [13] l = (x ++ [UInt8.ofNat (by8 l n)]) ++ lines [13] (l.drop (n + 1)) by
              rw [H1.out, e1, lines_cons, List.append_assoc]; unfold endB; rw [if_neg hE])
            have H2' := Lib.hid (show lines [13, 10] l = (y ++ [UInt8.ofNat (by8 l n)]) ++ lines [13, 10] (l.drop (n + 1)) by
              rw [H2.out, e1, lines_cons, List.append_assoc]; unfold endB; rw [if_neg hE])
            have ls : (sub l n (n + 1)).length = 1 := by rw [e2]; rfl
            clear H1 H2 H3 e1 e3 h13 h10 hE hne
            go_wp2
            go_roundw
            case rel => exact ⟨n + 1, x ++ [UInt8.ofNat (by8 l n)], y ++ [UInt8.ofNat (by8 l n)], by omega, rfl, rfl, by go_num, trivial, by simp; omega, by simp; omega, H1', H2', H3'⟩
            case measure => simp [intOf]; omega
      · obtain rfl : n = l.length := by omega
        have hlt' : ¬ (l.length : Int) < l.length := by omega
        have E1 : lines [13] l = x := by rw [H1.out, List.drop_length]; simp [lines]
        have E2 : lines [13, 10] l = y := by rw [H2.out, List.drop_length]; simp [lines]
        have N13 : ∀ b ∈ l, b ≠ 13 := by have := H3.out; rwa [List.take_length] at this
        have W1 : whole x = whole l := by rw [← E1]; exact whole_lines [] (.inl rfl) l (by omega) N13
        have W2 : whole y = whole l := by rw [← E2]; exact whole_lines [10] (.inr rfl) l (by omega) N13
        have T0 := fun w hW => tokens_told l w hW
        have T1 := fun w hW => tokens_told x w hW
        have T2 := fun w hW => tokens_told y w hW
        rw [W1] at T1
        rw [W2] at T2
        generalize whole l = r at T0 T1 T2
        obtain ⟨num, hnum⟩ : ∃ n, Ans.num r = n := ⟨_, rfl⟩
        obtain ⟨pos, hpos⟩ : ∃ p, Ans.pos r = p := ⟨_, rfl⟩
        clear H1 H2 H3 E1 E2 N13 W1 W2 hlong hx hy
        go_wp2_with fail
        refine (T0 _ hW1).mono ?_
        rintro e w2 ⟨v1, f1, rfl, p2, t1⟩
        go_wp2_with fail
        refine (T1 _ (hW1.pur p2)).mono ?_
        rintro e w3 ⟨v2, f2, rfl, p3, t2⟩
        go_wp2_with fail
        refine (T2 _ (hW1.pur (p2.trans p3))).mono ?_
        rintro e w4 ⟨v3, f3, rfl, p4, t3⟩
        have hW4 := hW1.pur (p2.trans (p3.trans p4))
        have t1 := (t1.pur p3).pur p4
        have t2 := t2.pur p4
        clear T0 T1 T2
        go_wp2_with fail
        refine (tell_any t1 hW4 hnum hpos).mono ?_
        rintro e w5 ⟨rfl, p5⟩
        have b5 := bk_new w5 (.cells #[.int .i64 (pos.1 : Int), .int .i64 (pos.2 : Int)] 30)
        have q5 : Pur w4 (w5.alloc (.cells #[.int .i64 (pos.1 : Int), .int .i64 (pos.2 : Int)] 30)) := p5.alloc _
        go_wp2_with fail
        refine (tell_any (t2.pur q5) (hW4.pur q5) hnum hpos).mono ?_
        rintro e w6 ⟨rfl, p6⟩
        have b6 := bk_new w6 (.cells #[.int .i64 (pos.1 : Int), .int .i64 (pos.2 : Int)] 30)
        have p6' := p6.alloc (.cells #[.int .i64 (pos.1 : Int), .int .i64 (pos.2 : Int)] 30)
        have q6 := q5.trans p6'
        have c5 := bk_pur b5 p6'
        clear b5
        go_wp2_with fail
        refine (tell_any (t3.pur q6) (hW4.pur q6) hnum hpos).mono ?_
        rintro e w7 ⟨rfl, p7⟩
        have b7 := bk_new w7 (.cells #[.int .i64 (pos.1 : Int), .int .i64 (pos.2 : Int)] 30)
        have p7' := p7.alloc (.cells #[.int .i64 (pos.1 : Int), .int .i64 (pos.2 : Int)] 30)
        have q7 := q6.trans p7'
        have d5 := bk_pur c5 p7'
        have d6 := bk_pur b6 p7'
        clear c5 b6
        have R1 := (t1.pur q7).read
        have R2 := (t2.pur q7).read
        have R3 := (t3.pur q7).read
        go_wp2_with fail
        refine (same_any _ _ _ _ _ true R1 R2 rfl (fun _ => rfl)).mono ?_
        rintro e w8 ⟨rfl, p8⟩
        go_wp2_with fail
        refine (same_any _ _ _ _ _ true (R1.pur p8) (R3.pur p8) rfl (fun _ => rfl)).mono ?_
        rintro e w9 ⟨rfl, p9⟩
        have g5 := bk_pur d5 (p8.trans p9)
        have g6 := bk_pur d6 (p8.trans p9)
        have g7 := bk_pur b7 (p8.trans p9)
        have x5 := bk_cell g5 0 _ rfl
        have y5 := bk_cell g5 1 _ rfl
        have x6 := bk_cell g6 0 _ rfl
        have y6 := bk_cell g6 1 _ rfl
        have x7 := bk_cell g7 0 _ rfl
        have y7 := bk_cell g7 1 _ rfl
        have hfin : Pur w w9 := p1.trans (p2.trans (p3.trans (p4.trans (q7.trans (p8.trans p9)))))
        clear d5 d6 b7 g5 g6 g7 R1 R2 R3 t1 t2 t3
        go_wp2
        go_ret
        exact ⟨rfl, hfin⟩
end Tk
end Go.Proofs.YtaknfofppknloaaDoor
