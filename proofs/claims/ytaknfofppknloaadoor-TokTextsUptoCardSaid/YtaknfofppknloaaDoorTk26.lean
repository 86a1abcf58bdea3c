/- TokTexts: any text, with its marks escaped, is told as it is. -/
import Derived.Test.YtaknfofppknloaaDoorTk24
import Derived.Test.YtaknfofppknloaaDoorTkPure3
namespace Go.Proofs.YtaknfofppknloaaDoor
open Go Go.RowKit
set_option linter.all false
namespace Tk
set_option maxRecDepth 100000 in
set_option maxHeartbeats 20000000 in
theorem rallowed_any (c : Int) (w : World) (h : 0 ≤ c) : Calls Tryd.prog 18 #[.int .i64 c] w fun e w' => e = .returned (.bool (on allowed c)) ∧ w = w' := by
  have hb : on allowed c = ((decide (c < 32) && ((c == 9) || (c == 10))) || (!decide (c < 32) && (decide (c ≤ 55295) || ((decide (57344 ≤ c) && decide (c ≤ 65533)) || (decide (65536 ≤ c) && decide (c ≤ 1114111)))))) := by
    rw [Bool.eq_iff_iff]
    simp only [on, allowed, Bool.and_eq_true, Bool.or_eq_true, decide_eq_true_eq, beq_iff_eq, Bool.not_eq_true', decide_eq_false_iff_not]
    omega
  rw [hb]
  clear hb h
  rcases d1 : decide (c < 32) with _ | _
  · rcases d4 : decide (c ≤ 55295) with _ | _ <;> rcases d5 : decide (57344 ≤ c) with _ | _ <;> rcases d6 : decide (c ≤ 65533) with _ | _ <;> rcases d7 : decide (65536 ≤ c) with _ | _ <;> rcases d8 : decide (c ≤ 1114111) with _ | _
    all_goals
      go_enter Tryd.func18, Tryd.ntmps18
      go_wp2
      go_ret
      exact ⟨rfl, rfl⟩
  · rcases d2 : (c == 9) with _ | _ <;> rcases d3 : (c == 10) with _ | _
    all_goals
      go_enter Tryd.func18, Tryd.ntmps18
      go_wp2
      go_ret
      exact ⟨rfl, rfl⟩
/-- may this text stand in a document? -/
def PlainT (l : List UInt8) : Prop := ∃ cs, l = narrow cs ∧ ∀ c ∈ cs, fine c
set_option maxRecDepth 100000 in
set_option maxHeartbeats 4000000 in
theorem plain_any (l : List UInt8) (w : World) (hl : l.length ≤ 1000000) : Calls Tryd.prog 11 #[.string ⟨l.toArray⟩] w fun e w' => ∃ b : Bool, e = .returned (.bool b) ∧ (b = true → PlainT l) ∧ w = w' := by
  have RA := fun (c : Nat) w => rallowed_any (c : Int) w (by omega)
  have RC := fun (n : Nat) w (h : n < l.length) => rchar_in l n w (by omega) h
  go_enter Tryd.func11, Tryd.ntmps11
  go_wp2
  go_loopw [3] (fun k wr => ∃ (n : Nat) (cs : Cs), n ≤ l.length ∧ k = .int .i64 n ∧ wr = w ∧ Hid (l = narrow cs ++ l.drop n ∧ ∀ c ∈ cs, fine c)) (fun k _ => l.length + 1 - (intOf k).toNat)
  case atStart => exact ⟨0, [], by omega, rfl, rfl, Lib.hid ⟨rfl, by simp⟩⟩
  case round =>
    obtain ⟨n, cs, hn, rfl, rfl, H⟩ := hrel
    by_cases hlt : n < l.length
    · have hlt' : (n : Int) < l.length := by omega
      have C1 := RC n wr hlt
      have hce : (chr l n).2 ≠ 0 → n + (chr l n).2 ≤ l.length := fun h => chr_end l n h
      have hcb := enc_chr l n
      have A1 := RA (chr l n).1 wr
      generalize hch : chr l n = x at *
      obtain ⟨c, m⟩ := x
      simp only at C1 hce hcb A1
      by_cases hm : m = 0
      · subst hm
        clear H hcb hce
        go_wp2_with fail
        refine C1.mono ?_
        rintro e w1 ⟨rfl, rfl⟩
        go_wp2
        go_ret
        exact ⟨false, rfl, (fun h => by cases h), rfl⟩
      · have hm2 := hce hm
        have hon : on allowed (c : Int) = allowed c := by simp [on]
        rw [hon] at A1
        have wm : IntKind.i64.wrap ((n : Int) + (m : Int)) = (n : Int) + (m : Int) := IntWalk.i64_in _ (by omega)
        obtain ⟨h1, h2⟩ := hcb hm
        have HD : l.drop n = enc c ++ l.drop (n + m) := by
          rw [← h2]; unfold sub
          rw [← List.drop_drop, show n + m - n = m by omega, List.take_append_drop]
        rcases ha : allowed c with _ | _
        · rw [ha] at A1
          by_cases h13 : c = 13
          · have d13 : ((c : Int) != 13) = false := by simp; omega
            have HS := Lib.hid (show l = narrow (cs ++ [c]) ++ l.drop (n + m) ∧ ∀ x ∈ cs ++ [c], fine x by
              refine ⟨by rw [narrow_append, List.append_assoc, show narrow [c] = enc c by simp [narrow], ← HD]; exact H.out.1, fun x hx => ?_⟩
              rcases List.mem_append.1 hx with hx | hx
              · exact H.out.2 x hx
              · simp at hx; subst hx; exact ⟨h1, .inr h13⟩)
            clear H HD h1 h2 hce hcb hch ha h13
            go_wp2_with fail
            refine C1.mono ?_
            rintro e w1 ⟨rfl, rfl⟩
            go_wp2_with fail
            refine A1.mono ?_
            rintro e w2 ⟨rfl, rfl⟩
            go_wp2
            go_roundw
            case rel => exact ⟨n + m, cs ++ [c], by omega, by go_num, trivial, HS⟩
            case measure => simp [intOf]; omega
          · have d13 : ((c : Int) != 13) = true := by simp; omega
            clear H HD h1 h2 hce hcb hch ha h13
            go_wp2_with fail
            refine C1.mono ?_
            rintro e w1 ⟨rfl, rfl⟩
            go_wp2_with fail
            refine A1.mono ?_
            rintro e w2 ⟨rfl, rfl⟩
            go_wp2
            go_ret
            exact ⟨false, rfl, (fun h => by cases h), rfl⟩
        · rw [ha] at A1
          have HS := Lib.hid (show l = narrow (cs ++ [c]) ++ l.drop (n + m) ∧ ∀ x ∈ cs ++ [c], fine x by
            refine ⟨by rw [narrow_append, List.append_assoc, show narrow [c] = enc c by simp [narrow], ← HD]; exact H.out.1, fun x hx => ?_⟩
            rcases List.mem_append.1 hx with hx | hx
            · exact H.out.2 x hx
            · simp at hx; subst hx; exact ⟨h1, .inl ha⟩)
          clear H HD h1 h2 hce hcb hch ha
          go_wp2_with fail
          refine C1.mono ?_
          rintro e w1 ⟨rfl, rfl⟩
          go_wp2_with fail
          refine A1.mono ?_
          rintro e w2 ⟨rfl, rfl⟩
          go_wp2
          go_roundw
          case rel => exact ⟨n + m, cs ++ [c], by omega, by go_num, trivial, HS⟩
          case measure => simp [intOf]; omega
    · obtain rfl : n = l.length := by omega
      go_wp2
      go_ret
      refine ⟨true, rfl, fun _ => ⟨cs, ?_, H.out.2⟩, rfl⟩
      have := H.out.1
      rw [List.drop_length, List.append_nil] at this
      exact this
theorem conv_two (wr : World) (a b : Int) : (convert 53 9 (.slice (some ⟨wr.heap.size, 0, none⟩) 2 2)).run Tryd.prog (wr.alloc (.cells #[.int .u8 a, .int .u8 b] 5)).drew = .ok (.string ⟨([a, b].map B8).toArray⟩) (wr.alloc (.cells #[.int .u8 a, .int .u8 b] 5)).drew := by
  have hb := bk_drew (bk_new wr (.cells #[.int .u8 a, .int .u8 b] 5))
  rw [run_str_of_cells (P := Tryd.prog) _ 53 9 5 ⟨wr.heap.size, 0, none⟩ 2 2 [a, b] rfl Tryd.underlying53 Tryd.underlying5 Tryd.underlying9 fun j hj => ?_]
  rw [add_z]
  match j, hj with
  | 0, _ => exact bk_cell hb 0 _ rfl
  | 1, _ => exact bk_cell hb 1 _ rfl
theorem esc_step (v : Bool) (l : List UInt8) (n : Nat) (x y : List UInt8) (h : n < l.length) (H : esc v l = x ++ esc v (l.drop n)) (hy : escB v (UInt8.ofNat (by8 l n)) = y) : esc v l = (x ++ y) ++ esc v (l.drop (n + 1)) := by
  obtain ⟨e1, -⟩ := byte_at l n h
  rw [H, e1]
  unfold esc
  rw [List.flatMap_cons, hy, List.append_assoc]
theorem ofNat_ne {a k : Nat} (ha : a < 256) (hk : k < 256) (h : a ≠ k) : UInt8.ofNat a ≠ UInt8.ofNat k := fun e => h (by
  have := congrArg UInt8.toNat e
  rw [UInt8.toNat_ofNat', UInt8.toNat_ofNat'] at this
  omega)
/-- which byte is it? -/
inductive EscWay (v : Bool) (b : Nat) : Prop
  | lt (h : b = 60)
  | amp (h : b = 38)
  | gt (h : b = 62)
  | quot (h : b = 34)
  | cr (h : b = 13)
  | tab (h : b = 9) (hv : v = true)
  | nl (h : b = 10) (hv : v = true)
  | other (h : b ≠ 60 ∧ b ≠ 38 ∧ b ≠ 62 ∧ b ≠ 34 ∧ b ≠ 13 ∧ (v = true → b ≠ 9 ∧ b ≠ 10))
theorem escWay (v : Bool) (b : Nat) : EscWay v b := by
  by_cases h1 : b = 60
  · exact .lt h1
  by_cases h2 : b = 38
  · exact .amp h2
  by_cases h3 : b = 62
  · exact .gt h3
  by_cases h4 : b = 34
  · exact .quot h4
  by_cases h5 : b = 13
  · exact .cr h5
  by_cases hv : v = true
  · by_cases h6 : b = 9
    · exact .tab h6 hv
    by_cases h7 : b = 10
    · exact .nl h7 hv
    exact .other ⟨h1, h2, h3, h4, h5, fun _ => ⟨h6, h7⟩⟩
  · exact .other ⟨h1, h2, h3, h4, h5, fun h => absurd h hv⟩
theorem escB_other (v : Bool) (b : Nat) (hb : b < 256) (h : b ≠ 60 ∧ b ≠ 38 ∧ b ≠ 62 ∧ b ≠ 34 ∧ b ≠ 13 ∧ (v = true → b ≠ 9 ∧ b ≠ 10)) : escB v (UInt8.ofNat b) = [UInt8.ofNat b] := by
  obtain ⟨h1, h2, h3, h4, h5, h6⟩ := h
  unfold escB
  rw [if_neg (show UInt8.ofNat b ≠ 60 from ofNat_ne (k := 60) hb (by decide) h1), if_neg (show UInt8.ofNat b ≠ 38 from ofNat_ne (k := 38) hb (by decide) h2), if_neg (show UInt8.ofNat b ≠ 62 from ofNat_ne (k := 62) hb (by decide) h3), if_neg (show UInt8.ofNat b ≠ 34 from ofNat_ne (k := 34) hb (by decide) h4), if_neg]
  rintro (e | ⟨hv, e | e⟩)
  · exact (show UInt8.ofNat b ≠ 13 from ofNat_ne (k := 13) hb (by decide) h5) e
  · exact (show UInt8.ofNat b ≠ 9 from ofNat_ne (k := 9) hb (by decide) (h6 hv).1) e
  · exact (show UInt8.ofNat b ≠ 10 from ofNat_ne (k := 10) hb (by decide) (h6 hv).2) e
set_option maxRecDepth 100000 in
set_option maxHeartbeats 8000000 in
theorem escaped_any (l : List UInt8) (v : Bool) (w : World) (hl : l.length ≤ 1000000) : Calls Tryd.prog 12 #[.string ⟨l.toArray⟩, .bool v] w fun e w' => e = .returned (.string ⟨(esc v l).toArray⟩) ∧ Pur w w' := by
  go_enter Tryd.func12, Tryd.ntmps12
  go_wp2
  go_loopw [5, 6] (fun s k wr => ∃ (n : Nat) (x : List UInt8), n ≤ l.length ∧ s = .string ⟨x.toArray⟩ ∧ k = .int .i64 n ∧ Pur w wr ∧ x.length ≤ 6 * n ∧ Hid (esc v l = x ++ esc v (l.drop n))) (fun _ k _ => l.length + 1 - (intOf k).toNat)
  case atStart => exact ⟨0, [], by omega, rfl, rfl, Pur.refl w, by simp, Lib.hid rfl⟩
  case round =>
    obtain ⟨n, x, hn, rfl, rfl, hpr, hx, H⟩ := hrel
    by_cases hlt : n < l.length
    · have hlt' : (n : Int) < l.length := by omega
      have wn : IntKind.i64.wrap ((n : Int) + 1) = (n : Int) + 1 := IntWalk.i64_in _ (by omega)
      have i1 : ((n : Int)).toNat = n := by omega
      have i2 : ((n : Int) + 1).toNat = n + 1 := by omega
      have hb8 := by8_lt l n
      have hes := esc_step v l n x _ hlt H.out rfl
      have hW := escWay v (by8 l n)
      have hoth := escB_other v (by8 l n) hb8
      have hsub := (byte_at l n hlt).2
      have z1 : ¬ 9223372036854775807 < x.length + 1 := by omega
      have z4 : ¬ 9223372036854775807 < x.length + 4 := by omega
      have z5 : ¬ 9223372036854775807 < x.length + 5 := by omega
      have z6 : ¬ 9223372036854775807 < x.length + 6 := by omega
      clear H
      rcases hW with h | h | h | h | h | ⟨h, hv⟩ | ⟨h, hv⟩ | h
      · rw [h] at hes
        have hes := Lib.hid hes
        have e1 : escB v (UInt8.ofNat 60) = [38, 108, 116, 59] := by cases v <;> decide
        rw [e1] at hes
        have hb : (by8 l n : Int) = 60 := by omega
        clear hoth hsub h hb8
        go_wp2
        go_roundw
        case rel => exact ⟨n + 1, x ++ [38, 108, 116, 59], by omega, rfl, by go_num, hpr, by simp; omega, hes⟩
        case measure => simp [intOf]; omega
      · rw [h] at hes
        have hes := Lib.hid hes
        have e1 : escB v (UInt8.ofNat 38) = [38, 97, 109, 112, 59] := by cases v <;> decide
        rw [e1] at hes
        have hb : (by8 l n : Int) = 38 := by omega
        clear hoth hsub h hb8
        go_wp2
        go_roundw
        case rel => exact ⟨n + 1, x ++ [38, 97, 109, 112, 59], by omega, rfl, by go_num, hpr, by simp; omega, hes⟩
        case measure => simp [intOf]; omega
      · rw [h] at hes
        have hes := Lib.hid hes
        have e1 : escB v (UInt8.ofNat 62) = [38, 35, 54, 50, 59] := by cases v <;> decide
        rw [e1] at hes
        have hb : (by8 l n : Int) = 62 := by omega
        clear hoth hsub h hb8
        go_wp2
        go_roundw
        case rel => exact ⟨n + 1, x ++ [38, 35, 54, 50, 59], by omega, rfl, by go_num, hpr, by simp; omega, hes⟩
        case measure => simp [intOf]; omega
      · rw [h] at hes
        have hes := Lib.hid hes
        have e1 : escB v (UInt8.ofNat 34) = [38, 35, 120, 50, 50, 59] := by cases v <;> decide
        rw [e1] at hes
        have hb : (by8 l n : Int) = 34 := by omega
        clear hoth hsub h hb8
        go_wp2
        go_roundw
        case rel => exact ⟨n + 1, x ++ [38, 35, 120, 50, 50, 59], by omega, rfl, by go_num, hpr, by simp; omega, hes⟩
        case measure => simp [intOf]; omega
      · skip
        rw [h] at hes
        have hes := Lib.hid hes
        have e1 : escB v (UInt8.ofNat 13) = [38, 35, 49, 51, 59] := by cases v <;> decide
        rw [e1] at hes
        have hb : (by8 l n : Int) = 13 := by omega
        have hcv := conv_two wr 49 51
        rw [show ([49, 51] : List Int).map B8 = [49, 51] by decide] at hcv
        clear hoth hsub h hb8
        go_wp2
        go_region
        all_goals
          go_wp2
          go_roundw
          case rel => exact ⟨n + 1, x ++ [38, 35, 49, 51, 59], by omega, rfl, by go_num, (hpr.alloc _).drew, by simp; omega, hes⟩
          case measure => simp [intOf]; omega
      · subst hv
        rw [h] at hes
        have hes := Lib.hid hes
        have e1 : escB true (UInt8.ofNat 9) = [38, 35, 48, 57, 59] := by decide
        rw [e1] at hes
        have hb : (by8 l n : Int) = 9 := by omega
        have hcv := conv_two wr 48 57
        rw [show ([48, 57] : List Int).map B8 = [48, 57] by decide] at hcv
        clear hoth hsub h hb8
        go_wp2
        go_region
        all_goals
          go_wp2
          go_roundw
          case rel => exact ⟨n + 1, x ++ [38, 35, 48, 57, 59], by omega, rfl, by go_num, (hpr.alloc _).drew, by simp; omega, hes⟩
          case measure => simp [intOf]; omega
      · subst hv
        rw [h] at hes
        have hes := Lib.hid hes
        have e1 : escB true (UInt8.ofNat 10) = [38, 35, 49, 48, 59] := by decide
        rw [e1] at hes
        have hb : (by8 l n : Int) = 10 := by omega
        have hcv := conv_two wr 49 48
        rw [show ([49, 48] : List Int).map B8 = [49, 48] by decide] at hcv
        clear hoth hsub h hb8
        go_wp2
        go_region
        all_goals
          go_wp2
          go_roundw
          case rel => exact ⟨n + 1, x ++ [38, 35, 49, 48, 59], by omega, rfl, by go_num, (hpr.alloc _).drew, by simp; omega, hes⟩
          case measure => simp [intOf]; omega
      · rw [hoth h] at hes
        have hes := Lib.hid hes
        obtain ⟨h1, h2, h3, h4, h5, h6⟩ := h
        have d1 : ((by8 l n : Int) == 60) = false := by rw [beq_eq_false_iff_ne]; omega
        have d2 : ((by8 l n : Int) == 38) = false := by rw [beq_eq_false_iff_ne]; omega
        have d3 : ((by8 l n : Int) == 62) = false := by rw [beq_eq_false_iff_ne]; omega
        have d4 : ((by8 l n : Int) == 34) = false := by rw [beq_eq_false_iff_ne]; omega
        have d5 : ((by8 l n : Int) == 13) = false := by rw [beq_eq_false_iff_ne]; omega
        have ls : (sub l n (n + 1)).length = 1 := by rw [hsub]; rfl
        clear hoth hb8 h1 h2 h3 h4 h5
        cases v with
        | false =>
          clear h6
          go_wp2
          go_roundw
          case rel => exact ⟨n + 1, x ++ [UInt8.ofNat (by8 l n)], by omega, rfl, by go_num, hpr, by simp; omega, hes⟩
          case measure => simp [intOf]; omega
        | true =>
          have d6 : ((by8 l n : Int) == 9) = false := by rw [beq_eq_false_iff_ne]; have := (h6 rfl).1; omega
          have d7 : ((by8 l n : Int) == 10) = false := by rw [beq_eq_false_iff_ne]; have := (h6 rfl).2; omega
          clear h6
          go_wp2
          go_roundw
          case rel => exact ⟨n + 1, x ++ [UInt8.ofNat (by8 l n)], by omega, rfl, by go_num, hpr, by simp; omega, hes⟩
          case measure => simp [intOf]; omega
    · obtain rfl : n = l.length := by omega
      have E := H.out
      rw [List.drop_length, show esc v [] = [] from rfl, List.append_nil] at E
      clear H
      go_wp2
      go_ret
      exact ⟨by rw [E]; rfl, hpr⟩
end Tk
end Go.Proofs.YtaknfofppknloaaDoor
