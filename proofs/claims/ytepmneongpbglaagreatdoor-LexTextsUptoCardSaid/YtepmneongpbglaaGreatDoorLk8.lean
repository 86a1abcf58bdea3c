/- Layer 5: a text in its marks. -/
import Derived.Test.YtepmneongpbglaaGreatDoorLk7
import Derived.Test.YtepmneongpbglaaGreatDoorLkB
namespace Go.Proofs.YtepmneongpbglaaGreatDoor
open Go Go.RowKit
set_option linter.all false
namespace Lx
theorem units_le (c : Nat) : (units c).length ≤ 4 := by
  unfold units; split <;> simp [unit8]
theorem escape_t (l : List UInt8) (i : Nat) (t : List UInt8) (j : Nat) (h : escape l i = some (t, j)) : t.length ≤ 4 := by
  unfold escape at h
  simp only at h
  split at h
  · cases h
  split at h
  · cases h; simp
  split at h
  · obtain ⟨x, -, e⟩ := Option.map_eq_some_iff.1 h
    cases e; simp [unit8]
  split at h
  · obtain ⟨x, -, e⟩ := Option.map_eq_some_iff.1 h
    cases e; simp [unit8]
  split at h
  · split at h
    · cases h
    · cases h; simp
  split at h
  · cases h
  split at h
  · cases h; simp
  split at h
  · cases h; simp
  · cases h; exact units_le _
set_option maxRecDepth 100000 in
set_option maxHeartbeats 32000000 in
theorem text_any {w0 w : World} {p i M : Nat} {l : List UInt8} {ln : Bool} {v : Value} (h : Lb w p l i ln v) (B : LB w0 p w) (hi : i < l.length) (hl : l.length ≤ 1000000) (hM : by8 l i = M) :
    Calls Tryz.prog 37 #[.pointer (some ⟨p, 0, none⟩)] w fun e w' => EscPost w p l ln v (quoteGo l M (l.length + 1) (i + 1)) e w' := by
  have q0 := h.q0
  have q1 := h.q1
  have hi' : (i : Int) < l.length := by omega
  have hpw := bk_lt h
  have w1' : IntKind.i64.wrap ((i : Int) + 1) = (i : Int) + 1 := IntWalk.i64_in _ (by omega)
  have hb8 := by8_lt l i
  have w2' : IntKind.i64.wrap (M : Int) = (M : Int) := IntWalk.i64_in _ (by omega)
  go_enter Tryz.func37, Tryz.ntmps37
  go_wp2
  refine wp_region_pur (by kernel_rfl) (by kernel_rfl) ?_
  repeat (go_big_quiet_step (fail))
  refine wpQuiet_nil ?_
  intro wq hq
  have k0 := h.pur hq
  have c1 := k0.c1
  have f1 := k0.f 1
  have k1 := k0.seti (i + 1) ((i : Int) + 1) (by omega)
  have G1 := (Chg.of_pur (S := [p]) hq).trans (chg1 p wq 1 (.int .i64 ((i : Int) + 1)))
  clear q0 q1
  obtain ⟨W2, hW2⟩ : ∃ W2, W2 = wq.setCell ⟨p, 1, none⟩ (.int .i64 ((i : Int) + 1)) := ⟨_, rfl⟩
  have hsz : W2.heap.size = wq.heap.size := by rw [hW2]; simp [World.setCell]
  have hqs := hq.size
  rw [← hW2] at k1 G1
  obtain ⟨W3, hW3⟩ : ∃ W3, W3 = W2.alloc (.cells #[.pointer none, .slice none 0 0] 64) := ⟨_, rfl⟩
  have HB : Lib.IsBuilder 64 5 wq.heap.size wq.heap.size (Lib.byteCells []) W3 := by rw [hW3, ← hsz]; exact Lib.fresh_isBuilder _ _ W2
  have p3 : Pur W2 W3 := by rw [hW3]; exact (Pur.refl _).alloc _
  have hs3 : wq.heap.size ≤ W3.heap.size := by have := p3.size; omega
  have k3 := k1.pur p3
  have G3 := G1.pur p3
  have hpB : p < wq.heap.size := by omega
  have hwB : w.heap.size ≤ wq.heap.size := hqs
  clear k0 k1 G1 p3 hsz hqs
  go_wp2
  rw [← hW2, ← hW3]
  clear c1 f1 hW2 hW3
  generalize wq.heap.size = b at *
  go_loopw [28] (fun _ wr => ∃ (j f : Nat) (acc : List UInt8), j ≤ l.length ∧ l.length < j + f ∧ Lb wr p l j ln v ∧ Chg [p] w wr ∧ Lib.IsBuilder 64 5 b b (Lib.byteCells acc) wr ∧ b ≤ wr.heap.size ∧ acc.length ≤ 4 * j ∧ Hid (quoteGo l M (l.length + 1) (i + 1) = (quoteGo l M f j).map fun y => (acc ++ y.1, y.2))) (fun _ wr => l.length + 1 - natAt wr ⟨p, 1, none⟩)
  case atStart => exact ⟨i + 1, l.length + 1, [], by omega, by omega, k3, G3, HB, hs3, by simp, Lib.hid (by cases quoteGo l M (l.length + 1) (i + 1) <;> simp)⟩
  case round =>
    clear k3 G3 HB hs3
    obtain ⟨j, f, acc, j2, jf, k, G, HB, hs, hac, H⟩ := hrel
    obtain ⟨f, rfl⟩ : ∃ g, f = g + 1 := ⟨f - 1, by omega⟩
    have q0 := k.q0
    have q1 := k.q1
    have e3 := k.nat
    have B1 := B.chg G
    have NX := fun x : PW wr => next_any l j x.to (B1.purd x.pur).w
    have hgo : quoteGo l M (f + 1) j = _ := quoteGo.eq_2 l M j f
    by_cases hn : (chr l j).2 = 0
    · rw [if_pos (.inl hn)] at hgo
      have HS := Lib.hid (show quoteGo l M (l.length + 1) (i + 1) = none by rw [H.out, hgo]; rfl)
      rw [hn] at NX
      clear H hgo hn
      go_wp2
      refine wp_region_pur (by kernel_rfl) (by kernel_rfl) ?_
      repeat (go_big_quiet_step (((go_at_call 29; with_reducible exact quiet_pur (NX _)))))
      refine wpQuiet_nil ?_
      intro wz hz
      clear q0 q1 NX
      go_wp2
      go_ret2
      rw [HS.out]
      exact ⟨⟨[], rfl⟩, ⟨_, k.pur hz⟩, G.pur hz⟩
    have hn0 : 0 < (chr l j).2 := by omega
    have hce := chr_end hn
    have hok := chr_okc hn
    have w1' : IntKind.i64.wrap ((j : Int) + ((chr l j).2 : Int)) = (j : Int) + ((chr l j).2 : Int) := IntWalk.i64_in _ (by omega)
    have hcb : (chr l j).1 ≤ 1114111 := by unfold okc at hok; omega
    by_cases hbad : (chr l j).1 = 10 ∨ (chr l j).1 = 13
    · rw [if_pos (.inr hbad)] at hgo
      have HS := Lib.hid (show quoteGo l M (l.length + 1) (i + 1) = none by rw [H.out, hgo]; rfl)
      generalize (chr l j).1 = c at *
      generalize (chr l j).2 = n at *
      clear H hgo hn w1' hce hok hcb
      rcases hbad with rfl | rfl
      all_goals
        go_wp2
        refine wp_region_pur (by kernel_rfl) (by kernel_rfl) ?_
        repeat (go_big_quiet_step (((go_at_call 29; with_reducible exact quiet_pur (NX _)))))
        refine wpQuiet_nil ?_
        intro wz hz
        clear q0 q1 NX
        go_wp2
        go_ret2
        rw [HS.out]
        exact ⟨⟨[], rfl⟩, ⟨_, k.pur hz⟩, G.pur hz⟩
    rw [if_neg (fun g => g.elim hn hbad)] at hgo
    have d10 : (((chr l j).1 : Int) == 10) = false := by rw [beq_eq_false_iff_ne]; omega
    have d13 : (((chr l j).1 : Int) == 13) = false := by rw [beq_eq_false_iff_ne]; omega
    generalize (chr l j).1 = c at *
    generalize (chr l j).2 = n at *
    have w2' : IntKind.i32.wrap (c : Int) = (c : Int) := IntWalk.i32_in _ (by omega)
    go_wp2
    refine wp_region_pur (by kernel_rfl) (by kernel_rfl) ?_
    repeat (go_big_quiet_step (((go_at_call 29; with_reducible exact quiet_pur (NX _)))))
    refine wpQuiet_nil ?_
    intro wz hz
    have k2 := k.pur hz
    have c1 := k2.c1
    have f1 := k2.f 1
    have k4 := k2.seti (j + n) ((j : Int) + (n : Int)) (by omega)
    have HB2 := bld_chg (bld_chg HB (Chg.of_pur (S := [p]) hz) hpB) (chg1 p wz 1 (.int .i64 ((j : Int) + (n : Int)))) hpB
    have G4 := (G.pur hz).trans (chg1 p wz 1 (.int .i64 ((j : Int) + (n : Int))))
    have hs4 : b ≤ (wz.setCell ⟨p, 1, none⟩ (.int .i64 ((j : Int) + (n : Int)))).heap.size := by have := hz.size; simp [World.setCell]; omega
    have B4 := B.chg G4
    clear q0 q1 NX k2 HB hs hn hbad k
    by_cases hcm : c = M
    · rw [if_pos hcm] at hgo
      have HS := Lib.hid (show quoteGo l M (l.length + 1) (i + 1) = some (acc, j + n) by rw [H.out, hgo]; simp)
      have dm : ((c : Int) == (M : Int)) = true := by rw [beq_iff_eq]; omega
      clear H hgo hcm
      go_wp2_with (go_at_call 47; refine (Tryz.Builder_String_any b _ acc _ HB2 hs4).mono ?_)
      rintro e w5 ⟨rfl, hb5⟩
      have G5 := G4.below hb5 hwB hb5.size
      go_wp2
      go_ret2
      rw [HS.out]
      exact ⟨rfl, (hb5.block p hpB).trans k4, G5⟩
    rw [if_neg hcm] at hgo
    have dm : ((c : Int) == (M : Int)) = false := by rw [beq_eq_false_iff_ne]; omega
    by_cases h92 : c = 92
    · rw [if_pos h92] at hgo
      have EA := escape_any k4 B4 hce hl
      rcases hx : escape l (j + n) with _ | ⟨t, k⟩
      · rw [hx] at hgo EA
        have HS := Lib.hid (show quoteGo l M (l.length + 1) (i + 1) = none by rw [H.out, hgo]; rfl)
        subst h92
        clear H hgo hx hcm
        go_wp2_with fail
        refine EA.mono ?_
        rintro e w5 ⟨⟨t, rfl⟩, ⟨j5, k5⟩, g5⟩
        go_wp2
        go_ret2
        rw [HS.out]
        exact ⟨⟨[], rfl⟩, ⟨_, k5⟩, G4.trans g5⟩
      · rw [hx] at hgo EA
        have ht := escape_t l _ t k hx
        have hk := escape_le hx
        have HS := Lib.hid (show quoteGo l M (l.length + 1) (i + 1) = (quoteGo l M f k).map fun y => ((acc ++ t) ++ y.1, y.2) by
          rw [H.out, hgo]
          cases hq : quoteGo l M f k <;> simp [hq])
        subst h92
        clear H hgo hx hcm
        go_wp2_with fail
        refine EA.mono ?_
        rintro e w5 ⟨rfl, k5, g5⟩
        have HB5 := bld_chg HB2 g5 hpB
        have hs5 : b ≤ w5.heap.size := by have := g5.size; omega
        go_wp2_with fail
        refine (bld_write b b acc t w5 HB5 (by omega) hs5).mono ?_
        rintro e w6 ⟨rfl, HB6, hb6⟩
        have k6 : Lb w6 p l k ln v := (hb6.block p hpB).trans k5
        have G6 := (G4.trans g5).below hb6 hwB hb6.size
        have e6 := k6.nat
        go_wp2
        go_roundw
        case rel => exact ⟨k, f, acc ++ t, by omega, by omega, k6, G6, HB6, by have := hb6.size; omega, by simp; omega, HS⟩
        case measure => rw [e3, e6]; omega
    · rw [if_neg h92] at hgo
      have d92 : ((c : Int) == 92) = false := by rw [beq_eq_false_iff_ne]; omega
      have HS := Lib.hid (show quoteGo l M (l.length + 1) (i + 1) = (quoteGo l M f (j + n)).map fun y => ((acc ++ units c) ++ y.1, y.2) by
        rw [H.out, hgo]
        cases quoteGo l M f (j + n) <;> simp)
      have WD := fun w' hT => widec_any c hok w' hT
      have he := encode_enc c hok
      have hu := units_le c
      generalize units c = t at *
      clear H hgo hcm h92
      go_wp2_with fail
      refine (WD _ B4.w).mono ?_
      rintro e w5 ⟨rfl, p5⟩
      have HB5 := bld_chg HB2 (Chg.of_pur (S := [p]) p5) hpB
      have hs5 : b ≤ w5.heap.size := by have := p5.size; omega
      go_wp2_with fail
      refine (bld_write b b acc t w5 HB5 (by omega) hs5).mono ?_
      rintro e w6 ⟨rfl, HB6, hb6⟩
      have k6 : Lb w6 p l (j + n) ln v := (hb6.block p hpB).trans (k4.pur p5)
      have G6 := (G4.pur p5).below hb6 hwB hb6.size
      have e6 := k6.nat
      go_wp2
      go_roundw
      case rel => exact ⟨j + n, f, acc ++ t, by omega, by omega, k6, G6, HB6, by have := hb6.size; omega, by simp; omega, HS⟩
      case measure => rw [e3, e6]; omega
end Lx
end Go.Proofs.YtepmneongpbglaaGreatDoor
