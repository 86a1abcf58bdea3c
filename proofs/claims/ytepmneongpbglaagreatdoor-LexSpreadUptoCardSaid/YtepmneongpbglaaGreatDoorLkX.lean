/- Layer 5: what stands behind a backslash. strings.Builder at this dump: copyCheck, WriteString; a builder beside a block that turns. Layer 5: a text in its marks. Layer 5: words and names. Layer 5, in plain words: a number's bytes are plain ones; plain bytes as a wide text. -/
import Derived.Test.YtepmneongpbglaaGreatDoorLk6
import Derived.Test.YtepmneongpbglaaGreatDoorShelf
import Derived.Test.YtepmneongpbglaaGreatDoorLu
import Derived.Test.YtepmneongpbglaaGreatDoorBlk
import Derived.Lib.Builder
import Derived.Lib.AppendStr
import Derived.Lib.UnsafeStr
import Derived.Laws.Externs
import Derived.Test.YtepmneongpbglaaGreatDoorLk3
import Derived.Lib.IndexMore
import Derived.Test.YtepmneongpbglaaGreatDoorLxP
import Derived.Test.YtepmneongpbglaaGreatDoorUtfPure4
namespace Go.Proofs.YtepmneongpbglaaGreatDoor
open Go Go.RowKit
set_option linter.all false
namespace Lx
/-- how an escape ends -/
def EscPost (w : World) (p : Nat) (l : List UInt8) (ln : Bool) (v : Value) (r : Option (List UInt8 × Nat)) (e : Ending) (w' : World) : Prop := match r with
  | some (t, j) => e = .returned (.tuple #[.string ⟨t.toArray⟩, .bool true]) ∧ Lb w' p l j ln v ∧ Chg [p] w w'
  | none => (∃ t : List UInt8, e = .returned (.tuple #[.string ⟨t.toArray⟩, .bool false])) ∧ (∃ j, Lb w' p l j ln v) ∧ Chg [p] w w'
theorem escI_no {c : Nat} (h : plainEsc c = none) : escI c = -1 := by
  unfold plainEsc at h
  unfold escI
  repeat (split at h; · cases h)
  rename_i h1 h2 h3 h4 h5 h6
  rw [if_neg h1, if_neg h2, if_neg h3, if_neg h4, if_neg h5, if_neg h6]
theorem plain_way {c v : Nat} (h : plainEsc c = some v) : (c = 98 ∧ v = 8) ∨ (c = 116 ∧ v = 9) ∨ (c = 110 ∧ v = 10) ∨ (c = 118 ∧ v = 11) ∨ (c = 102 ∧ v = 12) ∨ (c = 114 ∧ v = 13) := by
  unfold plainEsc at h
  repeat (split at h; · (cases h; omega))
  cases h
set_option maxRecDepth 100000 in
set_option maxHeartbeats 32000000 in
theorem escape_any {w0 w : World} {p i : Nat} {l : List UInt8} {ln : Bool} {v : Value} (h : Lb w p l i ln v) (B : LB w0 p w) (hi : i ≤ l.length) (hl : l.length ≤ 1000000) :
    Calls Tryz.prog 48 #[.pointer (some ⟨p, 0, none⟩)] w fun e w' => EscPost w p l ln v (escape l i) e w' := by
  have q0 := h.q0
  have q1 := h.q1
  have NX := fun x : PW w => next_any l i x.to (B.purd x.pur).w
  by_cases hn : (chr l i).2 = 0
  · have HS := Lib.hid (show escape l i = none by unfold escape; simp only; rw [if_pos hn])
    rw [hn] at NX
    clear hn
    go_enter Tryz.func48, Tryz.ntmps48
    go_wp2
    refine wp_region_pur (by kernel_rfl) (by kernel_rfl) ?_
    repeat (go_big_quiet_step (((go_at_call 29; with_reducible exact quiet_pur (NX _)))))
    refine wpQuiet_nil ?_
    intro wq hq
    clear q0 q1 NX
    go_wp2
    go_ret2
    rw [HS.out]
    exact ⟨⟨[], rfl⟩, ⟨_, h.pur hq⟩, Chg.of_pur hq⟩
  · have hn0 : 0 < (chr l i).2 := by omega
    have hce := chr_end hn
    have hok := chr_okc hn
    have hE : escape l i = (match plainEsc (chr l i).1 with
      | some v => some ([0, UInt8.ofNat v], i + (chr l i).2)
      | none =>
        if (chr l i).1 = 120 then (hexGo l 2 (i + (chr l i).2) 0).map fun x => (unit8 x.1, x.2)
        else if (chr l i).1 = 117 then (hexGo l 4 (i + (chr l i).2) 0).map fun x => (unit8 x.1, x.2)
        else if (chr l i).1 = 48 then (if digit (by8 l (i + (chr l i).2)) then none else some ([0, 0], i + (chr l i).2))
        else if 49 ≤ (chr l i).1 ∧ (chr l i).1 ≤ 57 then none
        else if (chr l i).1 = 13 ∧ by8 l (i + (chr l i).2) = 10 then some ([], i + (chr l i).2 + 1)
        else if endsC (chr l i).1 then some ([], i + (chr l i).2)
        else some (units (chr l i).1, i + (chr l i).2)) := by unfold escape; simp only; rw [if_neg hn]; rfl
    have w1' : IntKind.i64.wrap ((i : Int) + ((chr l i).2 : Int)) = (i : Int) + ((chr l i).2 : Int) := IntWalk.i64_in _ (by omega)
    have hcb : (chr l i).1 ≤ 1114111 := by unfold okc at hok; omega
    generalize (chr l i).1 = c at *
    generalize (chr l i).2 = n at *
    have w2' : IntKind.i32.wrap (c : Int) = (c : Int) := IntWalk.i32_in _ (by omega)
    have IR := fun w => irune_any c hok w
    clear hn
    go_enter Tryz.func48, Tryz.ntmps48
    go_wp2
    refine wp_region_pur (by kernel_rfl) (by kernel_rfl) ?_
    repeat (go_big_quiet_step (((go_at_call 29; with_reducible exact quiet_pur (NX _)))))
    refine wpQuiet_nil ?_
    intro wq hq
    have k0 := h.pur hq
    have c1 := k0.c1
    have f1 := k0.f 1
    have k1 := k0.seti (i + n) ((i : Int) + (n : Int)) (by omega)
    have G1 := (Chg.of_pur (S := [p]) hq).trans (chg1 p wq 1 (.int .i64 ((i : Int) + (n : Int))))
    generalize i + n = j at *
    clear q0 q1 NX
    go_wp2_with fail
    refine (IR _).mono ?_
    rintro e w2 ⟨rfl, p2⟩
    have k2 := k1.pur p2
    have G2 := G1.pur p2
    have B2 := B.chg G2
    clear IR k0 k1 G1
    rcases hp : plainEsc c with _ | pv
    · rw [hp] at hE
      simp only at hE
      have e1 := escI_no hp
      have e1i := Lib.hid e1
      by_cases h120 : c = 120
      · subst h120
        have hE2 := hE.trans (if_pos rfl)
        have DG := digits_any 2 (by decide) k2 hce hl
        rcases hx : hexGo l 2 j 0 with _ | ⟨u, j2⟩
        · rw [hx] at DG hE2
          have HS := Lib.hid hE2
          clear hE hE2 hp hx
          rw [e1]
          clear e1
          go_wp2_with fail
          refine DG.mono ?_
          rintro e w3 ⟨rfl, ⟨j3, k3⟩, g3⟩
          go_wp2
          go_ret2
          rw [HS.out]
          exact ⟨⟨[], rfl⟩, ⟨_, k3⟩, G2.trans g3⟩
        · rw [hx] at DG hE2
          have HS := Lib.hid hE2
          clear hE hE2 hp hx
          rw [e1]
          clear e1
          go_wp2_with fail
          refine DG.mono ?_
          rintro e w3 ⟨rfl, k3, g3⟩
          go_wp2
          go_ret2
          rw [HS.out]
          exact ⟨rfl, k3, G2.trans g3⟩
      rw [if_neg h120] at hE
      by_cases h117 : c = 117
      · subst h117
        have hE2 := hE.trans (if_pos rfl)
        have DG := digits_any 4 (by decide) k2 hce hl
        rcases hx : hexGo l 4 j 0 with _ | ⟨u, j2⟩
        · rw [hx] at DG hE2
          have HS := Lib.hid hE2
          clear hE hE2 hp hx
          rw [e1]
          clear e1
          go_wp2_with fail
          refine DG.mono ?_
          rintro e w3 ⟨rfl, ⟨j3, k3⟩, g3⟩
          go_wp2
          go_ret2
          rw [HS.out]
          exact ⟨⟨[], rfl⟩, ⟨_, k3⟩, G2.trans g3⟩
        · rw [hx] at DG hE2
          have HS := Lib.hid hE2
          clear hE hE2 hp hx
          rw [e1]
          clear e1
          go_wp2_with fail
          refine DG.mono ?_
          rintro e w3 ⟨rfl, k3, g3⟩
          go_wp2
          go_ret2
          rw [HS.out]
          exact ⟨rfl, k3, G2.trans g3⟩
      rw [if_neg h117] at hE
      have PK := fun (w' : World) (hp : Pur w2 w') => peek_any (k2.pur hp)
      have hb8 := by8_lt l j
      by_cases h48 : c = 48
      · subst h48
        rw [if_pos rfl] at hE
        have DG := fun w => digit_any (by8 l j) w
        rcases hx : digit (by8 l j) with _ | _
        all_goals
          rw [hx] at DG hE
          have HS := Lib.hid hE
          clear hE hp hx
          rw [e1]
          clear e1
          go_wp2_with fail
          refine (PK _ (Pur.refl _)).mono ?_
          rintro e w3 ⟨rfl, p3⟩
          go_wp2_with fail
          refine (DG _).mono ?_
          rintro e w4 ⟨rfl, rfl⟩
          go_wp2
          go_ret2
          rw [HS.out]
          first | exact ⟨rfl, k2.pur p3, G2.pur p3⟩ | exact ⟨⟨[0, 0], rfl⟩, ⟨_, k2.pur p3⟩, G2.pur p3⟩
      rw [if_neg h48] at hE
      have d120 : ((c : Int) == 120) = false := by rw [beq_eq_false_iff_ne]; omega
      have d117 : ((c : Int) == 117) = false := by rw [beq_eq_false_iff_ne]; omega
      have d48 : ((c : Int) == 48) = false := by rw [beq_eq_false_iff_ne]; omega
      rw [e1]
      clear e1 h120 h117 h48
      by_cases h49 : 49 ≤ c ∧ c ≤ 57
      · rw [if_pos h49] at hE
        have HS := Lib.hid hE
        have g1 : decide ((49 : Int) ≤ (c : Int)) = true := by rw [decide_eq_true_eq]; omega
        have g2 : decide ((c : Int) ≤ 57) = true := by rw [decide_eq_true_eq]; omega
        clear hE hp h49
        go_wp2
        go_ret2
        rw [HS.out]
        exact ⟨⟨[], rfl⟩, ⟨_, k2⟩, G2⟩
      rw [if_neg h49] at hE
      have g3 : (decide ((49 : Int) ≤ (c : Int)) && decide ((c : Int) ≤ 57)) = false := by
        rw [Bool.and_eq_false_iff, decide_eq_false_iff_not, decide_eq_false_iff_not]; omega
      have g3' : (decide ((49 : Int) ≤ (c : Int)) = false) ∨ (decide ((49 : Int) ≤ (c : Int)) = true ∧ decide ((c : Int) ≤ 57) = false) := by
        rcases g1 : decide ((49 : Int) ≤ (c : Int)) with _ | _
        · exact .inl rfl
        · rw [g1] at g3; exact .inr ⟨rfl, by simpa using g3⟩
      clear g3
      by_cases h13 : c = 13
      · subst h13
        clear d120 d117 d48 h49 g3'
        by_cases h10 : by8 l j = 10
        · rw [if_pos ⟨rfl, h10⟩] at hE
          have HS := Lib.hid hE
          have hjl : j < l.length := at_lt (by omega)
          have w5' : IntKind.i64.wrap ((j : Int) + 1) = (j : Int) + 1 := IntWalk.i64_in _ (by omega)
          rw [h10] at PK
          clear hE hp h10 hb8
          go_wp2_with fail
          refine (PK _ (Pur.refl _)).mono ?_
          rintro e w3 ⟨rfl, p3⟩
          have k3 := k2.pur p3
          have c1 := k3.c1
          have f1 := k3.f 1
          have k4 := k3.seti (j + 1) ((j : Int) + 1) (by omega)
          have G4 := (G2.pur p3).trans (chg1 p w3 1 (.int .i64 ((j : Int) + 1)))
          go_wp2
          go_ret2
          rw [HS.out]
          exact ⟨rfl, k4, G4⟩
        · rw [if_neg (fun g => h10 g.2), if_pos (by decide)] at hE
          have HS := Lib.hid hE
          have d10 : ((by8 l j : Int) == 10) = false := by rw [beq_eq_false_iff_ne]; omega
          clear hE hp h10 hb8
          go_wp2_with fail
          refine (PK _ (Pur.refl _)).mono ?_
          rintro e w3 ⟨rfl, p3⟩
          go_wp2
          go_ret2
          rw [HS.out]
          exact ⟨rfl, k2.pur p3, G2.pur p3⟩
      rw [if_neg (fun g => h13 g.1)] at hE
      have d13 : ((c : Int) == 13) = false := by rw [beq_eq_false_iff_ne]; omega
      rcases hEc : endsC c with _ | _
      · rw [hEc, if_neg (by simp)] at hE
        obtain ⟨y1, y2, y3, y4⟩ := ends_no hEc
        have HS := Lib.hid hE
        have WD := fun w' hT => widec_any c hok w' hT
        have he := encode_enc c hok
        clear hE hp hEc h13 h49 PK hb8
        rcases g3' with g1 | ⟨g1, g2⟩
        all_goals
          go_wp2_with fail
          refine (WD _ B2.w).mono ?_
          rintro e w3 ⟨rfl, p3⟩
          go_wp2
          go_ret2
          rw [HS.out]
          exact ⟨rfl, k2.pur p3, G2.pur p3⟩
      · rw [hEc, if_pos rfl] at hE
        have HS := Lib.hid hE
        have hw : c = 10 ∨ c = 8232 ∨ c = 8233 := by
          have : c = 10 ∨ c = 13 ∨ c = 8232 ∨ c = 8233 := by simpa [endsC] using hEc
          omega
        clear hE hp hEc h13 h49 PK hb8 d120 d117 d48 d13 g3'
        rcases hw with rfl | rfl | rfl
        all_goals
          go_wp2
          go_ret2
          rw [HS.out]
          exact ⟨rfl, k2, G2⟩
    · rw [hp] at hE
      simp only at hE
      have HS := Lib.hid hE
      have hw := plain_way hp
      clear hE hp
      rcases hw with ⟨rfl, rfl⟩ | ⟨rfl, rfl⟩ | ⟨rfl, rfl⟩ | ⟨rfl, rfl⟩ | ⟨rfl, rfl⟩ | ⟨rfl, rfl⟩
      · have WD : ∀ w', LW w' → Calls Tryz.prog 46 #[.string ⟨#[8]⟩] w' fun e w'' => e = .returned (.string ⟨#[0, 8]⟩) ∧ Pur w' w'' := fun w' hT => widec_any 8 (by unfold okc; omega) w' hT
        rw [show escI 98 = 0 from rfl]
        go_wp2_with fail
        refine (WD _ B2.w).mono ?_
        rintro e w3 ⟨rfl, p3⟩
        go_wp2
        go_ret2
        rw [HS.out]
        exact ⟨rfl, k2.pur p3, G2.pur p3⟩
      · have WD : ∀ w', LW w' → Calls Tryz.prog 46 #[.string ⟨#[9]⟩] w' fun e w'' => e = .returned (.string ⟨#[0, 9]⟩) ∧ Pur w' w'' := fun w' hT => widec_any 9 (by unfold okc; omega) w' hT
        rw [show escI 116 = 1 from rfl]
        go_wp2_with fail
        refine (WD _ B2.w).mono ?_
        rintro e w3 ⟨rfl, p3⟩
        go_wp2
        go_ret2
        rw [HS.out]
        exact ⟨rfl, k2.pur p3, G2.pur p3⟩
      · have WD : ∀ w', LW w' → Calls Tryz.prog 46 #[.string ⟨#[10]⟩] w' fun e w'' => e = .returned (.string ⟨#[0, 10]⟩) ∧ Pur w' w'' := fun w' hT => widec_any 10 (by unfold okc; omega) w' hT
        rw [show escI 110 = 2 from rfl]
        go_wp2_with fail
        refine (WD _ B2.w).mono ?_
        rintro e w3 ⟨rfl, p3⟩
        go_wp2
        go_ret2
        rw [HS.out]
        exact ⟨rfl, k2.pur p3, G2.pur p3⟩
      · have WD : ∀ w', LW w' → Calls Tryz.prog 46 #[.string ⟨#[11]⟩] w' fun e w'' => e = .returned (.string ⟨#[0, 11]⟩) ∧ Pur w' w'' := fun w' hT => widec_any 11 (by unfold okc; omega) w' hT
        rw [show escI 118 = 3 from rfl]
        go_wp2_with fail
        refine (WD _ B2.w).mono ?_
        rintro e w3 ⟨rfl, p3⟩
        go_wp2
        go_ret2
        rw [HS.out]
        exact ⟨rfl, k2.pur p3, G2.pur p3⟩
      · have WD : ∀ w', LW w' → Calls Tryz.prog 46 #[.string ⟨#[12]⟩] w' fun e w'' => e = .returned (.string ⟨#[0, 12]⟩) ∧ Pur w' w'' := fun w' hT => widec_any 12 (by unfold okc; omega) w' hT
        rw [show escI 102 = 4 from rfl]
        go_wp2_with fail
        refine (WD _ B2.w).mono ?_
        rintro e w3 ⟨rfl, p3⟩
        go_wp2
        go_ret2
        rw [HS.out]
        exact ⟨rfl, k2.pur p3, G2.pur p3⟩
      · have WD : ∀ w', LW w' → Calls Tryz.prog 46 #[.string ⟨#[13]⟩] w' fun e w'' => e = .returned (.string ⟨#[0, 13]⟩) ∧ Pur w' w'' := fun w' hT => widec_any 13 (by unfold okc; omega) w' hT
        rw [show escI 114 = 5 from rfl]
        go_wp2_with fail
        refine (WD _ B2.w).mono ?_
        rintro e w3 ⟨rfl, p3⟩
        go_wp2
        go_ret2
        rw [HS.out]
        exact ⟨rfl, k2.pur p3, G2.pur p3⟩
end Lx
end Go.Proofs.YtepmneongpbglaaGreatDoor
namespace Go.Proofs.YtepmneongpbglaaGreatDoor
open Go Go.RowKit
set_option linter.all false
theorem bld_size : ∃ j, Tryz.prog.info? 64 = some j ∧ j.size = 2 := by
  have h : (Tryz.prog.info? 64).map (·.size) = some 2 := by kernel_rfl
  exact Option.map_eq_some_iff.1 h
theorem bld_lies : liesAt Tryz.prog Tryz.prog.depth 64 (2 / Tryz.prog.cellsOf 64) 0 64 1 = true := by kernel_rfl
theorem byte_info : (Tryz.prog.info? 5).map (fun i => (i.zero, i.size, i.bytes)) = some (some (.int .u8 0), 1, 1) := by kernel_rfl
set_option maxRecDepth 100000 in
set_option maxHeartbeats 1000000 in
theorem copyCheck_used (b : Nat) (w : World) (h0 : w.cell? ⟨b, 0, none⟩ = some (.pointer (some ⟨b, 0, none⟩))) :
    Calls Tryz.prog 63 #[.pointer (some ⟨b, 0, none⟩)] w fun e w' => e = .returned (.tuple #[]) ∧ w' = w := by
  obtain ⟨j, hj, _⟩ := bld_size
  go_enter Tryz.func63, Tryz.ntmps63
  go_wp2
  rw [Lib.run_neq_ptr_same w _ Tryz.underlying61 hj]
  go_wp2
  go_end0
  exact ⟨rfl, rfl⟩
set_option maxRecDepth 100000 in
set_option maxHeartbeats 1000000 in
theorem copyCheck_fresh (b : Nat) (w : World) (h0 : w.cell? ⟨b, 0, none⟩ = some (.pointer none)) (hsh : w.shape? b = some (64, 2)) (hfz : w.frozen? ⟨b, 0, none⟩ = false) :
    Calls Tryz.prog 63 #[.pointer (some ⟨b, 0, none⟩)] w fun e w' => e = .returned (.tuple #[]) ∧ w' = w.setCell ⟨b, 0, none⟩ (.pointer (some ⟨b, 0, none⟩)) := by
  obtain ⟨j, hj, hjs⟩ := bld_size
  go_enter Tryz.func63, Tryz.ntmps63
  go_wp2
  rw [Lib.run_to_unsafe w ⟨b, 0, none⟩ Tryz.underlying61 Tryz.underlying96 hj (by rw [hjs]; decide) hsh (Nat.zero_lt_succ 1)]
  simp only [Result.andThen]
  rw [Oper.upon_value]
  go_wp2
  rw [run_callFunc_extern Tryz.func76 (by kernel_rfl) (by kernel_rfl) (by kernel_rfl) (e := Extern.AbiNoEscape.same) (by kernel_rfl)]
  rw [Lib.run_noEscape]
  simp only [Result.andThen]
  rw [Oper.upon_value]
  go_wp2
  rw [Lib.run_from_unsafe w ⟨b, 0, none⟩ Tryz.underlying96 Tryz.underlying61 hj hsh bld_lies]
  simp only [Result.andThen]
  rw [Oper.upon_value]
  go_wp2
  go_end0
  exact ⟨rfl, rfl⟩
theorem copyCheck_any (B b : Nat) (bs : List Value) (w : World) (h : Lib.IsBuilder 64 5 B b bs w) :
    Calls Tryz.prog 63 #[.pointer (some ⟨b, 0, none⟩)] w fun e w' => e = .returned (.tuple #[]) ∧ (Lib.BuilderAt 64 5 B b (.pointer (some ⟨b, 0, none⟩)) bs w' ∧ Below B w w') := by
  rcases h with h | h
  · refine (copyCheck_fresh b w h.cell0 h.shape h.frozen0).mono ?_
    rintro e w' ⟨rfl, rfl⟩
    exact ⟨rfl, h.used _, (Below.refl B w).setCell (p := ⟨b, 0, none⟩) h.1 _⟩
  · refine (copyCheck_used b w h.cell0).mono ?_
    rintro e w' ⟨rfl, rfl⟩
    exact ⟨rfl, h, Below.refl B _⟩
set_option maxRecDepth 100000 in
set_option maxHeartbeats 2000000 in
theorem bld_str (B b : Nat) (bs : List Value) (s : ByteArray) (w : World) (h : Lib.IsBuilder 64 5 B b bs w) (hlen : bs.length + s.size ≤ 140737488355328) (hBw : B ≤ w.heap.size) :
    Calls Tryz.prog 49 #[.pointer (some ⟨b, 0, none⟩), .string s] w fun e w' => e = .returned (.tuple #[.int .i64 s.size, .nilIface]) ∧ (Lib.BuilderAt 64 5 B b (.pointer (some ⟨b, 0, none⟩)) (bs ++ Lib.strCells s) w' ∧ Below B w w') := by
  obtain ⟨i0, hi, hz0, hz1, hz2⟩ := info_parts byte_info
  go_enter Tryz.func49, Tryz.ntmps49
  go_wp2_with (go_at_call 63; refine (copyCheck_any B b bs _ h).mono ?_)
  rintro e w1 ⟨rfl, h1, hb1⟩
  obtain ⟨hB, v, hbk, hown, hne⟩ := h1
  have c0 : w1.cell? ⟨b, 0, none⟩ = some (.pointer (some ⟨b, 0, none⟩)) := by rw [Lib.cell_of_heap hbk]; rfl
  have c1 : w1.cell? ⟨b, 1, none⟩ = some v := by rw [Lib.cell_of_heap hbk]; rfl
  go_wp2_with (at_builtin; refine Lib.wpList_append_own_string _ rfl _ _ 62 9 rfl B 5 i0 Tryz.underlying62 Tryz.underlying9 hi hz0 hz1 hz2 _ _ _ rfl hown s rfl ?c3 ?c4 ?c5 ?_)
  case c3 => unfold maxLen; omega
  case c4 => omega
  case c5 => have := hb1.size; omega
  intro v' w2 hown' hgrow _
  have hlt : b < w1.heap.size := by
    rcases Nat.lt_or_ge b w1.heap.size with h' | h'
    · exact h'
    · simp [Array.getElem?_eq_none h'] at hbk
  have hb2 : w2.heap[b]? = some (.cells #[.pointer (some ⟨b, 0, none⟩), v] 64 (0, 0)) := by
    rw [hgrow.block b hlt (fun e => hne e.symm)]
    exact hbk
  have d0 : w2.cell? ⟨b, 0, none⟩ = some (.pointer (some ⟨b, 0, none⟩)) := by rw [Lib.cell_of_heap hb2]; rfl
  have d1 : w2.cell? ⟨b, 1, none⟩ = some v := by rw [Lib.cell_of_heap hb2]; rfl
  have f1 : w2.frozen? ⟨b, 1, none⟩ = false := Lib.frozen_of_heap hb2 1
  obtain ⟨ao, n', cap, rfl⟩ : ∃ ao n' cap, v' = .slice ao n' cap := by
    rcases hown'.2 with ⟨hv, _⟩ | ⟨g, cap, cur, hv, _⟩
    · exact ⟨_, _, _, hv⟩
    · exact ⟨_, _, _, hv⟩
  go_wp2
  go_ret2
  refine ⟨rfl, ?_, ?_⟩
  · exact Lib.BuilderAt.put (T := 64) (e := 5) hB hb2 (bs' := bs ++ Lib.strCells s) (by simpa [Lib.strCells_length] using hown') (by decide)
  · exact (hb1.grown hgrow (by have := hb1.size; omega) (fun k hk => (hown.lt k hk).1)).setCell (p := ⟨b, 1, none⟩) hB _
theorem byteCells_length (l : List UInt8) : (Lib.byteCells l).length = l.length := by simp [Lib.byteCells]
theorem strCells_list (s : List UInt8) : Lib.strCells ⟨s.toArray⟩ = Lib.byteCells s := by
  unfold Lib.strCells Lib.byteCells
  simp
theorem byteCells_append (a b : List UInt8) : Lib.byteCells a ++ Lib.byteCells b = Lib.byteCells (a ++ b) := by simp [Lib.byteCells]
theorem bldAt_chg {T e : TypeId} {B b p : Nat} {q : Value} {bs : List Value} {w w' : World} (h : Lib.BuilderAt T e B b q bs w) (hc : Chg [p] w w') (hp : p < B) : Lib.BuilderAt T e B b q bs w' := by
  have hlt := h.lt
  obtain ⟨hB, v, hb, hown, hne⟩ := h
  exact ⟨hB, v, bk_chg hb hc (by simp; omega), row_chg hown hc (fun g hg hm => by simp at hm; subst hm; have := (hown.lt _ hg).1; omega), hne⟩
theorem bld_chg {T e : TypeId} {B b p : Nat} {bs : List Value} {w w' : World} (h : Lib.IsBuilder T e B b bs w) (hc : Chg [p] w w') (hp : p < B) : Lib.IsBuilder T e B b bs w' :=
  h.imp (fun h => bldAt_chg h hc hp) (fun h => bldAt_chg h hc hp)
theorem Chg.below {S : List Nat} {w w1 w2 : World} {B : Nat} (h : Chg S w w1) (k : Below B w1 w2) (hB : w.heap.size ≤ B) (hs : w1.heap.size ≤ w2.heap.size) : Chg S w w2 :=
  ⟨k.os.trans h.os, k.tape.trans h.tape, k.output.trans h.output, Nat.le_trans h.size hs, fun i hi hn => (k.block i (by omega)).trans (h.block i hi hn)⟩
theorem bld_write (B b : Nat) (acc s : List UInt8) (wr : World) (h : Lib.IsBuilder 64 5 B b (Lib.byteCells acc) wr) (hlen : acc.length + s.length ≤ 140737488355327) (hB : B ≤ wr.heap.size) :
    Calls Tryz.prog 49 #[.pointer (some ⟨b, 0, none⟩), .string ⟨s.toArray⟩] wr fun e w' => e = .returned (.tuple #[.int .i64 s.length, .nilIface]) ∧ (Lib.IsBuilder 64 5 B b (Lib.byteCells (acc ++ s)) w' ∧ Below B wr w') := by
  have hz : (ByteArray.mk s.toArray).size = s.length := by show s.toArray.size = _; simp
  refine (bld_str B b _ ⟨s.toArray⟩ wr h (by rw [byteCells_length, hz]; omega) hB).mono ?_
  rintro e w' ⟨rfl, h1, h2⟩
  rw [strCells_list, byteCells_append] at h1
  rw [hz]
  exact ⟨rfl, .inr h1, h2⟩
end Go.Proofs.YtepmneongpbglaaGreatDoor
namespace Go.Proofs.YtepmneongpbglaaGreatDoor
open Go Go.RowKit
set_option linter.all false
namespace Lx
theorem units_le (c : Nat) : (units c).length ≤ 4 := by
  unfold units; split <;> simp [unit8]
theorem escape_t (l : List UInt8) (i : Nat) (t : List UInt8) (j : Nat) (h : escape l i = some (t, j)) : t.length ≤ 4 := by
  unfold escape at h
  simp only at h
  split at h
  · cases h
  split at h
  · cases h; simp
  split at h
  · obtain ⟨x, -, e⟩ := Option.map_eq_some_iff.1 h
    cases e; simp [unit8]
  split at h
  · obtain ⟨x, -, e⟩ := Option.map_eq_some_iff.1 h
    cases e; simp [unit8]
  split at h
  · split at h
    · cases h
    · cases h; simp
  split at h
  · cases h
  split at h
  · cases h; simp
  split at h
  · cases h; simp
  · cases h; exact units_le _
set_option maxRecDepth 100000 in
set_option maxHeartbeats 32000000 in
theorem text_any {w0 w : World} {p i M : Nat} {l : List UInt8} {ln : Bool} {v : Value} (h : Lb w p l i ln v) (B : LB w0 p w) (hi : i < l.length) (hl : l.length ≤ 1000000) (hM : by8 l i = M) :
    Calls Tryz.prog 37 #[.pointer (some ⟨p, 0, none⟩)] w fun e w' => EscPost w p l ln v (quoteGo l M (l.length + 1) (i + 1)) e w' := by
  have q0 := h.q0
  have q1 := h.q1
  have hi' : (i : Int) < l.length := by omega
  have hpw := bk_lt h
  have w1' : IntKind.i64.wrap ((i : Int) + 1) = (i : Int) + 1 := IntWalk.i64_in _ (by omega)
  have hb8 := by8_lt l i
  have w2' : IntKind.i64.wrap (M : Int) = (M : Int) := IntWalk.i64_in _ (by omega)
  go_enter Tryz.func37, Tryz.ntmps37
  go_wp2
  refine wp_region_pur (by kernel_rfl) (by kernel_rfl) ?_
  repeat (go_big_quiet_step (fail))
  refine wpQuiet_nil ?_
  intro wq hq
  have k0 := h.pur hq
  have c1 := k0.c1
  have f1 := k0.f 1
  have k1 := k0.seti (i + 1) ((i : Int) + 1) (by omega)
  have G1 := (Chg.of_pur (S := [p]) hq).trans (chg1 p wq 1 (.int .i64 ((i : Int) + 1)))
  clear q0 q1
  obtain ⟨W2, hW2⟩ : ∃ W2, W2 = wq.setCell ⟨p, 1, none⟩ (.int .i64 ((i : Int) + 1)) := ⟨_, rfl⟩
  have hsz : W2.heap.size = wq.heap.size := by rw [hW2]; simp [World.setCell]
  have hqs := hq.size
  rw [← hW2] at k1 G1
  obtain ⟨W3, hW3⟩ : ∃ W3, W3 = W2.alloc (.cells #[.pointer none, .slice none 0 0] 64) := ⟨_, rfl⟩
  have HB : Lib.IsBuilder 64 5 wq.heap.size wq.heap.size (Lib.byteCells []) W3 := by rw [hW3, ← hsz]; exact Lib.fresh_isBuilder _ _ W2
  have p3 : Pur W2 W3 := by rw [hW3]; exact (Pur.refl _).alloc _
  have hs3 : wq.heap.size ≤ W3.heap.size := by have := p3.size; omega
  have k3 := k1.pur p3
  have G3 := G1.pur p3
  have hpB : p < wq.heap.size := by omega
  have hwB : w.heap.size ≤ wq.heap.size := hqs
  clear k0 k1 G1 p3 hsz hqs
  go_wp2
  rw [← hW2, ← hW3]
  clear c1 f1 hW2 hW3
  generalize wq.heap.size = b at *
  go_loopw [28] (fun _ wr => ∃ (j f : Nat) (acc : List UInt8), j ≤ l.length ∧ l.length < j + f ∧ Lb wr p l j ln v ∧ Chg [p] w wr ∧ Lib.IsBuilder 64 5 b b (Lib.byteCells acc) wr ∧ b ≤ wr.heap.size ∧ acc.length ≤ 4 * j ∧ Hid (quoteGo l M (l.length + 1) (i + 1) = (quoteGo l M f j).map fun y => (acc ++ y.1, y.2))) (fun _ wr => l.length + 1 - natAt wr ⟨p, 1, none⟩)
  case atStart => exact ⟨i + 1, l.length + 1, [], by omega, by omega, k3, G3, HB, hs3, by simp, Lib.hid (by cases quoteGo l M (l.length + 1) (i + 1) <;> simp)⟩
  case round =>
    clear k3 G3 HB hs3
    obtain ⟨j, f, acc, j2, jf, k, G, HB, hs, hac, H⟩ := hrel
    obtain ⟨f, rfl⟩ : ∃ g, f = g + 1 := ⟨f - 1, by omega⟩
    have q0 := k.q0
    have q1 := k.q1
    have e3 := k.nat
    have B1 := B.chg G
    have NX := fun x : PW wr => next_any l j x.to (B1.purd x.pur).w
    have hgo : quoteGo l M (f + 1) j = _ := quoteGo.eq_2 l M j f
    by_cases hn : (chr l j).2 = 0
    · rw [if_pos (.inl hn)] at hgo
      have HS := Lib.hid (show quoteGo l M (l.length + 1) (i + 1) = none by rw [H.out, hgo]; rfl)
      rw [hn] at NX
      clear H hgo hn
      go_wp2
      refine wp_region_pur (by kernel_rfl) (by kernel_rfl) ?_
      repeat (go_big_quiet_step (((go_at_call 29; with_reducible exact quiet_pur (NX _)))))
      refine wpQuiet_nil ?_
      intro wz hz
      clear q0 q1 NX
      go_wp2
      go_ret2
      rw [HS.out]
      exact ⟨⟨[], rfl⟩, ⟨_, k.pur hz⟩, G.pur hz⟩
    have hn0 : 0 < (chr l j).2 := by omega
    have hce := chr_end hn
    have hok := chr_okc hn
    have w1' : IntKind.i64.wrap ((j : Int) + ((chr l j).2 : Int)) = (j : Int) + ((chr l j).2 : Int) := IntWalk.i64_in _ (by omega)
    have hcb : (chr l j).1 ≤ 1114111 := by unfold okc at hok; omega
    by_cases hbad : (chr l j).1 = 10 ∨ (chr l j).1 = 13
    · rw [if_pos (.inr hbad)] at hgo
      have HS := Lib.hid (show quoteGo l M (l.length + 1) (i + 1) = none by rw [H.out, hgo]; rfl)
      generalize (chr l j).1 = c at *
      generalize (chr l j).2 = n at *
      clear H hgo hn w1' hce hok hcb
      rcases hbad with rfl | rfl
      all_goals
        go_wp2
        refine wp_region_pur (by kernel_rfl) (by kernel_rfl) ?_
        repeat (go_big_quiet_step (((go_at_call 29; with_reducible exact quiet_pur (NX _)))))
        refine wpQuiet_nil ?_
        intro wz hz
        clear q0 q1 NX
        go_wp2
        go_ret2
        rw [HS.out]
        exact ⟨⟨[], rfl⟩, ⟨_, k.pur hz⟩, G.pur hz⟩
    rw [if_neg (fun g => g.elim hn hbad)] at hgo
    have d10 : (((chr l j).1 : Int) == 10) = false := by rw [beq_eq_false_iff_ne]; omega
    have d13 : (((chr l j).1 : Int) == 13) = false := by rw [beq_eq_false_iff_ne]; omega
    generalize (chr l j).1 = c at *
    generalize (chr l j).2 = n at *
    have w2' : IntKind.i32.wrap (c : Int) = (c : Int) := IntWalk.i32_in _ (by omega)
    go_wp2
    refine wp_region_pur (by kernel_rfl) (by kernel_rfl) ?_
    repeat (go_big_quiet_step (((go_at_call 29; with_reducible exact quiet_pur (NX _)))))
    refine wpQuiet_nil ?_
    intro wz hz
    have k2 := k.pur hz
    have c1 := k2.c1
    have f1 := k2.f 1
    have k4 := k2.seti (j + n) ((j : Int) + (n : Int)) (by omega)
    have HB2 := bld_chg (bld_chg HB (Chg.of_pur (S := [p]) hz) hpB) (chg1 p wz 1 (.int .i64 ((j : Int) + (n : Int)))) hpB
    have G4 := (G.pur hz).trans (chg1 p wz 1 (.int .i64 ((j : Int) + (n : Int))))
    have hs4 : b ≤ (wz.setCell ⟨p, 1, none⟩ (.int .i64 ((j : Int) + (n : Int)))).heap.size := by have := hz.size; simp [World.setCell]; omega
    have B4 := B.chg G4
    clear q0 q1 NX k2 HB hs hn hbad k
    by_cases hcm : c = M
    · rw [if_pos hcm] at hgo
      have HS := Lib.hid (show quoteGo l M (l.length + 1) (i + 1) = some (acc, j + n) by rw [H.out, hgo]; simp)
      have dm : ((c : Int) == (M : Int)) = true := by rw [beq_iff_eq]; omega
      clear H hgo hcm
      go_wp2_with (go_at_call 47; refine (Tryz.Builder_String_any b _ acc _ HB2 hs4).mono ?_)
      rintro e w5 ⟨rfl, hb5⟩
      have G5 := G4.below hb5 hwB hb5.size
      go_wp2
      go_ret2
      rw [HS.out]
      exact ⟨rfl, (hb5.block p hpB).trans k4, G5⟩
    rw [if_neg hcm] at hgo
    have dm : ((c : Int) == (M : Int)) = false := by rw [beq_eq_false_iff_ne]; omega
    by_cases h92 : c = 92
    · rw [if_pos h92] at hgo
      have EA := escape_any k4 B4 hce hl
      rcases hx : escape l (j + n) with _ | ⟨t, k⟩
      · rw [hx] at hgo EA
        have HS := Lib.hid (show quoteGo l M (l.length + 1) (i + 1) = none by rw [H.out, hgo]; rfl)
        subst h92
        clear H hgo hx hcm
        go_wp2_with fail
        refine EA.mono ?_
        rintro e w5 ⟨⟨t, rfl⟩, ⟨j5, k5⟩, g5⟩
        go_wp2
        go_ret2
        rw [HS.out]
        exact ⟨⟨[], rfl⟩, ⟨_, k5⟩, G4.trans g5⟩
      · rw [hx] at hgo EA
        have ht := escape_t l _ t k hx
        have hk := escape_le hx
        have HS := Lib.hid (show quoteGo l M (l.length + 1) (i + 1) = (quoteGo l M f k).map fun y => ((acc ++ t) ++ y.1, y.2) by
          rw [H.out, hgo]
          cases hq : quoteGo l M f k <;> simp [hq])
        subst h92
        clear H hgo hx hcm
        go_wp2_with fail
        refine EA.mono ?_
        rintro e w5 ⟨rfl, k5, g5⟩
        have HB5 := bld_chg HB2 g5 hpB
        have hs5 : b ≤ w5.heap.size := by have := g5.size; omega
        go_wp2_with fail
        refine (bld_write b b acc t w5 HB5 (by omega) hs5).mono ?_
        rintro e w6 ⟨rfl, HB6, hb6⟩
        have k6 : Lb w6 p l k ln v := (hb6.block p hpB).trans k5
        have G6 := (G4.trans g5).below hb6 hwB hb6.size
        have e6 := k6.nat
        go_wp2
        go_roundw
        case rel => exact ⟨k, f, acc ++ t, by omega, by omega, k6, G6, HB6, by have := hb6.size; omega, by simp; omega, HS⟩
        case measure => rw [e3, e6]; omega
    · rw [if_neg h92] at hgo
      have d92 : ((c : Int) == 92) = false := by rw [beq_eq_false_iff_ne]; omega
      have HS := Lib.hid (show quoteGo l M (l.length + 1) (i + 1) = (quoteGo l M f (j + n)).map fun y => ((acc ++ units c) ++ y.1, y.2) by
        rw [H.out, hgo]
        cases quoteGo l M f (j + n) <;> simp)
      have WD := fun w' hT => widec_any c hok w' hT
      have he := encode_enc c hok
      have hu := units_le c
      generalize units c = t at *
      clear H hgo hcm h92
      go_wp2_with fail
      refine (WD _ B4.w).mono ?_
      rintro e w5 ⟨rfl, p5⟩
      have HB5 := bld_chg HB2 (Chg.of_pur (S := [p]) p5) hpB
      have hs5 : b ≤ w5.heap.size := by have := p5.size; omega
      go_wp2_with fail
      refine (bld_write b b acc t w5 HB5 (by omega) hs5).mono ?_
      rintro e w6 ⟨rfl, HB6, hb6⟩
      have k6 : Lb w6 p l (j + n) ln v := (hb6.block p hpB).trans (k4.pur p5)
      have G6 := (G4.pur p5).below hb6 hwB hb6.size
      have e6 := k6.nat
      go_wp2
      go_roundw
      case rel => exact ⟨j + n, f, acc ++ t, by omega, by omega, k6, G6, HB6, by have := hb6.size; omega, by simp; omega, HS⟩
      case measure => rw [e3, e6]; omega
end Lx
end Go.Proofs.YtepmneongpbglaaGreatDoor
namespace Go.Proofs.YtepmneongpbglaaGreatDoor
open Go Go.RowKit
set_option linter.all false
namespace Lx
theorem has32 (c : UInt8) : ∀ s : List UInt8, decide (0 ≤ Lib.indexByte s c) = s.contains c
  | [] => rfl
  | b :: r => by
    have ih := has32 c r
    rw [Lib.indexByte]
    by_cases h : b = c
    · subst h; simp
    · have hb : (b == c) = false := by simpa using h
      rw [hb]
      have hge := Lib.indexByte_ge r c
      have hbc : (c == b) = false := by rw [beq_eq_false_iff_ne]; exact fun e => h e.symm
      rw [List.contains_cons, hbc, Bool.false_or, ← ih]
      simp only [Bool.false_eq_true, if_false]
      by_cases hm : Lib.indexByte r c = -1
      · rw [hm]; rfl
      · have hm2 : (Lib.indexByte r c == -1) = false := by rw [beq_eq_false_iff_ne]; exact hm
        rw [hm2]
        simp only [Bool.false_eq_true, if_false]
        rw [decide_eq_decide]
        omega
theorem has_idx (t l : List UInt8) : Lib.contains l t = (idx t l).isSome := by
  unfold Lib.contains
  rw [contains_idx]
  cases idx t l with
  | none => rfl
  | some k => simp [idxI]
set_option maxRecDepth 100000 in
set_option maxHeartbeats 4000000 in
theorem word_any (s : List UInt8) (w : World) (hT : LW w) (hs : s.length ≤ 1000000000) : Calls Tryz.prog 9 #[.string ⟨s.toArray⟩] w fun e w' => e = .returned (.bool (word s)) ∧ Pur w w' := by
  obtain ⟨m, hm⟩ := hT.mx
  have C1 := fun w => Tryz.strings_Contains_one ⟨s.toArray⟩ 32 w
  have C2 := Tryz.strings_Contains ⟨wordList.toArray⟩ ⟨(32 :: (s ++ [32])).toArray⟩ m w (by decide) hm
  have h1 : decide (0 ≤ Lib.indexByte s 32) = s.contains 32 := has32 32 s
  have h2 : Lib.contains wordList (32 :: (s ++ [32])) = (idx (32 :: (s ++ [32])) wordList).isSome := has_idx _ _
  have C1' : ∀ w, Calls Tryz.prog 17 #[.string ⟨s.toArray⟩, .string ⟨#[32]⟩] w fun e w' => e = .returned (.bool (s.contains 32)) ∧ w = w' := fun w => (C1 w).mono (by rintro e w' ⟨rfl, rfl⟩; exact ⟨by rw [← h1], rfl⟩)
  have C2' : Calls Tryz.prog 17 #[.string ⟨wordList.toArray⟩, .string ⟨(32 :: (s ++ [32])).toArray⟩] w fun e w' => e = .returned (.bool (idx (32 :: (s ++ [32])) wordList).isSome) ∧ w = w' := C2.mono (by rintro e w' ⟨rfl, rfl⟩; exact ⟨by rw [← h2], rfl⟩)
  clear C1 C2 h1 h2
  have hw : word s = (!s.isEmpty && (!s.contains 32 && (idx (32 :: (s ++ [32])) wordList).isSome)) := rfl
  rw [hw]
  rcases hE : s.isEmpty with _ | _
  · rcases hb : s.contains 32 with _ | _
    · rw [hb] at C1'
      generalize (idx (32 :: (s ++ [32])) wordList).isSome = r at *
      have z1 : ¬ 9223372036854775807 < s.length + 1 := by omega
      have z2 : ¬ 9223372036854775807 < s.length + 1 + 1 := by omega
      have z3 : ¬ 9223372036854775807 < 1 + s.length := by omega
      clear hw hm
      go_enter Tryz.func9, Tryz.ntmps9
      go_wp2_with fail
      refine (C1' _).mono ?_
      rintro e w1 ⟨rfl, rfl⟩
      go_wp2_with fail
      refine C2'.mono ?_
      rintro e w2 ⟨rfl, rfl⟩
      go_wp2
      go_ret
      exact ⟨rfl, Pur.refl _⟩
    · rw [hb] at C1'
      clear hw hm C2'
      go_enter Tryz.func9, Tryz.ntmps9
      go_wp2_with fail
      refine (C1' _).mono ?_
      rintro e w1 ⟨rfl, rfl⟩
      go_wp2
      go_ret
      exact ⟨rfl, Pur.refl _⟩
  · clear hw hm C2' C1'
    go_enter Tryz.func9, Tryz.ntmps9
    go_wp2
    go_ret
    exact ⟨rfl, Pur.refl _⟩
def spB (s : List UInt8) (k : Nat) : Bool := letter (by8 s k) || (!(k == 0) && digit (by8 s k))
theorem spelt_iff (s : List UInt8) (h : s ≠ []) : spelt s = true ↔ ∀ k, k < s.length → spB s k = true := by
  cases s with
  | nil => exact absurd rfl h
  | cons b r =>
    simp only [spelt, Bool.and_eq_true, List.all_eq_true]
    constructor
    · rintro ⟨h1, h2⟩ k hk
      cases k with
      | zero => simp [spB, by8, h1]
      | succ k =>
        have hk' : k < r.length := by simpa using hk
        have := h2 r[k] (List.getElem_mem hk')
        have e : by8 (b :: r) (k + 1) = r[k].toNat := by simp [by8, List.getD_eq_getElem?_getD, List.getElem?_eq_getElem hk']
        simp only [spB, e]
        simpa using this
    · intro h1
      refine ⟨by have := h1 0 (by simp); simpa [spB, by8] using this, fun c hc => ?_⟩
      obtain ⟨k, hk, rfl⟩ := List.mem_iff_getElem.1 hc
      have := h1 (k + 1) (by simpa using hk)
      have e : by8 (b :: r) (k + 1) = r[k].toNat := by simp [by8, List.getD_eq_getElem?_getD, List.getElem?_eq_getElem hk]
      simp only [spB, e] at this
      simpa using this
set_option maxRecDepth 100000 in
set_option maxHeartbeats 4000000 in
theorem name_any (s : List UInt8) (w : World) (hT : LW w) (hs : s.length ≤ 1000000000) : Calls Tryz.prog 11 #[.string ⟨s.toArray⟩] w fun e w' => e = .returned (.bool (nameB s)) ∧ Pur w w' := by
  go_enter Tryz.func11, Tryz.ntmps11
  go_wp2
  go_loopw [6] (fun k wr => ∃ n : Nat, n ≤ s.length ∧ k = .int .i64 n ∧ wr = w ∧ Hid (∀ k, k < n → spB s k = true)) (fun k _ => s.length + 1 - (intOf k).toNat)
  case atStart => exact ⟨0, by omega, rfl, rfl, Lib.hid (fun k hk => by omega)⟩
  case round =>
    obtain ⟨n, hn, rfl, rfl, H⟩ := hrel
    by_cases hlt : n < s.length
    · have hlt' : (n : Int) < s.length := by omega
      have wn : IntKind.i64.wrap ((n : Int) + 1) = (n : Int) + 1 := IntWalk.i64_in _ (by omega)
      have L := fun w => letter_any (by8 s n) w
      have D := fun w => digit_any (by8 s n) w
      have hne : s ≠ [] := fun e => by rw [e] at hlt; simp at hlt
      have hbad : spB s n = false → nameB s = false := fun hb => by
        unfold nameB
        have : spelt s = false := by
          rcases h : spelt s with _ | _
          · rfl
          · have := (spelt_iff s hne).1 h n hlt
            rw [hb] at this; cases this
        rw [this]; rfl
      have hgood : spB s n = true → ∀ k, k < n + 1 → spB s k = true := fun hb k hk => by
        rcases Nat.lt_or_ge k n with g | g
        · exact H.out k g
        · rw [show k = n by omega]; exact hb
      have hsp : spB s n = (letter (by8 s n) || (!(n == 0) && digit (by8 s n))) := rfl
      rw [hsp] at hbad hgood
      rcases hl : letter (by8 s n) with _ | _
      · rw [hl] at L hbad hgood
        by_cases h0 : n = 0
        · subst h0
          have HS := Lib.hid (hbad rfl)
          clear hbad hgood hsp H
          go_wp2_with fail
          refine (L _).mono ?_
          rintro e w1 ⟨rfl, rfl⟩
          go_wp2
          go_ret
          rw [HS.out]
          exact ⟨rfl, Pur.refl _⟩
        · have d0 : ((n : Int) == 0) = false := by rw [beq_eq_false_iff_ne]; omega
          have d0' : (n == 0) = false := by rw [beq_eq_false_iff_ne]; omega
          rw [d0'] at hbad hgood
          rcases hd : digit (by8 s n) with _ | _
          · rw [hd] at D hbad
            have HS := Lib.hid (hbad rfl)
            clear hbad hgood hsp H h0 d0'
            go_wp2_with fail
            refine (L _).mono ?_
            rintro e w1 ⟨rfl, rfl⟩
            go_wp2_with fail
            refine (D _).mono ?_
            rintro e w2 ⟨rfl, rfl⟩
            go_wp2
            go_ret
            rw [HS.out]
            exact ⟨rfl, Pur.refl _⟩
          · rw [hd] at D hgood
            have HS := Lib.hid (hgood rfl)
            clear hbad hgood hsp H h0 d0'
            go_wp2_with fail
            refine (L _).mono ?_
            rintro e w1 ⟨rfl, rfl⟩
            go_wp2_with fail
            refine (D _).mono ?_
            rintro e w2 ⟨rfl, rfl⟩
            go_wp2
            go_roundw
            case rel => exact ⟨n + 1, by omega, by go_num, trivial, HS⟩
            case measure => simp [intOf]; omega
      · rw [hl] at L hgood
        have HS := Lib.hid (hgood rfl)
        clear hbad hgood hsp H
        go_wp2_with fail
        refine (L _).mono ?_
        rintro e w1 ⟨rfl, rfl⟩
        go_wp2
        go_roundw
        case rel => exact ⟨n + 1, by omega, by go_num, trivial, HS⟩
        case measure => simp [intOf]; omega
    · obtain rfl : n = s.length := by omega
      have hlt' : ¬ (s.length : Int) < s.length := by omega
      have WD := word_any s wr hT hs
      have hnm : nameB s = (!s.isEmpty && !word s) := by
        unfold nameB
        cases hs0 : s with
        | nil => rfl
        | cons b r =>
          have hne : s ≠ [] := by rw [hs0]; simp
          have h3 := (spelt_iff s hne).2 H.out
          rw [hs0] at h3
          rw [h3]
          rfl
      rcases hE : s.isEmpty with _ | _
      · rcases hw : word s with _ | _
        all_goals
          have HS := Lib.hid (show nameB s = _ by rw [hnm, hE, hw])
          rw [hw] at WD
          clear H hnm hw
          go_wp2_with fail
          refine WD.mono ?_
          rintro e w1 ⟨rfl, p1⟩
          go_wp2
          go_ret
          rw [HS.out]
          exact ⟨rfl, p1⟩
      · have HS := Lib.hid (show nameB s = _ by rw [hnm, hE])
        clear WD H hnm
        go_wp2
        go_ret
        rw [HS.out]
        exact ⟨rfl, Pur.refl _⟩
end Lx
end Go.Proofs.YtepmneongpbglaaGreatDoor
namespace Go.Proofs.YtepmneongpbglaaGreatDoor
open Go Go.RowKit
set_option linter.all false
namespace Lx
/-- plain bytes as units -/
def w16 (t : List UInt8) : List UInt8 := t.flatMap fun b => [0, b]
theorem wide_plain (t : List UInt8) (h : ∀ b ∈ t, b.toNat < 128) : wideR t = (w16 t, 0, 0) := by
  have e1 : (t.map UInt8.toNat).flatMap enc = t := by
    induction t with
    | nil => rfl
    | cons b r ih =>
      have hb := h b (by simp)
      rw [List.map_cons, List.flatMap_cons, ih (fun c hc => h c (by simp [hc]))]
      unfold enc
      rw [if_pos hb]
      simp
  have e2 : (t.map UInt8.toNat).flatMap _root_.Go.Proofs.YtepmneongpbglaaGreatDoor.units = w16 t := by
    clear e1
    induction t with
    | nil => rfl
    | cons b r ih =>
      have hb := h b (by simp)
      rw [List.map_cons, List.flatMap_cons, ih (fun c hc => h c (by simp [hc]))]
      unfold _root_.Go.Proofs.YtepmneongpbglaaGreatDoor.units w16 unit8
      rw [if_neg (by omega), List.flatMap_cons, show b.toNat / 256 = 0 by omega, show b.toNat % 256 = b.toNat by omega]
      simp
  have := wideR_flat (t.map UInt8.toNat) (fun c hc => by
    obtain ⟨b, hb, rfl⟩ := List.mem_map.1 hc
    have := h b hb
    unfold okc; omega)
  rw [e1, e2] at this
  exact this
theorem run_all (q : Nat → Bool) (l : List UInt8) (i k : Nat) (h1 : i ≤ k) (h2 : k < run q l i) : q (by8 l k) = true := by
  have key : ∀ (xs : List UInt8) (m : Nat), m < runGo q xs → q (by8 xs m) = true := fun xs => by
    induction xs with
    | nil => intro m hm; simp [runGo] at hm
    | cons b r ih =>
      intro m hm
      rw [runGo] at hm
      split at hm
      · rename_i hb
        cases m with
        | zero => simpa [by8] using hb
        | succ m => have := ih m (by omega); simpa [by8] using this
      · omega
  have := key (l.drop i) (k - i) (by unfold run at h2; omega)
  have e : by8 (l.drop i) (k - i) = by8 l k := by
    unfold by8
    simp only [List.getD_eq_getElem?_getD, List.getElem?_drop]
    rw [show i + (k - i) = k by omega]
  rwa [e] at this
theorem digit_low {b : Nat} (h : digit b = true) : b < 128 := by simp [digit] at h; omega
theorem sixteen_low {b : Nat} (h : sixteen b = true) : b < 128 := by simp [sixteen] at h; omega
theorem ptd_low {l : List UInt8} {i a : Nat} (h : ∀ k, i ≤ k → k < a → by8 l k < 128) : ∀ k, i ≤ k → k < ptd l a → by8 l k < 128 := by
  intro k h1 h2
  unfold ptd at h2
  split at h2
  · rename_i g
    rcases Nat.lt_trichotomy k a with hk | hk | hk
    · exact h k h1 hk
    · subst hk; omega
    · exact digit_low (run_all digit l (a + 1) k (by omega) h2)
  · exact h k h1 h2
theorem sgn_low {l : List UInt8} {i a : Nat} (h : ∀ k, i ≤ k → k < a → by8 l k < 128) : ∀ k, i ≤ k → k < sgn l a → by8 l k < 128 := by
  intro k h1 h2
  unfold sgn at h2
  split at h2
  · rename_i g
    rcases Nat.lt_or_ge k a with hk | hk
    · exact h k h1 hk
    · obtain rfl : k = a := by omega
      omega
  · exact h k h1 h2
theorem num_low {l : List UInt8} {i e : Nat} (h : numEnd l i = some e) : ∀ k, i ≤ k → k < e → by8 l k < 128 := by
  unfold numEnd at h
  have h0 : ∀ k, i ≤ k → k < run digit l i → by8 l k < 128 := fun k h1 h2 => digit_low (run_all digit l i k h1 h2)
  have hp := ptd_low h0
  split at h
  · rename_i q
    split at h
    · cases h
    · cases h
      intro k h1 h2
      rcases Nat.lt_or_ge k (i + 2) with hk | hk
      · rcases (show k = i ∨ k = i + 1 by omega) with rfl | rfl
        · omega
        · omega
      · exact sixteen_low (run_all sixteen l (i + 2) k hk h2)
  split at h
  · cases h
  split at h
  · rename_i q
    split at h
    · cases h
    · cases h
      intro k h1 h2
      have hs : ∀ k, i ≤ k → k < sgn l (ptd l (run digit l i) + 1) → by8 l k < 128 := sgn_low (fun k h1 h2 => by
        rcases Nat.lt_or_ge k (ptd l (run digit l i)) with hk | hk
        · exact hp k h1 hk
        · obtain rfl : k = ptd l (run digit l i) := by omega
          omega)
      rcases Nat.lt_or_ge k (sgn l (ptd l (run digit l i) + 1)) with hk | hk
      · exact hs k h1 hk
      · exact digit_low (run_all digit l _ k hk h2)
  · cases h
    exact hp
theorem sub_low {l : List UInt8} {i e : Nat} (h : ∀ k, i ≤ k → k < e → by8 l k < 128) : ∀ b ∈ sub l i e, b.toNat < 128 := by
  intro b hb
  obtain ⟨k, hk, rfl⟩ := List.mem_iff_getElem.1 hb
  have hl := hk
  rw [length_sub] at hl
  have := h (i + k) (by omega) (by omega)
  have e2 : by8 (sub l i e) k = (sub l i e)[k].toNat := by simp [by8, List.getD_eq_getElem?_getD, List.getElem?_eq_getElem hk]
  rw [by8_sub, if_pos (by omega)] at e2
  omega
end Lx
end Go.Proofs.YtepmneongpbglaaGreatDoor
