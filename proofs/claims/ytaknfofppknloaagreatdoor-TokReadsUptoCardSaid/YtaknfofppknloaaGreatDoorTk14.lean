/- Layer 2: an instruction. -/
import Derived.Test.YtaknfofppknloaaGreatDoorTk12
import Derived.Test.YtaknfofppknloaaGreatDoorTk13
namespace Go.Proofs.YtaknfofppknloaaGreatDoor
open Go Go.RowKit
set_option linter.all false
namespace Tk
theorem enc_low (c : Nat) (h : c < 128) : enc c = [UInt8.ofNat c] := by unfold enc; rw [if_pos h]
theorem enc_high (c : Nat) (h : 128 ≤ c) (hc : okc c) : ∃ x r, enc c = x :: r ∧ 128 ≤ x.toNat := by
  have hb : c ≤ 1114111 := by unfold okc at hc; omega
  unfold enc
  rw [if_neg (by omega)]
  split
  · exact ⟨_, _, rfl, by rw [UInt8.toNat_ofNat']; omega⟩
  · split
    · exact ⟨_, _, rfl, by rw [UInt8.toNat_ofNat']; omega⟩
    · exact ⟨_, _, rfl, by rw [UInt8.toNat_ofNat']; omega⟩
theorem fold_narrow : ∀ (cs : Cs) (t : List UInt8), (∀ c ∈ cs, okc c) → (∀ b ∈ t, b.toNat < 128) → foldEq (narrow cs) t = decide (cs.map small = t.map fun b => smallB b.toNat)
  | [], t, _, _ => by cases t <;> simp [narrow, foldEq]
  | c :: cs, t, hc, ht => by
    have hn : narrow (c :: cs) = enc c ++ narrow cs := by simp [narrow]
    rw [hn]
    by_cases h : c < 128
    · rw [enc_low c h]
      have e : (UInt8.ofNat c).toNat = c := by rw [UInt8.toNat_ofNat']; omega
      cases t with
      | nil => simp [foldEq]
      | cons b t =>
        rw [List.singleton_append, foldEq_cons, fold_narrow cs t (fun c hc' => hc c (by simp [hc'])) (fun b hb => ht b (by simp [hb])), e]
        simp only [List.map_cons, List.cons.injEq, Bool.decide_and]
        rfl
    · obtain ⟨x, r, e, hx⟩ := enc_high c (by omega) (hc c (by simp))
      rw [e, List.cons_append]
      cases t with
      | nil => simp [foldEq]
      | cons b t =>
        have hb := ht b (by simp)
        have h1 : smallB x.toNat ≠ smallB b.toNat := by unfold smallB; repeat (first | split | omega)
        have h2 : small c ≠ smallB b.toNat := by unfold small smallB; repeat (first | split | omega)
        rw [foldEq_cons, decide_eq_false h1]
        simp [h2]
theorem fold_any2 (cs : Cs) (t : List UInt8) (w : World) (hF : FoldW w) (hc : ∀ c ∈ cs, okc c) (ht : ∀ b ∈ t, plainF b.toNat) (hl : cs.length ≤ 100000) (hl2 : t.length ≤ 1000) :
    Calls Tryz.prog 53 #[.string ⟨(narrow cs).toArray⟩, .string ⟨t.toArray⟩] w fun e w' => e = .returned (.bool (decide (cs.map small = t.map fun b => smallB b.toNat))) ∧ Pur w w' := by
  rw [← fold_narrow cs t hc (fun b hb => (ht b hb).1)]
  exact fold_text (narrow cs) t w hF ht (by have := narrow_len cs; omega) hl2
theorem name_ok {xs nm q : Cs} (h : name xs = .ok (nm, q)) : xs = nm ++ q ∧ nm.length ≤ 64 ∧ nm ≠ [] := by
  unfold name at h
  split at h
  · rename_i hb
    split at h
    · cases h
    · rename_i hl
      cases h
      refine ⟨(List.takeWhile_append_dropWhile).symm, by omega, ?_⟩
      cases xs with
      | nil => simp [hd] at hb
      | cons c r =>
        simp only [hd] at hb
        rw [List.takeWhile_cons, if_pos (by simp [goesOn, hb])]
        simp
  · cases h
theorem FoldW.chg {S : List Nat} {w w' : World} (h : FoldW w) (hc : Chg S w w') (hs : 1 ∉ S) : FoldW w' := by
  unfold FoldW Lib.TabIs World.var? at h ⊢
  rw [show Tryz.prog.globalNamed "unicode.asciiFold" = some 1 by kernel_rfl] at h ⊢
  simp only [Option.bind_some] at h ⊢
  have hlt : 1 < w.heap.size := by
    rcases Nat.lt_or_ge 1 w.heap.size with h' | h'
    · exact h'
    · rw [Array.getElem?_eq_none h'] at h; cases h
  rw [hc.block _ hlt hs]
  exact h
theorem xml_plain : ∀ b ∈ ([120, 109, 108] : List UInt8), plainF b.toNat := by unfold plainF; decide
theorem utf_plain : ∀ b ∈ ([85, 84, 70, 45, 56] : List UInt8), plainF b.toNat := by unfold plainF; decide
set_option maxRecDepth 100000 in
set_option maxHeartbeats 8000000 in
theorem instr_any {w : World} {p : Pl} {d : Sd} (h : At w p d) (hF : FoldW w) (hg : 1 ∉ p.all) (hi : d.i + 2 ≤ d.cs.length) : Calls Tryz.prog 25 #[.pointer (some ⟨p.s, 0, none⟩)] w fun e w' => Gives p d w (instr d.rest) (fun _ => .tuple #[]) e w' := by
  have hcl := h.clen
  have c1 := h.c1
  have f1 := h.f 1
  have hgs : 1 ∉ [p.s] := fun hm => hg (by simp at hm; rw [hm]; simp [Pl.all])
  have ws : IntKind.i64.wrap ((d.i : Int) + 2) = (d.i : Int) + 2 := IntWalk.i64_in _ (by omega)
  have h0 := h.seti (d.i + 2) ((d.i : Int) + 2) (by omega)
  have g0 : Chg [p.s] w (w.setCell ⟨p.s, 1, none⟩ (.int .i64 ((d.i : Int) + 2))) := (Chg.refl _ _).setCell (.inl (by simp)) _
  have hF0 := hF.chg g0 hgs
  have HC := Lib.hid (show instr d.rest = (name (d.cs.drop (d.i + 2))).and fun nm r =>
    if nm.map small = [120, 109, 108] then .error (d.rest.length, 21)
    else if pre [63, 62] r then .ok ((), r.drop 2)
    else if hd blank r then (untilT [63, 62] r).and fun _ z => .ok ((), z)
    else .error (r.length, 21) by unfold instr Sd.rest; rw [List.drop_drop])
  have NM := name_any h0 hi
  simp only [Sd.rest] at NM
  rcases hn : name (d.cs.drop (d.i + 2)) with ⟨k, n⟩ | ⟨nm, r⟩
  · rw [hn] at NM HC
    clear hn
    go_enter Tryz.func25, Tryz.ntmps25
    go_wp2_with fail
    refine NM.mono ?_
    intro e w6 hf
    obtain ⟨b, rfl, hf2⟩ := id hf
    go_wp2
    refine ⟨rfl, ?_⟩
    rw [HC.out]
    exact Flt.after g0 hf
  rw [hn] at NM HC
  simp only [and_ok] at HC
  obtain ⟨n1, n2, n3⟩ := name_ok hn
  have hok : ∀ c ∈ nm, okc c := fun c hc => allowed_okc (h.okcs c (List.mem_of_mem_drop (show c ∈ d.cs.drop (d.i + 2) by rw [n1]; simp [hc])))
  have FO := fun w hF => fold_any2 nm [120, 109, 108] w hF hok xml_plain (by omega) (by decide)
  have hsm : ([120, 109, 108] : List UInt8).map (fun b => smallB b.toNat) = [120, 109, 108] := by decide
  rw [hsm] at FO
  clear hn n1 n3 hsm
  by_cases hx : nm.map small = [120, 109, 108]
  · rw [if_pos hx] at HC
    rw [decide_eq_true hx] at FO
    clear hx
    go_enter Tryz.func25, Tryz.ntmps25
    go_wp2_with fail
    refine NM.mono ?_
    rintro e w1 ⟨rfl, i1, a1, b1, d1, h1, g1⟩
    simp only at a1 b1 d1 h1
    replace a1 := Lib.hid a1
    go_wp2_with fail
    refine (FO _ (hF0.chg g1 hgs)).mono ?_
    rintro e w2 ⟨rfl, p2⟩
    have h2 := h1.pur p2
    go_wp2_with fail
    refine (fail_any h2 [p.s] d.i 21 (by omega)).mono ?_
    intro e w6 hf
    obtain ⟨b, rfl, hf2⟩ := id hf
    go_wp2
    refine ⟨rfl, ?_⟩
    rw [HC.out]
    simp only [Gives]
    rw [rest_len, show d.cs.length - (d.cs.length - d.i) = d.i by omega]
    exact Flt.after ((g0.trans g1).pur p2) hf
  rw [if_neg hx] at HC
  rw [decide_eq_false hx] at FO
  clear hx
  rcases hp : pre [63, 62] r with _ | _
  rotate_left
  · rw [hp] at HC
    have hlen := pre_len hp
    go_enter Tryz.func25, Tryz.ntmps25
    go_wp2_with fail
    refine NM.mono ?_
    rintro e w1 ⟨rfl, i1, a1, b1, d1, h1, g1⟩
    simp only at a1 b1 d1 h1
    go_wp2_with fail
    refine (FO _ (hF0.chg g1 hgs)).mono ?_
    rintro e w2 ⟨rfl, p2⟩
    have h2 := h1.pur p2
    have AT := at_any h2 [63, 62] d1 (by decide)
    have en : nats [63, 62] = [63, 62] := rfl
    simp only [Sd.rest] at AT
    rw [en, a1, hp] at AT
    have a1l : i1 + 2 ≤ d.cs.length := by
      have := congrArg List.length a1
      rw [List.length_drop] at this
      simp only [List.length_cons, List.length_nil] at hlen
      omega
    have HR := Lib.hid (show d.cs.drop (i1 + 2) = r.drop 2 by rw [← a1, List.drop_drop])
    clear hp a1 hlen
    go_wp2_with fail
    refine AT.mono ?_
    rintro e w3 ⟨rfl, p3⟩
    have h3 := h2.pur p3
    have c1 := h3.c1
    have f1 := h3.f 1
    simp only at c1
    have w1 : IntKind.i64.wrap ((i1 : Int) + 2) = (i1 : Int) + 2 := IntWalk.i64_in _ (by omega)
    have h4 := h3.seti (i1 + 2) ((i1 : Int) + 2) (by omega)
    go_wp2
    refine bodyPost_end (results_none rfl _ _ _) rfl ?_
    rw [HC.out]
    exact ⟨rfl, i1 + 2, HR.out, by omega, by omega, h4, (((g0.trans g1).pur p2).pur p3).setCell (.inl (by simp)) _⟩
  rw [hp] at HC
  simp only [Bool.false_eq_true, if_false] at HC
  rcases hb : hd blank r with _ | _
  · rw [hb] at HC
    simp only [Bool.false_eq_true, if_false] at HC
    go_enter Tryz.func25, Tryz.ntmps25
    go_wp2_with fail
    refine NM.mono ?_
    rintro e w1 ⟨rfl, i1, a1, b1, d1, h1, g1⟩
    simp only at a1 b1 d1 h1
    go_wp2_with fail
    refine (FO _ (hF0.chg g1 hgs)).mono ?_
    rintro e w2 ⟨rfl, p2⟩
    have h2 := h1.pur p2
    have AT := at_any h2 [63, 62] d1 (by decide)
    have en : nats [63, 62] = [63, 62] := rfl
    simp only [Sd.rest] at AT
    rw [en, a1, hp] at AT
    have PK : ∀ w', (hp : Pur w2 w') → _ := fun w' hp => peek_any (h2.pur hp)
    simp only [Sd.rest] at PK
    have BL := fun w => blank_any (pk (d.cs.drop i1)) w (pk_bd h2 i1).1
    rw [on_pk, a1, hb] at BL
    rw [a1] at PK
    have hrl : r.length = d.cs.length - i1 := by rw [← a1, List.length_drop]
    clear hp a1 hb
    go_wp2_with fail
    refine AT.mono ?_
    rintro e w3 ⟨rfl, p3⟩
    go_wp2_with fail
    refine (PK _ p3).mono ?_
    rintro e w4 ⟨rfl, p4⟩
    go_wp2_with fail
    refine (BL _).mono ?_
    rintro e w5 ⟨rfl, rfl⟩
    have h4 := h2.pur (p3.trans p4)
    have c1 := h4.c1
    simp only at c1
    go_wp2_with fail
    refine (fail_any h4 [p.s] i1 21 (by omega)).mono ?_
    intro e w6 hf
    obtain ⟨b, rfl, hf2⟩ := id hf
    go_wp2
    refine ⟨rfl, ?_⟩
    rw [HC.out]
    simp only [Gives]
    rw [hrl, show d.cs.length - (d.cs.length - i1) = i1 by omega]
    exact Flt.after (((g0.trans g1).pur p2).pur (p3.trans p4)) hf
  · rw [hb] at HC
    simp only [if_true] at HC
    go_enter Tryz.func25, Tryz.ntmps25
    go_wp2_with fail
    refine NM.mono ?_
    rintro e w1 ⟨rfl, i1, a1, b1, d1, h1, g1⟩
    simp only at a1 b1 d1 h1
    go_wp2_with fail
    refine (FO _ (hF0.chg g1 hgs)).mono ?_
    rintro e w2 ⟨rfl, p2⟩
    have h2 := h1.pur p2
    have AT := at_any h2 [63, 62] d1 (by decide)
    have en : nats [63, 62] = [63, 62] := rfl
    simp only [Sd.rest] at AT
    rw [en, a1, hp] at AT
    have PK : ∀ w', (hp : Pur w2 w') → _ := fun w' hp => peek_any (h2.pur hp)
    simp only [Sd.rest] at PK
    have BL := fun w => blank_any (pk (d.cs.drop i1)) w (pk_bd h2 i1).1
    rw [on_pk, a1, hb] at BL
    have UN : ∀ w', (hp : Pur w2 w') → _ := fun w' hp => until_any (h2.pur hp) d1 [63, 62] (by decide) (by decide)
    simp only [Sd.rest] at UN
    rw [en] at UN
    rw [a1] at PK UN
    have HR := Lib.hid a1
    clear hp a1 hb
    go_wp2_with fail
    refine AT.mono ?_
    rintro e w3 ⟨rfl, p3⟩
    go_wp2_with fail
    refine (PK _ p3).mono ?_
    rintro e w4 ⟨rfl, p4⟩
    go_wp2_with fail
    refine (BL _).mono ?_
    rintro e w5 ⟨rfl, rfl⟩
    have G4 := ((g0.trans g1).pur p2).pur (p3.trans p4)
    rcases hu : untilT [63, 62] r with ⟨k, n⟩ | ⟨x, z⟩
    · rw [hu] at HC UN
      simp only [and_error] at HC
      go_wp2_with fail
      refine (UN _ (p3.trans p4)).mono ?_
      intro e w6 hf
      obtain ⟨b, rfl, hf2⟩ := id hf
      go_wp2
      refine ⟨rfl, ?_⟩
      rw [HC.out]
      exact Flt.after G4 hf
    · rw [hu] at HC UN
      simp only [and_ok] at HC
      go_wp2_with fail
      refine (UN _ (p3.trans p4)).mono ?_
      rintro e w6 ⟨v, rfl, ⟨i6, a6, b6, d6, h6, g6⟩, -⟩
      simp only at a6 b6 d6 h6
      replace a6 := Lib.hid a6
      go_wp2
      refine bodyPost_end (results_none rfl _ _ _) rfl ?_
      rw [HC.out]
      exact ⟨rfl, i6, a6.out, by omega, d6, h6, G4.trans g6⟩
end Tk
end Go.Proofs.YtaknfofppknloaaGreatDoor
