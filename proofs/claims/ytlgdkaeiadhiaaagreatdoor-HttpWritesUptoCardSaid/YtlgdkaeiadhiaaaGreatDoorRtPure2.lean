/- Where a send goes: found and written again; no target of both; ids. No program in sight. -/
import Derived.Test.YtlgdkaeiadhiaaaGreatDoorRtPure
namespace Go.Proofs.YtlgdkaeiadhiaaaGreatDoor
open Go Go.RowKit
set_option linter.all false
theorem processor_none : processor [] = 1 := by decide
theorem processor_http : processor nHttp = 2 := by decide
theorem processor_scxml : processor nScxml = 1 := by decide
theorem rtFind_one {t typ : Bytes} (h : processor typ = 1) : rtFind t typ = said190 (internal t) := by rw [rtFind, if_pos h]
theorem rtFind_two {t typ : Bytes} (h : processor typ = 2) : rtFind t typ = said190 (url t) := by rw [rtFind, if_neg (by omega), if_pos h]
theorem prefix_take {p t : Bytes} (h : p <+: t) : p ++ t.drop p.length = t := by
  obtain ⟨r, rfl⟩ := h
  simp
theorem internal_text {t : Bytes} {b : Adr} (h : internal t = some b) : adrText b = some (t, []) := by
  unfold internal at h
  split at h
  · rename_i e; obtain rfl := Option.some.inj h; rw [e]; rfl
  split at h
  · rename_i e; obtain rfl := Option.some.inj h; rw [e]; rfl
  split at h
  · rename_i e; obtain rfl := Option.some.inj h; rw [e]; rfl
  split at h
  · rename_i e
    obtain rfl := Option.some.inj h
    have := prefix_take e.1
    simp only [adrText]
    rw [if_neg (by decide), if_neg (by decide), if_neg (by decide), if_pos trivial]
    show some (headS ++ t.drop headS.length, []) = _
    rw [this]
  split at h
  · rename_i e
    obtain rfl := Option.some.inj h
    have := prefix_take e.1
    simp only [adrText]
    rw [if_neg (by decide), if_neg (by decide), if_neg (by decide), if_neg (by decide), if_pos trivial]
    show some (headI ++ t.drop headI.length, []) = _
    rw [this]
  · cases h
theorem tw_len (p : UInt8) (s : Bytes) : (s.takeWhile (· != p)).length + (s.dropWhile (· != p)).length = s.length := by
  rw [← List.length_append, List.takeWhile_append_dropWhile]
theorem url_again {t : Bytes} {b : Adr} (h : url t = some b) : ∃ s, adrText b = some (s, nHttp) ∧ url s = some b := by
  obtain ⟨h1, h2, h3, h4, h5, h6, h7, h8, h9, h10, h11⟩ := url_shape h
  obtain ⟨k, i, ho, po, pa⟩ := b
  simp only at *
  subst h1 h2
  refine ⟨headH ++ ho ++ portText po ++ pa, ?_, ?_⟩
  · simp only [adrText]
    rw [if_neg (by decide), if_neg (by decide), if_neg (by decide), if_neg (by decide), if_neg (by decide), if_pos trivial]
  · refine url_text h4 h5 h6 h7 ?_
    have hho : ho.length ≤ 64 := by
      simp only [okHost, Bool.and_eq_true, decide_eq_true_eq] at h4
      exact h4.2
    have ht := prefix_take h3
    have hl7 : (t.drop headH.length).length + 7 = t.length := by
      have := congrArg List.length ht
      rw [List.length_append] at this
      have e : headH.length = 7 := rfl
      omega
    have e7 : t.drop headH.length = t.drop 7 := rfl
    rw [e7] at hl7
    generalize t.drop 7 = s at *
    have a1 := tw_len 47 s
    have a2 := tw_len 58 (hp s)
    have e1 : (s.takeWhile (· != 47)).length = (hp s).length := rfl
    have e2 : ((hp s).takeWhile (· != 58)).length = ho.length := by rw [h8]; rfl
    have hport : (portText po).length ≤ ((hp s).dropWhile (· != 58)).length ∧ (portText po).length ≤ 6 := by
      unfold portIn at h10
      split at h10
      · obtain rfl := Option.some.inj h10
        simp [portText]
      · rename_i hne
        have hi := (portOf_some.1 h10).2.1
        have hl := congrArg List.length hi
        rw [List.length_drop] at hl
        have hpos : 0 < ((hp s).dropWhile (· != 58)).length := List.length_pos_iff.2 hne
        unfold portText
        split
        · simp
        · rw [List.length_cons, hl]
          refine ⟨by omega, ?_⟩
          rw [← hl, itoa_pos h6, Lib.decDigits_length]
          have : Lib.nDigits po.toNat ≤ 5 := by
            have h5 : po.toNat < 10 ^ 5 := by omega
            rcases Nat.lt_or_ge po.toNat 10 with g | g
            · rw [Lib.nDigits_small g]; omega
            rcases Nat.lt_or_ge po.toNat 100 with g2 | g2
            · rw [Lib.nDigits_unique 1 _ (by omega) (by omega)]; omega
            rcases Nat.lt_or_ge po.toNat 1000 with g3 | g3
            · rw [Lib.nDigits_unique 2 _ (by omega) (by omega)]; omega
            rcases Nat.lt_or_ge po.toNat 10000 with g4 | g4
            · rw [Lib.nDigits_unique 3 _ (by omega) (by omega)]; omega
            · rw [Lib.nDigits_unique 4 _ (by omega) (by omega)]; omega
          omega
    have e7' : headH.length = 7 := rfl
    simp only [List.length_append, e7']
    have hpa : pa.length ≤ (s.dropWhile (· != 47)).length ∨ (pa.length = 1 ∧ (s.dropWhile (· != 47)).length = 0) := by
      rw [h9]
      unfold pathOf
      split
      · rename_i e; right; rw [e]; exact ⟨rfl, rfl⟩
      · left; exact Nat.le_refl _
    omega
theorem write_ok' {a : Adr} {s typ : Bytes} (h : adrText a = some (s, typ)) (hf : rtFind s typ = (a, 0)) : rtWrite a = (s, 0) := by
  unfold rtWrite
  rw [h]
  simp only
  rw [if_pos hf]
/-- what is found is written to be found again -/
theorem find_write {t typ : Bytes} {b : Adr} (h : rtFind t typ = (b, 0)) : ∃ s, rtWrite b = (s, 0) ∧ rtFind s typ = (b, 0) := by
  by_cases h1 : processor typ = 1
  · rw [rtFind_one h1] at h
    cases hi : internal t with
    | none => rw [hi] at h; simp [said190] at h
    | some c =>
      rw [hi] at h
      obtain rfl : c = b := by simpa [said190] using h
      refine ⟨t, write_ok' (internal_text hi) ?_, ?_⟩
      · rw [rtFind_one processor_none, hi]; rfl
      · rw [rtFind_one h1, hi]; rfl
  · by_cases h2 : processor typ = 2
    · rw [rtFind_two h2] at h
      cases hi : url t with
      | none => rw [hi] at h; simp [said190] at h
      | some c =>
        rw [hi] at h
        obtain rfl : c = b := by simpa [said190] using h
        obtain ⟨s, e1, e2⟩ := url_again hi
        refine ⟨s, write_ok' e1 ?_, ?_⟩
        · rw [rtFind_two processor_http, e2]; rfl
        · rw [rtFind_two h2, e2]; rfl
    · rw [rtFind, if_neg h1, if_neg h2] at h
      simp at h
theorem write_cases (a : Adr) : rtWrite a = ([], 190) ∨ ∃ s, rtWrite a = (s, 0) ∧ rtFind s (if a.kind = 6 then nHttp else nScxml) = (a, 0) := by
  unfold rtWrite
  cases h : adrText a with
  | none => exact .inl rfl
  | some x =>
    obtain ⟨s, typ⟩ := x
    simp only
    by_cases hf : rtFind s typ = (a, 0)
    · rw [if_pos hf]
      refine .inr ⟨s, rfl, ?_⟩
      unfold adrText at h
      by_cases h6 : a.kind = 6
      · rw [if_pos h6]
        rw [if_neg (by omega), if_neg (by omega), if_neg (by omega), if_neg (by omega), if_neg (by omega), if_pos h6] at h
        obtain ⟨_, rfl⟩ := Prod.mk.inj (Option.some.inj h)
        exact hf
      · rw [if_neg h6]
        have ht : typ = [] := by
          repeat (split at h; · exact (Prod.mk.inj (Option.some.inj h)).2.symm)
          cases h
        subst ht
        rw [rtFind_one processor_none] at hf
        rw [rtFind_one processor_scxml]
        exact hf
    · rw [if_neg hf]
      exact .inl rfl
theorem apart (t : Bytes) : (rtFind t nScxml).2 ≠ 0 ∨ (rtFind t nHttp).2 ≠ 0 := by
  rw [rtFind_one processor_scxml, rtFind_two processor_http]
  cases hu : url t with
  | none => right; simp [said190]
  | some b =>
    left
    obtain ⟨r, rfl⟩ := (url_shape hu).2.2.1
    have : internal (headH ++ r) = none := by
      unfold internal
      have n1 : ¬ headS <+: headH ++ r := by rintro ⟨q, hq⟩; simp [headS, headH] at hq
      have n2 : ¬ headI <+: headH ++ r := by rintro ⟨q, hq⟩; simp [headI, headH] at hq
      rw [if_neg (by simp [headH]), if_neg (by simp [headH, tInternal]), if_neg (by simp [headH, tParent]), if_neg (fun h => n1 h.1), if_neg (fun h => n2 h.1)]
    rw [this]
    simp [said190]
/-- a session's place -/
theorem session_right {i : Bytes} (h : okId i = true) : rtFind (headS ++ i) nScxml = (⟨4, i, [], 0, []⟩, 0) := by
  rw [rtFind_one processor_scxml]
  have e : (headS ++ i).drop 8 = i := by simp [headS]
  unfold internal
  rw [if_neg (by simp [headS]), if_neg (by simp [headS, tInternal]), if_neg (by simp [headS, tParent]), e, if_pos ⟨⟨i, rfl⟩, h⟩]
  rfl
theorem session_wrong {i : Bytes} (h : okId i = false) : (rtFind (headS ++ i) nScxml).2 = 190 ∨ rtFind (headS ++ i) nScxml = (⟨5, [115, 99, 120, 109, 108, 95] ++ i, [], 0, []⟩, 0) := by
  rw [rtFind_one processor_scxml]
  have e : (headS ++ i).drop 8 = i := by simp [headS]
  have e2 : (headS ++ i).drop 2 = [115, 99, 120, 109, 108, 95] ++ i := by simp [headS]
  unfold internal
  rw [if_neg (by simp [headS]), if_neg (by simp [headS, tInternal]), if_neg (by simp [headS, tParent]), e, if_neg (by simp [h]), e2]
  split
  · right; rfl
  · left; rfl
end Go.Proofs.YtlgdkaeiadhiaaaGreatDoor
