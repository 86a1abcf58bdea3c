/- Layer 2, in plain words: a reference as the document's answer reads it. -/
import Derived.Test.YtaknfofppknloaaGreatDoorTr4
namespace Go.Proofs.YtaknfofppknloaaGreatDoor
open Go Go.RowKit
set_option linter.all false
namespace Tk
/-- a reference goes on -/
def rOk (c : Nat) : Bool := c != 59 && decide (c ≤ 127)
def wLt : Cs := [108, 116]
def wGt : Cs := [103, 116]
def wAmp : Cs := [97, 109, 112]
def wQuot : Cs := [113, 117, 111, 116]
def wApos : Cs := [97, 112, 111, 115]
def refNum (b : Cs) : Option Nat := match b with | 35 :: d :: ds => numB (narrow (d :: ds)) | _ => none
theorem refNum_no {c : Nat} (ds : Cs) (h : c ≠ 35) : refNum (c :: ds) = none := by
  unfold refNum
  split
  · rename_i e; exact absurd (List.cons.inj e).1 h
  · rfl
def refName (b : Cs) : Option Nat :=
  if b = wLt then some 60 else if b = wGt then some 62 else if b = wAmp then some 38 else if b = wQuot then some 34 else if b = wApos then some 39
  else refNum b
def refEnd (n : Nat) (b rest : Cs) : R Nat := match rest with
  | 59 :: z => (match refName b with | some v => .ok (v, z) | none => .error (n, 22))
  | _ => .error (n, 22)
theorem rOk_ne {c : Nat} (h : rOk c = true) : c ≠ 59 ∧ c ≤ 127 := by
  simp only [rOk, Bool.and_eq_true, bne_iff_ne, decide_eq_true_eq] at h; exact h
theorem takeW_app (p : Nat → Bool) : ∀ (a y : Cs), (∀ c ∈ a, p c = true) → hd p y = false → (a ++ y).takeWhile p = a ∧ (a ++ y).dropWhile p = y
  | [], [], _, _ => ⟨rfl, rfl⟩
  | [], c :: y, _, h => by
    simp only [hd] at h
    simp [List.takeWhile_cons, List.dropWhile_cons, h]
  | c :: a, y, h, hy => by
    have hc := h c (by simp)
    obtain ⟨i1, i2⟩ := takeW_app p a y (fun x hx => h x (by simp [hx])) hy
    simp [List.takeWhile_cons, List.dropWhile_cons, hc, i1, i2]
theorem takeW_all (p : Nat → Bool) : ∀ xs : Cs, ∀ c ∈ xs.takeWhile p, p c = true
  | [], c, h => by cases h
  | x :: xs, c, h => by
    rw [List.takeWhile_cons] at h
    split at h
    · rename_i hp
      rcases List.mem_cons.1 h with rfl | h
      · exact hp
      · exact takeW_all p xs c h
    · cases h
theorem dropW_hd (p : Nat → Bool) (xs : Cs) : hd p (xs.dropWhile p) = false := by
  induction xs with
  | nil => rfl
  | cons c r ih =>
    rw [List.dropWhile_cons]
    split
    · exact ih
    · rename_i h; simp only [hd]; simpa using h
theorem word_pre (W r : Cs) (hW : ∀ c ∈ W, rOk c = true) : pre (38 :: (W ++ [59])) (38 :: r) = true ↔ r.takeWhile rOk = W ∧ hd (fun c => c == 59) (r.dropWhile rOk) = true := by
  constructor
  · intro h
    unfold pre at h
    have h1 := of_decide_eq_true h
    simp only [List.length_cons, List.take_succ_cons, List.cons.injEq, true_and] at h1
    have h2 : r = W ++ 59 :: r.drop (W ++ [59]).length := by
      conv => lhs; rw [← List.take_append_drop (W ++ [59]).length r, h1]
      simp
    rw [h2]
    obtain ⟨i1, i2⟩ := takeW_app rOk W (59 :: r.drop (W ++ [59]).length) hW rfl
    rw [i1, i2]
    exact ⟨rfl, rfl⟩
  · rintro ⟨h1, h2⟩
    have h3 : r = r.takeWhile rOk ++ r.dropWhile rOk := (List.takeWhile_append_dropWhile).symm
    cases hd : r.dropWhile rOk with
    | nil => rw [hd] at h2; cases h2
    | cons c z =>
      rw [hd] at h2 h3
      have : c = 59 := by simpa [Tk.hd] using h2
      subst this
      rw [h1] at h3
      have h4 : 38 :: r = (38 :: (W ++ [59])) ++ z := by rw [h3]; simp
      rw [h4]
      unfold pre
      rw [decide_eq_true_eq]
      exact List.take_left' rfl
theorem narrow_one {c : Nat} (h : c ≤ 127) (ds : Cs) : narrow (c :: ds) = UInt8.ofNat c :: narrow ds := by
  have : narrow (c :: ds) = enc c ++ narrow ds := rfl
  rw [this]
  unfold enc
  rw [if_pos (by omega)]
  rfl
/-- what is told where the digits end -/
def end59 (rest : Cs) (o : Option Nat) : Option (Nat × Cs) := match rest with | 59 :: z => o.map fun u => (u, z) | _ => none
theorem end59_no {rest : Cs} (o : Option Nat) (h : hd (fun c => c == 59) rest = false) : end59 rest o = none := by
  cases rest with
  | nil => rfl
  | cons c z =>
    have hc : c ≠ 59 := by simpa [hd] using h
    unfold end59
    split
    · rename_i e; exact absurd (List.cons.inj e).1 hc
    · rfl
theorem end59_yes {rest : Cs} (h : hd (fun c => c == 59) rest = true) : ∃ z, rest = 59 :: z := by
  cases rest with
  | nil => cases h
  | cons c z => exact ⟨z, by rw [show c = 59 by simpa [hd] using h]⟩
theorem numGo_body (base : Nat) (hb : base ≤ 16) : ∀ (ds : Cs) (v : Nat) (rest : Cs), (∀ c ∈ ds, rOk c = true) → hd rOk rest = false →
    numGo base v (ds ++ rest) = end59 rest (numBGo base v (narrow ds))
  | [], v, [], _, _ => by rw [List.nil_append, numGo]; rfl
  | [], v, c :: z, _, h => by
    rw [List.nil_append, numGo]
    by_cases hc : c = 59
    · subst hc; rw [if_pos rfl]; rfl
    · have h127 : 127 < c := by
        simp only [hd, rOk, Bool.and_eq_false_iff, bne_eq_false_iff_eq, decide_eq_false_iff_not] at h
        rcases h with h | h
        · exact absurd h hc
        · omega
      have hd9 : dig c = 99 := by unfold dig; rw [if_neg (by omega), if_neg (by omega), if_neg (by omega)]
      rw [if_neg hc, if_neg (by rw [hd9]; omega), end59_no _ (by simp [hd, hc])]
  | c :: ds, v, rest, h, hr => by
    obtain ⟨h1, h2⟩ := rOk_ne (h c (by simp))
    rw [List.cons_append, numGo, if_neg h1, narrow_one h2, numBGo]
    have e : (UInt8.ofNat c).toNat = c := by rw [UInt8.toNat_ofNat']; omega
    rw [e]
    by_cases hg : dig c < base
    · rw [if_pos hg, if_pos hg]
      exact numGo_body base hb ds _ rest (fun x hx => h x (by simp [hx])) hr
    · rw [if_neg hg, if_neg hg]
      rcases h59 : hd (fun c => c == 59) rest with _ | _
      · rw [end59_no _ h59]
      · obtain ⟨z, rfl⟩ := end59_yes h59; rfl
theorem number_body (ds rest : Cs) (h : ∀ c ∈ ds, rOk c = true) (hr : hd rOk rest = false) :
    number (ds ++ rest) = end59 rest (numB (narrow ds)) := by
  have fin : ∀ (base : Nat) (hb : base ≤ 16) (es : Cs), (∀ c ∈ es, rOk c = true) → numOf base (es ++ rest) = end59 rest (numFin base (narrow es)) := by
    intro base hb es he
    unfold numOf
    rcases es with _ | ⟨c, es⟩
    · rw [List.nil_append]
      rcases h59 : hd (fun c => c == 59) rest with _ | _
      · have := numGo_body base hb [] 0 rest (by simp) hr
        rw [List.nil_append] at this
        rw [this, end59_no _ h59, end59_no _ h59, if_neg (by simp)]
        rfl
      · obtain ⟨z, rfl⟩ := end59_yes h59; rfl
    · obtain ⟨h1, h2⟩ := rOk_ne (he c (by simp))
      have e : hd (fun c => c == 59) (c :: es ++ rest) = false := by simp [hd, h1]
      rw [e, if_neg (by simp), numGo_body base hb (c :: es) 0 rest he hr]
      have hne : narrow (c :: es) ≠ [] := by rw [narrow_one h2]; simp
      unfold numFin
      rw [if_neg hne]
      rcases h59 : hd (fun c => c == 59) rest with _ | _
      · rw [end59_no _ h59, end59_no _ h59]; rfl
      · obtain ⟨z, rfl⟩ := end59_yes h59
        unfold end59
        rcases numBGo base 0 (narrow (c :: es)) with _ | v
        · rfl
        · simp only [Option.map_some, Option.bind_some]
          split <;> rfl
  rcases ds with _ | ⟨c, ds⟩
  · rw [List.nil_append]
    have hf := fin 10 (by omega) [] (by simp)
    rw [List.nil_append] at hf
    have hnum : number rest = numOf 10 rest := by
      unfold number
      split
      · rename_i q
        simp [hd, rOk] at hr
      · rfl
    rw [hnum, hf]
    have : numB (narrow []) = numFin 10 (narrow []) := rfl
    rw [this]
  · obtain ⟨h1, h2⟩ := rOk_ne (h c (by simp))
    unfold numB
    rw [narrow_one h2]
    have e : by8 (UInt8.ofNat c :: narrow ds) 0 = c := by
      show (UInt8.ofNat c).toNat = c
      rw [UInt8.toNat_ofNat']; omega
    rw [e]
    by_cases hc : c = 120
    · subst hc
      rw [if_pos rfl]
      exact fin 16 (by omega) ds fun x hx => h x (by simp [hx])
    · rw [if_neg hc]
      have hnum : number (c :: ds ++ rest) = numOf 10 (c :: ds ++ rest) := by
        unfold number
        split
        · rename_i q e
          exact absurd (List.cons.inj e).1 hc
        · rfl
      rw [hnum, fin 10 (by omega) (c :: ds) h, narrow_one h2]
/-- A REFERENCE, AS THE DOCUMENT'S ANSWER READS IT -/
theorem reference_end (r : Cs) : reference (38 :: r) = refEnd (38 :: r).length (r.takeWhile rOk) (r.dropWhile rOk) := by
  have h1 : pre tLt (38 :: r) = true ↔ r.takeWhile rOk = wLt ∧ hd (fun c => c == 59) (r.dropWhile rOk) = true := word_pre wLt r (by decide)
  have h2 : pre tGt (38 :: r) = true ↔ r.takeWhile rOk = wGt ∧ hd (fun c => c == 59) (r.dropWhile rOk) = true := word_pre wGt r (by decide)
  have h3 : pre tAmp (38 :: r) = true ↔ r.takeWhile rOk = wAmp ∧ hd (fun c => c == 59) (r.dropWhile rOk) = true := word_pre wAmp r (by decide)
  have h4 : pre tQuot (38 :: r) = true ↔ r.takeWhile rOk = wQuot ∧ hd (fun c => c == 59) (r.dropWhile rOk) = true := word_pre wQuot r (by decide)
  have h5 : pre tApos (38 :: r) = true ↔ r.takeWhile rOk = wApos ∧ hd (fun c => c == 59) (r.dropWhile rOk) = true := word_pre wApos r (by decide)
  have hr : r = r.takeWhile rOk ++ r.dropWhile rOk := (List.takeWhile_append_dropWhile).symm
  have ha := takeW_all rOk r
  have hh := dropW_hd rOk r
  generalize hb : r.takeWhile rOk = b at *
  generalize hz : r.dropWhile rOk = rest at *
  unfold reference
  by_cases h59 : hd (fun c => c == 59) rest = true
  · obtain ⟨z, rfl⟩ : ∃ z, rest = 59 :: z := by
      cases rest with
      | nil => cases h59
      | cons c z => exact ⟨z, by rw [show c = 59 by simpa [hd] using h59]⟩
    have hdr : ∀ k W, b = W → k = W.length + 2 → (38 :: r).drop k = z := by
      intro k W hW hk
      subst hk; subst hW
      rw [hr]
      show ((38 :: (b ++ 59 :: z)).drop (b.length + 2)) = z
      simp
    simp only [refEnd]
    unfold refName
    by_cases g1 : b = wLt
    · rw [if_pos (h1.2 ⟨g1, h59⟩), if_pos g1, hdr 4 wLt g1 rfl]; (try rfl)
    rw [if_neg (fun e => g1 (h1.1 e).1), if_neg g1]
    by_cases g2 : b = wGt
    · rw [if_pos (h2.2 ⟨g2, h59⟩), if_pos g2, hdr 4 wGt g2 rfl]; (try rfl)
    rw [if_neg (fun e => g2 (h2.1 e).1), if_neg g2]
    by_cases g3 : b = wAmp
    · rw [if_pos (h3.2 ⟨g3, h59⟩), if_pos g3, hdr 5 wAmp g3 rfl]; (try rfl)
    rw [if_neg (fun e => g3 (h3.1 e).1), if_neg g3]
    by_cases g4 : b = wQuot
    · rw [if_pos (h4.2 ⟨g4, h59⟩), if_pos g4, hdr 6 wQuot g4 rfl]; (try rfl)
    rw [if_neg (fun e => g4 (h4.1 e).1), if_neg g4]
    by_cases g5 : b = wApos
    · rw [if_pos (h5.2 ⟨g5, h59⟩), if_pos g5, hdr 6 wApos g5 rfl]; (try rfl)
    rw [if_neg (fun e => g5 (h5.1 e).1), if_neg g5]
    rcases b with _ | ⟨c, ds⟩
    · rw [hr, if_neg (by simp [pre])]; rfl
    · by_cases hc : c = 35
      · subst hc
        have hr' : r = 35 :: (ds ++ 59 :: z) := by rw [hr]; rfl
        have hnb := number_body ds (59 :: z) (fun x hx => ha x (by simp [hx])) rfl
        rw [hr', if_pos (by simp [pre])]
        simp only [List.drop_succ_cons, List.drop_zero]
        rw [hnb]
        rcases ds with _ | ⟨d, ds⟩
        · rfl
        · have e1 : refNum (35 :: d :: ds) = numB (narrow (d :: ds)) := rfl
          rw [e1]
          rcases numB (narrow (d :: ds)) with _ | v <;> rfl
      · have hr' : r = c :: (ds ++ 59 :: z) := by rw [hr]; rfl
        rw [hr', if_neg (by simp [pre, hc])]
        rw [refNum_no ds hc]
  · rw [if_neg (fun e => h59 (h1.1 e).2), if_neg (fun e => h59 (h2.1 e).2), if_neg (fun e => h59 (h3.1 e).2), if_neg (fun e => h59 (h4.1 e).2), if_neg (fun e => h59 (h5.1 e).2)]
    have hE : refEnd (38 :: r).length b rest = .error ((38 :: r).length, 22) := by
      unfold refEnd
      split
      · exact absurd rfl h59
      · rfl
    rw [hE]
    split
    · rename_i hp
      have hr' : ∃ r2, r = 35 :: r2 := by
        cases r with
        | nil => simp [pre] at hp
        | cons c r2 => simp [pre] at hp; exact ⟨r2, by rw [hp]⟩
      obtain ⟨r2, rfl⟩ := hr'
      simp only [List.drop_succ_cons, List.drop_zero]
      have hb2 : b = 35 :: r2.takeWhile rOk := by rw [← hb]; rfl
      have hz2 : rest = r2.dropWhile rOk := by rw [← hz]; rfl
      have hnb := number_body (r2.takeWhile rOk) (r2.dropWhile rOk) (takeW_all _ _) (dropW_hd _ _)
      rw [List.takeWhile_append_dropWhile, ← hz2] at hnb
      rw [hnb, end59_no _ (by simpa using h59)]
    · rfl
end Tk
end Go.Proofs.YtaknfofppknloaaGreatDoor
