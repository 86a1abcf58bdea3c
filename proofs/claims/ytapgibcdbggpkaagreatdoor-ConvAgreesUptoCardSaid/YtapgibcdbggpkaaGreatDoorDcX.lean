/- The library's decimal of 800 digits in plain words: shifts to the right and to the left, and what they keep. The library's decimal in plain words: shifts by any number of places, rounding, its bits as a float, and how it is read. The library's decimal in plain words: what the shifts keep, and that they come nearer to a half. The library's decimal as it lies: a block of 800 bytes and four more cells; trailing noughts cut. -/
import Derived.Test.YtapgibcdbggpkaaGreatDoorBase
import Derived.Test.YtapgibcdbggpkaaGreatDoorNmX
import Derived.Test.YtapgibcdbggpkaaGreatDoorTbE
import Derived.Test.YtapgibcdbggpkaaGreatDoorChecked
import Derived.Laws.BitsAllLaws
import Derived.Laws.ShiftsVarLaws
import Derived.Lib.Hide
namespace Go.Proofs.YtapgibcdbggpkaaGreatDoor
open Go
set_option linter.all false
namespace Dc
def dg (D : List Nat) (i : Nat) : Nat := D.getD i 0
theorem dg_set {D : List Nat} {i : Nat} (h : i < D.length) (v j : Nat) : dg (D.set i v) j = if j = i then v else dg D j := by
  unfold dg
  rw [List.getD_eq_getElem?_getD, List.getD_eq_getElem?_getD, List.getElem?_set]
  by_cases e : j = i
  · subst e; simp [h]
  · rw [if_neg (Ne.symm e), if_neg e]
theorem dg_get {D : List Nat} {i : Nat} (h : i < D.length) : D[i]? = some (dg D i) := by
  unfold dg; rw [List.getD_eq_getElem?_getD, List.getElem?_eq_getElem h]; rfl
structure Dec where
  D : List Nat
  nd : Nat
  dp : Int
  tr : Bool
/-- the digits ahead of place n are digits -/
def V (n : Nat) (D : List Nat) : Prop := ∀ i, i < n → 48 ≤ dg D i ∧ dg D i ≤ 57
theorem V.set {n : Nat} {D : List Nat} (h : V n D) {i v : Nat} (hi : i < D.length) (h1 : 48 ≤ v) (h2 : v ≤ 57) : V n (D.set i v) := fun j hj => by
  rw [dg_set hi]; split
  · exact ⟨h1, h2⟩
  · exact h j hj
theorem V.grow {n : Nat} {D : List Nat} (h : V n D) {v : Nat} (hi : n < D.length) (h1 : 48 ≤ v) (h2 : v ≤ 57) : V (n + 1) (D.set n v) := fun j hj => by
  rw [dg_set hi]; split
  · exact ⟨h1, h2⟩
  · exact h j (by omega)
theorem V.mono {n m : Nat} {D : List Nat} (h : V n D) (hm : m ≤ n) : V m D := fun j hj => h j (by omega)
/-- bytes all -/
def B (D : List Nat) : Prop := D.length = 800 ∧ ∀ i, dg D i < 256
theorem B.set {D : List Nat} (h : B D) {v : Nat} (hv : v < 256) (i : Nat) : B (D.set i v) := by
  refine ⟨by rw [List.length_set]; exact h.1, fun j => ?_⟩
  by_cases hi : i < D.length
  · rw [dg_set hi]; split
    · exact hv
    · exact h.2 j
  · rw [List.set_eq_of_length_le (by omega)]; exact h.2 j
/-- what every step keeps: 800 bytes, nd digits, the first of them no nought -/
structure Ok (x : Dec) : Prop where
  b : B x.D
  nd : x.nd ≤ 800
  v : V x.nd x.D
  pos : 0 < x.nd
  d0 : 49 ≤ dg x.D 0
def trimN (D : List Nat) : Nat → Nat
  | 0 => 0
  | n + 1 => if dg D n = 48 then trimN D n else n + 1
theorem trimN_le (D : List Nat) : ∀ n, trimN D n ≤ n
  | 0 => Nat.le_refl _
  | n + 1 => by unfold trimN; split <;> (have := trimN_le D n; omega)
theorem trimN_pos {D : List Nat} (h : 49 ≤ dg D 0) : ∀ n, 0 < n → 0 < trimN D n
  | 0, h0 => by omega
  | n + 1, _ => by
    unfold trimN; split
    · rename_i e
      refine trimN_pos h n ?_
      rcases Nat.eq_zero_or_pos n with z | z
      · subst z; omega
      · exact z
    · omega
def trim (x : Dec) : Dec := ⟨x.D, trimN x.D x.nd, if trimN x.D x.nd = 0 then 0 else x.dp, x.tr⟩
theorem trim_ok {x : Dec} (h : Ok x) : Ok (trim x) ∧ (trim x).dp = x.dp := by
  have h1 := trimN_le x.D x.nd
  have h2 := trimN_pos h.d0 x.nd h.pos
  exact ⟨⟨h.b, Nat.le_trans h1 h.nd, h.v.mono h1, h2, h.d0⟩, if_neg (by omega)⟩
/-- to the right: digits are taken until there is something to put down -/
def pick (k : Nat) (D : List Nat) (nd r n : Nat) : Nat × Nat :=
  if n / 2 ^ k ≠ 0 then (r, n) else if r < nd then pick k D nd (r + 1) (n * 10 + (dg D r - 48)) else (r, n)
termination_by nd - r
def grow (k : Nat) : Nat → Nat → Nat → Nat × Nat
  | 0, r, n => (r, n)
  | f + 1, r, n => if n / 2 ^ k = 0 then grow k f (r + 1) (n * 10) else (r, n)
def mid (k nd : Nat) (D : List Nat) (r w n : Nat) : List Nat × Nat × Nat :=
  if r < nd then mid k nd (D.set w (n / 2 ^ k + 48)) (r + 1) (w + 1) (n % 2 ^ k * 10 + (dg D r - 48)) else (D, w, n)
termination_by nd - r
def extra (k : Nat) : Nat → List Nat → Nat → Nat → Bool → List Nat × Nat × Bool
  | 0, D, w, _, tr => (D, w, tr)
  | f + 1, D, w, n, tr =>
    if n = 0 then (D, w, tr)
    else if w < 800 then extra k f (D.set w (n / 2 ^ k + 48)) (w + 1) (n % 2 ^ k * 10) tr
    else extra k f D w (n % 2 ^ k * 10) (tr || decide (0 < n / 2 ^ k))
/-- the digits' number, and where they end -/
def rst (k : Nat) (x : Dec) : Nat × Nat :=
  let p := pick k x.D x.nd 0 0
  if p.2 / 2 ^ k ≠ 0 then p else grow k 64 p.1 p.2
def rsh (k : Nat) (x : Dec) : Dec :=
  let p := rst k x
  let m := mid k x.nd x.D p.1 0 p.2
  let e := extra k 80 m.1 m.2.1 m.2.2 x.tr
  trim ⟨e.1, e.2.1, x.dp - (p.1 - 1), e.2.2⟩
/-- to the left -/
def pl (D : List Nat) (nd : Nat) (s : List Nat) (i : Nat) : Bool :=
  if i < s.length then (if nd ≤ i then true else if dg D i ≠ s.getD i 0 then decide (dg D i < s.getD i 0) else pl D nd s (i + 1)) else false
termination_by s.length - i
def lmid (k dl : Nat) : List Nat → Nat → Nat → Bool → List Nat × Nat × Bool
  | D, 0, n, tr => (D, n, tr)
  | D, r + 1, n, tr =>
    if r + dl < 800 then lmid k dl (D.set (r + dl) ((n + (dg D r - 48) * 2 ^ k) % 10 + 48)) r ((n + (dg D r - 48) * 2 ^ k) / 10) tr
    else lmid k dl D r ((n + (dg D r - 48) * 2 ^ k) / 10) (tr || decide ((n + (dg D r - 48) * 2 ^ k) % 10 ≠ 0))
def lext : List Nat → Nat → Nat → Bool → List Nat × Bool
  | D, 0, _, tr => (D, tr)
  | D, w + 1, n, tr =>
    if n = 0 then (D, tr)
    else if w < 800 then lext (D.set w (n % 10 + 48)) w (n / 10) tr
    else lext D w (n / 10) (tr || decide (n % 10 ≠ 0))
/-- the digits of 5^k -/
def cut (k : Nat) : List Nat := if k = 0 then [] else (Nat.toDigits 10 (5 ^ k)).map Char.toNat
def dlt (k : Nat) : Nat := if k = 0 then 0 else k + 1 - (cut k).length
def dl (k : Nat) (x : Dec) : Nat := dlt k - (if pl x.D x.nd (cut k) 0 then 1 else 0)
def lsh (k : Nat) (x : Dec) : Dec :=
  let d := dl k x
  let m := lmid k d x.D x.nd 0 x.tr
  let e := lext m.1 d m.2.1 m.2.2
  trim ⟨e.1, min (x.nd + d) 800, x.dp + d, e.2⟩
/-- the number that the first i digits say -/
def pv (D : List Nat) : Nat → Nat
  | 0 => 0
  | i + 1 => pv D i * 10 + (dg D i - 48)
theorem pv_lt {D : List Nat} : ∀ n, V n D → pv D n < 10 ^ n
  | 0, _ => by simp [pv]
  | n + 1, h => by
    have h1 := pv_lt n (h.mono (by omega))
    have h2 := h n (by omega)
    rw [pv, Nat.pow_succ]; omega
theorem pv_ge {D : List Nat} (h0 : 49 ≤ dg D 0) : ∀ n, 10 ^ n ≤ pv D (n + 1)
  | 0 => by simp only [pv]; omega
  | n + 1 => by
    have h1 := pv_ge h0 n
    rw [pv, Nat.pow_succ]; omega
/-- how much of the number the first i digits are -/
theorem pv_le {D : List Nat} {i : Nat} : ∀ n, i ≤ n → pv D i * 10 ^ (n - i) ≤ pv D n
  | 0, h => by
    have : i = 0 := by omega
    subst this; simp
  | n + 1, h => by
    by_cases e : i = n + 1
    · subst e; simp
    · have h1 := pv_le (D := D) (i := i) n (by omega)
      rw [show n + 1 - i = (n - i) + 1 by omega, Nat.pow_succ, pv, ← Nat.mul_assoc]; omega
theorem pv_up {D : List Nat} {i : Nat} : ∀ n, i ≤ n → V n D → pv D n < (pv D i + 1) * 10 ^ (n - i)
  | 0, h, _ => by
    have : i = 0 := by omega
    subst this; simp [pv]
  | n + 1, h, hv => by
    by_cases e : i = n + 1
    · subst e; simp
    · have h1 := pv_up (D := D) (i := i) n (by omega) (hv.mono (by omega))
      have h2 := hv n (by omega)
      rw [show n + 1 - i = (n - i) + 1 by omega, Nat.pow_succ, pv, ← Nat.mul_assoc]
      omega
/-- a cutoff compared: what it says of the number -/
theorem pl_says {D s : List Nat} {nd : Nat} (hv : V nd D) (hs : V s.length s) (hl : 49 ≤ dg s (s.length - 1)) : ∀ m i, s.length - i = m → i ≤ nd → i ≤ s.length → pv D i = pv s i →
    (pl D nd s i = true → pv D nd * 10 ^ s.length < pv s s.length * 10 ^ nd) ∧ (pl D nd s i = false → pv s s.length * 10 ^ nd ≤ pv D nd * 10 ^ s.length)
  | 0, i, hm, hn, hc, he => by
    have e : i = s.length := by omega
    rw [pl, if_neg (by omega)]
    refine ⟨by simp, fun _ => ?_⟩
    have h1 := pv_le (D := D) nd hn
    rw [he, e] at h1
    calc pv s s.length * 10 ^ nd = pv s s.length * 10 ^ (nd - s.length) * 10 ^ s.length := by
          rw [Nat.mul_assoc, ← Nat.pow_add]; congr 2; omega
      _ ≤ _ := Nat.mul_le_mul_right _ h1
  | m + 1, i, hm, hn, hc, he => by
    rw [pl, if_pos (by omega)]
    by_cases a : nd ≤ i
    · have e : i = nd := by omega
      subst e
      rw [if_pos (Nat.le_refl _)]
      refine ⟨fun _ => ?_, by simp⟩
      -- the last digit of the cutoff is no nought
      obtain ⟨c, hcc⟩ : ∃ c, s.length = c + 1 := ⟨s.length - 1, by omega⟩
      have h1 := pv_le (D := s) (i := i) c (by omega)
      have h2 : pv s s.length = pv s c * 10 + (dg s c - 48) := by rw [hcc]; rfl
      rw [hcc] at hl
      have hl : 49 ≤ dg s c := hl
      have h3 : pv D i * 10 ^ (s.length - i) < pv s s.length := by
        rw [he, h2, hcc, show c + 1 - i = (c - i) + 1 by omega, Nat.pow_succ, ← Nat.mul_assoc]; omega
      calc pv D i * 10 ^ s.length = pv D i * 10 ^ (s.length - i) * 10 ^ i := by
            rw [Nat.mul_assoc, ← Nat.pow_add]; congr 2; omega
        _ < _ := Nat.mul_lt_mul_of_pos_right h3 (Nat.pow_pos (by decide))
    · rw [if_neg a]
      have hsi : s.getD i 0 = dg s i := rfl
      have v1 := hv i (by omega)
      have v2 := hs i (by omega)
      by_cases b : dg D i ≠ s.getD i 0
      · rw [if_pos b]
        rw [hsi] at b ⊢
        by_cases c : dg D i < dg s i
        · refine ⟨fun _ => ?_, by simp [c]⟩
          have h1 := pv_up (D := D) (i := i + 1) nd (by omega) hv
          have h2 := pv_le (D := s) (i := i + 1) s.length (by omega)
          have h3 : pv D (i + 1) + 1 ≤ pv s (i + 1) := by rw [pv, pv, he]; omega
          calc pv D nd * 10 ^ s.length < (pv D (i + 1) + 1) * 10 ^ (nd - (i + 1)) * 10 ^ s.length := Nat.mul_lt_mul_of_pos_right h1 (Nat.pow_pos (by decide))
            _ ≤ pv s (i + 1) * 10 ^ (nd - (i + 1)) * 10 ^ s.length := Nat.mul_le_mul_right _ (Nat.mul_le_mul_right _ h3)
            _ = pv s (i + 1) * 10 ^ (s.length - (i + 1)) * 10 ^ nd := by
              rw [Nat.mul_assoc, ← Nat.pow_add, Nat.mul_assoc, ← Nat.pow_add]; congr 2; omega
            _ ≤ _ := Nat.mul_le_mul_right _ h2
        · refine ⟨by simp [c], fun _ => ?_⟩
          have h1 := pv_up (D := s) (i := i + 1) s.length (by omega) hs
          have h2 := pv_le (D := D) (i := i + 1) nd (by omega)
          have h3 : pv s (i + 1) + 1 ≤ pv D (i + 1) := by rw [pv, pv, he]; omega
          refine Nat.le_of_lt ?_
          calc pv s s.length * 10 ^ nd < (pv s (i + 1) + 1) * 10 ^ (s.length - (i + 1)) * 10 ^ nd := Nat.mul_lt_mul_of_pos_right h1 (Nat.pow_pos (by decide))
            _ ≤ pv D (i + 1) * 10 ^ (s.length - (i + 1)) * 10 ^ nd := Nat.mul_le_mul_right _ (Nat.mul_le_mul_right _ h3)
            _ = pv D (i + 1) * 10 ^ (nd - (i + 1)) * 10 ^ s.length := by
              rw [Nat.mul_assoc, ← Nat.pow_add, Nat.mul_assoc, ← Nat.pow_add]; congr 2; omega
            _ ≤ _ := Nat.mul_le_mul_right _ h2
      · rw [if_neg b]
        rw [hsi] at b
        refine pl_says hv hs hl m (i + 1) (by omega) (by omega) (by omega) ?_
        rw [pv, pv, he]; omega
/-- each row of the cutoffs -/
theorem rows : ∀ k, k < 61 → (k = 0 ∨ ((cut k).length + dlt k = k + 1 ∧ 1 ≤ dlt k ∧ pv (cut k) (cut k).length = 5 ^ k ∧ ((List.range (cut k).length).all fun i => decide (48 ≤ dg (cut k) i ∧ dg (cut k) i ≤ 57)) = true ∧ 49 ≤ dg (cut k) ((cut k).length - 1) ∧ 10 ^ (dlt k - 1) ≤ 2 ^ k ∧ 2 ^ k < 10 ^ dlt k ∧ dlt k ≤ 19)) := by
  decide +kernel
/-- the new digits are as many as dl says -/
theorem dl_says {x : Dec} (h : Ok x) {k : Nat} (hk : 1 ≤ k) (hk2 : k ≤ 60) : pv x.D x.nd * 2 ^ k < 10 ^ (x.nd + dl k x) ∧ 10 ^ (x.nd + dl k x - 1) ≤ pv x.D x.nd * 2 ^ k ∧ dl k x ≤ 19 := by
  obtain ⟨r1, r2, r3, r4, r5, r6, r7, r8⟩ := (rows k (by omega)).resolve_left (by omega)
  have hs : V (cut k).length (cut k) := fun i hi => by
    have := List.all_eq_true.1 r4 i (List.mem_range.2 hi)
    simpa using this
  obtain ⟨p1, p2⟩ := pl_says h.v hs r5 (cut k).length 0 (by omega) (by omega) (by omega) rfl
  have hlt := pv_lt x.nd h.v
  obtain ⟨m, hm⟩ : ∃ m, x.nd = m + 1 := ⟨x.nd - 1, by have := h.pos; omega⟩
  have hge := pv_ge h.d0 m
  rw [← hm] at hge
  have t10 : (10 : Nat) ^ k = 5 ^ k * 2 ^ k := by rw [← Nat.mul_pow]
  unfold dl
  generalize pv x.D x.nd = W at *
  generalize dlt k = d at *
  generalize (cut k).length = c at *
  cases hp : pl x.D x.nd (cut k) 0 with
  | true =>
    have q := p1 hp
    rw [r3] at q
    simp only [if_true]
    refine ⟨?_, ?_, by omega⟩
    · have q2 : W * 2 ^ k * 10 ^ c < 10 ^ (x.nd + (d - 1)) * 10 ^ c := by
        calc W * 2 ^ k * 10 ^ c = W * 10 ^ c * 2 ^ k := by rw [Nat.mul_right_comm]
          _ < 5 ^ k * 10 ^ x.nd * 2 ^ k := Nat.mul_lt_mul_of_pos_right q (Nat.pow_pos (by decide))
          _ = 10 ^ k * 10 ^ x.nd := by rw [t10, Nat.mul_right_comm]
          _ = _ := by rw [← Nat.pow_add, ← Nat.pow_add]; congr 1; omega
      exact Nat.lt_of_mul_lt_mul_right q2
    · calc 10 ^ (x.nd + (d - 1) - 1) = 10 ^ m * 10 ^ (d - 1) := by rw [← Nat.pow_add]; congr 1; omega
        _ ≤ W * 2 ^ k := Nat.mul_le_mul hge r6
  | false =>
    have q := p2 hp
    rw [r3] at q
    simp only [Bool.false_eq_true, if_false, Nat.sub_zero]
    refine ⟨?_, ?_, r8⟩
    · calc W * 2 ^ k < 10 ^ x.nd * 2 ^ k := Nat.mul_lt_mul_of_pos_right hlt (Nat.pow_pos (by decide))
        _ ≤ 10 ^ x.nd * 10 ^ d := Nat.mul_le_mul_left _ (Nat.le_of_lt r7)
        _ = _ := by rw [← Nat.pow_add]
    · have q2 : 10 ^ (x.nd + d - 1) * 10 ^ c ≤ W * 2 ^ k * 10 ^ c := by
        calc 10 ^ (x.nd + d - 1) * 10 ^ c = 10 ^ k * 10 ^ x.nd := by rw [← Nat.pow_add, ← Nat.pow_add]; congr 1; omega
          _ = 5 ^ k * 10 ^ x.nd * 2 ^ k := by rw [t10, Nat.mul_right_comm]
          _ ≤ W * 10 ^ c * 2 ^ k := Nat.mul_le_mul_right _ q
          _ = _ := by rw [Nat.mul_right_comm]
      exact Nat.le_of_mul_le_mul_right q2 (Nat.pow_pos (by decide))
end Dc
end Go.Proofs.YtapgibcdbggpkaaGreatDoor
namespace Go.Proofs.YtapgibcdbggpkaaGreatDoor
open Go Go.RowKit
set_option linter.all false
namespace Dc
def powt : List Nat := [1, 3, 6, 9, 13, 16, 19, 23, 26]
def stp (d : Nat) : Nat := if 9 ≤ d then 27 else powt.getD d 0
theorem stp_le (d : Nat) : 1 ≤ stp d ∧ stp d ≤ 27 := by
  unfold stp
  split
  · decide
  · have : ∀ d, d < 9 → 1 ≤ powt.getD d 0 ∧ powt.getD d 0 ≤ 27 := by decide
    exact this d (by omega)
def shr (k : Nat) (x : Dec) : Dec := if 60 < k then shr (k - 60) (rsh 60 x) else rsh k x
termination_by k
def shl (k : Nat) (x : Dec) : Dec := if 60 < k then shl (k - 60) (lsh 60 x) else lsh k x
termination_by k
/-- down to below 1, and up to a half -/
def fdown : Nat → Dec → Int → Dec × Int
  | 0, x, e => (x, e)
  | f + 1, x, e => if 0 < x.dp then fdown f (shr (stp x.dp.toNat) x) (e + (stp x.dp.toNat : Int)) else (x, e)
def low (x : Dec) : Bool := decide (x.dp < 0) || (decide (x.dp = 0) && decide (dg x.D 0 < 53))
def fup : Nat → Dec → Int → Dec × Int
  | 0, x, e => (x, e)
  | f + 1, x, e => if low x then fup f (shl (stp (-x.dp).toNat) x) (e - (stp (-x.dp).toNat : Int)) else (x, e)
/-- the digits ahead of the point, as a number of 64 bits -/
def ri1 (D : List Nat) (dp nd i n : Nat) : Nat × Nat := if i < dp ∧ i < nd then ri1 D dp nd (i + 1) ((n * 10 + (dg D i - 48)) % 18446744073709551616) else (i, n)
termination_by dp - i
def ri2 (dp i n : Nat) : Nat := if i < dp then ri2 dp (i + 1) (n * 10 % 18446744073709551616) else n
termination_by dp - i
def sru (x : Dec) (m : Int) : Bool :=
  if m < 0 ∨ (x.nd : Int) ≤ m then false
  else if dg x.D m.toNat = 53 ∧ m + 1 = (x.nd : Int) then (if x.tr then true else decide (0 < m) && ((dg x.D (m.toNat - 1) - 48) % 2 != 0))
  else decide (53 ≤ dg x.D m.toNat)
def rint (x : Dec) : Nat :=
  if 20 < x.dp then 18446744073709551615
  else (ri2 x.dp.toNat (ri1 x.D x.dp.toNat x.nd 0 0).1 (ri1 x.D x.dp.toNat x.nd 0 0).2 + (if sru x x.dp then 1 else 0)) % 18446744073709551616
/-- the bits of a number and a power; a number too great -/
def packB (m : Nat) (e : Int) : Nat × Bool :=
  if m = 9007199254740992 then
    (if 2047 ≤ e + 1 + 1023 then (9218868437227405312, true) else fin 4503599627370496 (e + 1))
  else fin m e
where fin (m : Nat) (e : Int) : Nat × Bool :=
  ((m &&& 4503599627370495) ||| (if m &&& 4503599627370496 = 0 then 0 else (e + 1023).toNat % 2048 * 4503599627370496), false)
def fbits (x : Dec) : Nat × Bool :=
  if 310 < x.dp then (9218868437227405312, true) else if x.dp < -330 then (0, false) else
  let a := fdown 4000 x 0
  let b := fup 300000 a.1 a.2
  let c : Dec × Int := if b.2 - 1 < -1022 then (shr (-1022 - (b.2 - 1)).toNat b.1, -1022) else (b.1, b.2 - 1)
  if 2047 ≤ c.2 + 1023 then (9218868437227405312, true) else packB (rint (shl 53 c.1)) c.2
/-- the decimal of a text: one character more -/
def put1 (c : Nat) (x : Dec) : Dec :=
  if c = 46 then ⟨x.D, x.nd, x.nd, x.tr⟩
  else if c = 48 ∧ x.nd = 0 then ⟨x.D, x.nd, x.dp - 1, x.tr⟩
  else if x.nd < 800 then ⟨x.D.set x.nd c, x.nd + 1, x.dp, x.tr⟩
  else ⟨x.D, x.nd, x.dp, x.tr || !(c == 48)⟩
def setGo (l : List UInt8) : Nat → Rf.Rs → Dec → Rf.Rs × Dec
  | 0, s, x => (s, x)
  | f + 1, s, x => if s.i < l.length then (match Rf.step false (by8 l s.i) s with | some t => setGo l f t (put1 (by8 l s.i) x) | none => (s, x)) else (s, x)
def zero : Dec := ⟨List.replicate 800 0, 0, 0, false⟩
def setD (l : List UInt8) : Dec :=
  let r := setGo l (l.length + 1) (Rf.start 0) zero
  ⟨r.2.D, r.2.nd, (if r.1.dot then r.2.dp else (r.2.nd : Int)) + Rf.exPart l r.1.i, r.2.tr⟩
theorem setGo_go (l : List UInt8) : ∀ f s x, (setGo l f s x).1 = Rf.go l false f s
  | 0, s, x => rfl
  | f + 1, s, x => by
    rw [setGo, Rf.go]
    split
    · cases Rf.step false (by8 l s.i) s with
      | none => rfl
      | some t => exact setGo_go l f t _
    · rfl
/-- what the reading of digits keeps -/
structure SI (s : Rf.Rs) (x : Dec) : Prop where
  b : B x.D
  nd : x.nd = min s.nd 800
  v : V x.nd x.D
  d0 : 0 < x.nd → 49 ≤ dg x.D 0
  m0 : s.nd = 0 → s.mant = 0
  nm : s.nm ≤ s.nd
  ndi : s.nd ≤ s.i
  dpl : -(s.i : Int) ≤ x.dp
  dph : x.dp ≤ 800
theorem put_nd (hex : Bool) (d : Nat) (z : Bool) (s : Rf.Rs) : (Rf.put hex d z s).nd = s.nd + 1 := by unfold Rf.put; split <;> rfl
theorem SI.step {s t : Rf.Rs} {x : Dec} (h : SI s x) {c : Nat} (hc : c < 256) (hs : Rf.step false c s = some t) : SI t (put1 c x) := by
  obtain ⟨h1, h2, h3, h4, h5, h6, h7, h8, h9⟩ := id h
  unfold Rf.step at hs
  unfold put1
  split at hs
  · rename_i e
    rw [if_pos e]
    split at hs
    · cases hs
    · cases hs
      exact ⟨h1, h2, h3, h4, h5, h6, by simp only; omega, by simp only; omega, by simp only; omega⟩
  · rename_i e
    rw [if_neg e]
    split at hs
    · rename_i hg
      simp only [Rf.digC, Bool.and_eq_true, decide_eq_true_eq] at hg
      split at hs
      · rename_i z
        cases hs
        rw [if_pos ⟨z.1, by omega⟩]
        exact ⟨h1, h2, h3, h4, h5, h6, by simp only; omega, by simp only; omega, by simp only; omega⟩
      · rename_i z
        cases hs
        rw [if_neg (by omega)]
        have hn1 : (Rf.put false (c - 48) (c == 48) s).nm ≤ s.nd + 1 := by unfold Rf.put; split <;> simp only <;> omega
        have hi := Rf.put_i false (c - 48) (c == 48) s
        have hn := put_nd false (c - 48) (c == 48) s
        split
        · rename_i lt
          refine ⟨h1.set hc _, by rw [hn]; simp only; omega, h3.grow (by rw [h1.1]; exact lt) (by omega) (by omega), fun _ => ?_, fun z => by rw [hn] at z; omega, by rw [hn]; exact hn1, by rw [hn, hi]; omega, by rw [hi]; simp only; omega, by simp only; omega⟩
          simp only
          rw [dg_set (by rw [h1.1]; exact lt)]
          split
          · omega
          · exact h4 (by omega)
        · rename_i lt
          exact ⟨h1, by rw [hn]; simp only; omega, h3, h4, fun z => by rw [hn] at z; omega, by rw [hn]; exact hn1, by rw [hn, hi]; omega, by rw [hi]; simp only; omega, h9⟩
    · simp at hs
theorem dg_zero (n i : Nat) : dg (List.replicate n 0) i = 0 := by
  unfold dg
  rw [List.getD_eq_getElem?_getD, List.getElem?_replicate]; split <;> rfl
theorem SI.start : SI (Rf.start 0) zero := by
  have hl : ∀ n, (List.replicate n 0 : List Nat).length = n := fun n => List.length_replicate
  refine ⟨⟨hl 800, fun i => ?_⟩, rfl, fun i hi => absurd hi (Nat.not_lt_zero i), fun h => absurd h (Nat.lt_irrefl 0), fun _ => rfl, Nat.le_refl _, Nat.le_refl _, ?_, ?_⟩
  · have := dg_zero 800 i
    show dg (List.replicate 800 0) i < 256
    omega
  · show -((0 : Nat) : Int) ≤ 0
    omega
  · show (0 : Int) ≤ 800
    omega
theorem setGo_si (l : List UInt8) : ∀ f s x, SI s x → SI (setGo l f s x).1 (setGo l f s x).2
  | 0, s, x, h => h
  | f + 1, s, x, h => by
    rw [setGo]
    split
    · cases hs : Rf.step false (by8 l s.i) s with
      | none => exact h
      | some t => exact setGo_si l f t _ (h.step (by8_lt l s.i) hs)
    · exact h
end Dc
end Go.Proofs.YtapgibcdbggpkaaGreatDoor
namespace Go.Proofs.YtapgibcdbggpkaaGreatDoor
open Go Go.RowKit
set_option linter.all false
namespace Dc
theorem lt_of_div {n k : Nat} (h : n / 2 ^ k = 0) : n < 2 ^ k := by
  rcases Nat.lt_or_ge n (2 ^ k) with h1 | h1
  · exact h1
  · have := Nat.div_pos h1 (Nat.pow_pos (by decide)); omega
theorem half_le {n k : Nat} (k1 : 1 ≤ k) : n / 2 ^ k ≤ n / 2 := by
  refine Nat.div_le_div_left ?_ (by decide)
  exact Nat.pow_le_pow_right (n := 2) (i := 1) (by decide) k1
/-- what stands while digits are taken -/
structure PI (k : Nat) (D : List Nat) (nd r n : Nat) : Prop where
  lt : n < 10 * 2 ^ k
  z : r = 0 → n = 0
  one : r = 1 → n = dg D 0 - 48
  pos : 1 ≤ r → 1 ≤ n
  le : r ≤ nd
theorem PI.step {k : Nat} {D : List Nat} {nd r n : Nat} (h : PI k D nd r n) (hv : V nd D) (h0 : 49 ≤ dg D 0) (hr : r < nd) (hn : n / 2 ^ k = 0) : PI k D nd (r + 1) (n * 10 + (dg D r - 48)) := by
  have h1 := hv r hr
  have h2 : n < 2 ^ k := lt_of_div hn
  refine ⟨by omega, by omega, fun e => ?_, fun _ => ?_, by omega⟩
  · have e0 : r = 0 := by omega
    subst e0
    have := h.z rfl
    omega
  · rcases Nat.eq_zero_or_pos r with e | e
    · subst e; omega
    · have := h.pos e; omega
theorem pick_says {k : Nat} {D : List Nat} {nd : Nat} (hv : V nd D) (h0 : 49 ≤ dg D 0) : ∀ m r n, nd - r = m → PI k D nd r n → PI k D nd (pick k D nd r n).1 (pick k D nd r n).2 ∧ ((pick k D nd r n).2 / 2 ^ k ≠ 0 ∨ (pick k D nd r n).1 = nd)
  | m, r, n, hm, h => by
    rw [pick]
    by_cases a : n / 2 ^ k ≠ 0
    · rw [if_pos a]; exact ⟨h, .inl a⟩
    · rw [if_neg a]
      by_cases c : r < nd
      · rw [if_pos c]
        obtain ⟨m, rfl⟩ : ∃ j, m = j + 1 := ⟨m - 1, by omega⟩
        exact pick_says hv h0 m _ _ (by omega) (h.step hv h0 c (by omega))
      · rw [if_neg c]; exact ⟨h, .inr (by have := h.le; simp only; omega)⟩
theorem grow_says {k : Nat} : ∀ f r n, n < 10 * 2 ^ k → 2 ^ k ≤ n * 2 ^ f → (grow k f r n).2 / 2 ^ k ≠ 0 ∧ (grow k f r n).2 < 10 * 2 ^ k ∧ r ≤ (grow k f r n).1 ∧ (grow k f r n).1 ≤ r + f
  | 0, r, n, h, h2 => by
    rw [grow]
    refine ⟨?_, h, Nat.le_refl _, Nat.le_refl _⟩
    have : 0 < n / 2 ^ k := Nat.div_pos (by omega) (Nat.pow_pos (by decide))
    simp only; omega
  | f + 1, r, n, h, h2 => by
    rw [grow]
    by_cases a : n / 2 ^ k = 0
    · rw [if_pos a]
      have h3 : n < 2 ^ k := lt_of_div a
      have h4 : 2 ^ k ≤ n * 10 * 2 ^ f := by
        rw [Nat.pow_succ] at h2
        have : n * 10 * 2 ^ f = n * (10 * 2 ^ f) := Nat.mul_assoc _ _ _
        have h5 : n * (2 ^ f * 2) ≤ n * (10 * 2 ^ f) := Nat.mul_le_mul_left _ (by omega)
        omega
      obtain ⟨g1, g2, g3, g4⟩ := grow_says f (r + 1) (n * 10) (by omega) h4
      exact ⟨g1, g2, by omega, by omega⟩
    · rw [if_neg a]
      exact ⟨a, h, Nat.le_refl _, by simp only; omega⟩
/-- what has been taken when the first digit is put down -/
structure RI (k : Nat) (D : List Nat) (nd r n : Nat) : Prop where
  lt : n < 10 * 2 ^ k
  ne : n / 2 ^ k ≠ 0
  one : r = 1 → n = dg D 0 - 48
  pos : 1 ≤ r
  le : r ≤ nd + 64
theorem rst_says {x : Dec} (h : Ok x) {k : Nat} (k2 : k ≤ 60) : RI k x.D x.nd (rst k x).1 (rst k x).2 := by
  have p0 : PI k x.D x.nd 0 0 := ⟨Nat.mul_pos (by decide) (Nat.pow_pos (by decide)), fun _ => rfl, by omega, by omega, Nat.zero_le _⟩
  obtain ⟨p1, p2⟩ := pick_says h.v h.d0 _ 0 0 rfl p0
  have hp := h.pos
  unfold rst
  simp only
  by_cases a : (pick k x.D x.nd 0 0).2 / 2 ^ k ≠ 0
  · rw [if_pos a]
    refine ⟨p1.lt, a, p1.one, ?_, by have := p1.le; omega⟩
    rcases Nat.eq_zero_or_pos (pick k x.D x.nd 0 0).1 with e | e
    · have := p1.z e
      rw [this, Nat.zero_div] at a
      omega
    · exact e
  · rw [if_neg a]
    have e := p2.resolve_left a
    have h1 := p1.pos (by omega)
    have h2 : 2 ^ k ≤ (pick k x.D x.nd 0 0).2 * 2 ^ 64 := by
      have : 2 ^ k ≤ 2 ^ 64 := Nat.pow_le_pow_right (by decide) (by omega)
      have h3 : 1 * 2 ^ 64 ≤ (pick k x.D x.nd 0 0).2 * 2 ^ 64 := Nat.mul_le_mul_right _ h1
      omega
    obtain ⟨g1, g2, g3, g4⟩ := grow_says 64 (pick k x.D x.nd 0 0).1 (pick k x.D x.nd 0 0).2 p1.lt h2
    refine ⟨g2, g1, fun e1 => ?_, by omega, by omega⟩
    -- one digit alone, and it is too small: the growing takes one more
    exfalso
    have a' : (pick k x.D x.nd 0 0).2 / 2 ^ k = 0 := Decidable.not_not.1 a
    have : pick k x.D x.nd 0 0 = ((pick k x.D x.nd 0 0).1, (pick k x.D x.nd 0 0).2) := rfl
    rw [grow, if_pos a'] at e1
    obtain ⟨q1, q2, q3, q4⟩ := grow_says (k := k) 63 ((pick k x.D x.nd 0 0).1 + 1) ((pick k x.D x.nd 0 0).2 * 10) (by
        have h3 : (pick k x.D x.nd 0 0).2 < 2 ^ k := lt_of_div a'
        omega) (by
        exact Nat.le_trans (Nat.pow_le_pow_right (by decide) (by omega)) (Nat.le_mul_of_pos_left (2 ^ 63) (Nat.mul_pos (by omega) (by decide))))
    omega
theorem low_lt {n k : Nat} (h : n < 10 * 2 ^ k) : n / 2 ^ k ≤ 9 := by
  have : n / 2 ^ k < 10 := Nat.div_lt_of_lt_mul (by rw [Nat.mul_comm]; exact h)
  omega
theorem next_lt {n k c : Nat} (hc : c ≤ 9) : n % 2 ^ k * 10 + c < 10 * 2 ^ k := by
  have : n % 2 ^ k < 2 ^ k := Nat.mod_lt _ (Nat.pow_pos (by decide))
  omega
/-- what stands while digits are taken and put down: w0 the value of the first digit put down -/
structure MI (k nd : Nat) (q : Nat) (D : List Nat) (w n : Nat) : Prop where
  lt : n < 10 * 2 ^ k
  b : B D
  v : V (max nd w) D
  w8 : w ≤ 800
  f0 : w = 0 → n / 2 ^ k = q
  f1 : 0 < w → dg D 0 = q + 48
theorem MI.put {k nd q : Nat} {D : List Nat} {w n : Nat} (h : MI k nd q D w n) (hw : w < 800) (hm : w < nd ∨ nd ≤ w) {n' : Nat} (hn : n' < 10 * 2 ^ k) : MI k nd q (D.set w (n / 2 ^ k + 48)) (w + 1) n' := by
  have h1 := low_lt h.lt
  have hf := h.f0
  obtain ⟨u, hu⟩ : ∃ u, n / 2 ^ k = u := ⟨_, rfl⟩
  rw [hu] at h1 hf ⊢
  refine ⟨hn, h.b.set (by omega) _, ?_, by omega, by omega, fun _ => ?_⟩
  · rcases hm with e | e
    · have : max nd (w + 1) = max nd w := by omega
      rw [this]
      exact h.v.set (by rw [h.b.1]; exact hw) (by omega) (by omega)
    · have e1 : max nd (w + 1) = w + 1 := by omega
      have e2 : max nd w = w := by omega
      rw [e1]
      have hv := h.v
      rw [e2] at hv
      exact hv.grow (by rw [h.b.1]; exact hw) (by omega) (by omega)
  · rw [dg_set (by rw [h.b.1]; exact hw)]
    split
    · rename_i e
      rw [hf (by omega)]
    · exact h.f1 (by omega)
theorem mid_says {k nd q : Nat} (hn : nd ≤ 800) : ∀ m D r w n, nd - r = m → w < r → MI k nd q D w n → MI k nd q (mid k nd D r w n).1 (mid k nd D r w n).2.1 (mid k nd D r w n).2.2 ∧ (mid k nd D r w n).2.1 ≤ max nd w
  | m, D, r, w, n, hm, hw, h => by
    rw [mid]
    by_cases c : r < nd
    · rw [if_pos c]
      obtain ⟨m, rfl⟩ : ∃ j, m = j + 1 := ⟨m - 1, by omega⟩
      have hr := h.v r (by omega)
      obtain ⟨a1, a2⟩ := mid_says hn m (D.set w (n / 2 ^ k + 48)) (r + 1) (w + 1) (n % 2 ^ k * 10 + (dg D r - 48)) (by omega) (by omega) (h.put (by omega) (by omega) (next_lt (by omega)))
      exact ⟨a1, by omega⟩
    · rw [if_neg c]; exact ⟨h, by simp only; omega⟩
theorem extra_says {k nd q : Nat} : ∀ f D w n tr, MI k nd q D w n → (w = 0 → 0 < f ∧ n ≠ 0) → B (extra k f D w n tr).1 ∧ V (extra k f D w n tr).2.1 (extra k f D w n tr).1 ∧ (extra k f D w n tr).2.1 ≤ 800 ∧ 0 < (extra k f D w n tr).2.1 ∧ dg (extra k f D w n tr).1 0 = q + 48
  | 0, D, w, n, tr, h, h0 => by
    rw [extra]
    have : 0 < w := by
      rcases Nat.eq_zero_or_pos w with e | e
      · have := h0 e; omega
      · exact e
    exact ⟨h.b, h.v.mono (by simp only; omega), h.w8, this, h.f1 this⟩
  | f + 1, D, w, n, tr, h, h0 => by
    rw [extra]
    by_cases a : n = 0
    · rw [if_pos a]
      have : 0 < w := by
        rcases Nat.eq_zero_or_pos w with e | e
        · have := h0 e; omega
        · exact e
      exact ⟨h.b, h.v.mono (by simp only; omega), h.w8, this, h.f1 this⟩
    · rw [if_neg a]
      have hn' : n % 2 ^ k * 10 < 10 * 2 ^ k := next_lt (c := 0) (by omega)
      by_cases c : w < 800
      · rw [if_pos c]
        exact extra_says f _ _ _ _ (h.put c (by omega) hn') (by omega)
      · rw [if_neg c]
        refine extra_says f _ _ _ _ ⟨hn', h.b, h.v, h.w8, by omega, fun _ => h.f1 (by omega)⟩ (by omega)
/-- a shift to the right -/
theorem rsh_says {x : Dec} (h : Ok x) {k : Nat} (k2 : k ≤ 60) : Ok (rsh k x) ∧ (rsh k x).dp = x.dp - (((rst k x).1 : Int) - 1) ∧ dg (rsh k x).D 0 = (rst k x).2 / 2 ^ k + 48 := by
  have hr := rst_says h k2
  have hm : MI k x.nd ((rst k x).2 / 2 ^ k) x.D 0 (rst k x).2 := ⟨hr.lt, h.b, by rw [Nat.max_eq_left (Nat.zero_le _)]; exact h.v, by omega, fun _ => rfl, by omega⟩
  obtain ⟨m1, m2⟩ := mid_says h.nd _ x.D (rst k x).1 0 (rst k x).2 rfl (by have := hr.pos; omega) hm
  have hne : (mid k x.nd x.D (rst k x).1 0 (rst k x).2).2.1 = 0 → 0 < 80 ∧ (mid k x.nd x.D (rst k x).1 0 (rst k x).2).2.2 ≠ 0 := fun e => by
    refine ⟨by decide, fun e2 => ?_⟩
    have := m1.f0 e
    rw [e2, Nat.zero_div] at this
    exact hr.ne this.symm
  obtain ⟨e1, e2, e3, e4, e5⟩ := extra_says 80 _ _ _ x.tr m1 hne
  have hq := hr.ne
  have ht := trim_ok (x := ⟨(extra k 80 (mid k x.nd x.D (rst k x).1 0 (rst k x).2).1 (mid k x.nd x.D (rst k x).1 0 (rst k x).2).2.1 (mid k x.nd x.D (rst k x).1 0 (rst k x).2).2.2 x.tr).1, (extra k 80 (mid k x.nd x.D (rst k x).1 0 (rst k x).2).1 (mid k x.nd x.D (rst k x).1 0 (rst k x).2).2.1 (mid k x.nd x.D (rst k x).1 0 (rst k x).2).2.2 x.tr).2.1, x.dp - (((rst k x).1 : Int) - 1), (extra k 80 (mid k x.nd x.D (rst k x).1 0 (rst k x).2).1 (mid k x.nd x.D (rst k x).1 0 (rst k x).2).2.1 (mid k x.nd x.D (rst k x).1 0 (rst k x).2).2.2 x.tr).2.2⟩) ⟨e1, e3, e2, e4, by simp only; rw [e5]; exact Nat.add_le_add_right (Nat.one_le_iff_ne_zero.2 hq) 48⟩
  exact ⟨ht.1, ht.2, e5⟩
/-- each shift to the right brings the number down -/
theorem rsh_down {x : Dec} (h : Ok x) {k : Nat} (k1 : 1 ≤ k) (k2 : k ≤ 60) : (rsh k x).dp ≤ x.dp ∧ x.dp - 864 ≤ (rsh k x).dp ∧ 10 * (rsh k x).dp + (dg (rsh k x).D 0 : Int) < 10 * x.dp + (dg x.D 0 : Int) := by
  obtain ⟨s1, s2, s3⟩ := rsh_says h k2
  have hr := rst_says h k2
  have h1 := hr.pos
  have h2 := hr.le
  have h3 := h.nd
  have h4 := low_lt hr.lt
  have h5 := h.d0
  refine ⟨by omega, by omega, ?_⟩
  rw [s2, s3]
  by_cases e : (rst k x).1 = 1
  · have h6 := hr.one e
    have h7 : (rst k x).2 / 2 ^ k ≤ (rst k x).2 / 2 := half_le k1
    have hne := hr.ne
    generalize (rst k x).2 / 2 ^ k = u at *
    omega
  · generalize (rst k x).2 / 2 ^ k = u at *
    omega
/-- what stands while the digits are gone over from behind -/
structure LI (k dl nd : Nat) (D0 D : List Nat) (r n : Nat) : Prop where
  b : B D
  le : r ≤ nd
  pre : ∀ i, i < r → dg D i = dg D0 i
  val : pv D0 r * 2 ^ k + n = pv D0 nd * 2 ^ k / 10 ^ (nd - r)
  lt : n < 2 ^ k
  done : ∀ i, r + dl ≤ i → i < min (nd + dl) 800 → 48 ≤ dg D i ∧ dg D i ≤ 57
  f0 : r = 0 → dl = 0 → pv D0 nd * 2 ^ k < 10 ^ nd → 48 + (dg D0 0 - 48) * 2 ^ k ≤ dg D 0
theorem LI.next {k dl nd : Nat} {D0 D : List Nat} {r n : Nat} (h : LI k dl nd D0 D (r + 1) n) (hv : V nd D0) (hd : dl ≤ 19) :
    (n + (dg D r - 48) * 2 ^ k) / 10 < 2 ^ k ∧ n + (dg D r - 48) * 2 ^ k < 10 * 2 ^ k ∧
    (r + dl < 800 → LI k dl nd D0 (D.set (r + dl) ((n + (dg D r - 48) * 2 ^ k) % 10 + 48)) r ((n + (dg D r - 48) * 2 ^ k) / 10)) ∧
    (800 ≤ r + dl → LI k dl nd D0 D r ((n + (dg D r - 48) * 2 ^ k) / 10)) := by
  have hp := h.pre r (by omega)
  have hr := hv r (by have := h.le; omega)
  have hle := h.le
  have hlt := h.lt
  obtain ⟨P, hP⟩ : ∃ P, 2 ^ k = P := ⟨_, rfl⟩
  obtain ⟨c, hc⟩ : ∃ c, dg D0 r - 48 = c := ⟨_, rfl⟩
  have c9 : c ≤ 9 := by omega
  have hval := h.val
  rw [pv, hc, hP] at hval
  rw [hp, hc, hP]
  rw [hP] at hlt
  have cP : c * P ≤ 9 * P := Nat.mul_le_mul_right _ c9
  have q1 : n + c * P < 10 * P := by omega
  have q2 : (n + c * P) / 10 < P := by omega
  have v2 : pv D0 r * P + (n + c * P) / 10 = pv D0 nd * P / 10 ^ (nd - r) := by
    rw [show nd - r = (nd - (r + 1)) + 1 by omega, Nat.pow_succ, ← Nat.div_div_eq_div_mul, ← hval, Nat.add_mul, Nat.mul_right_comm]
    omega
  refine ⟨q2, q1, fun a => ?_, fun a => ?_⟩
  · refine ⟨h.b.set (by omega) _, by omega, fun i hi => ?_, by rw [hP]; exact v2, by rw [hP]; exact q2, fun i h1 h2 => ?_, fun e1 e2 e3 => ?_⟩
    · rw [dg_set (by rw [h.b.1]; exact a), if_neg (by omega)]
      exact h.pre i (by omega)
    · rw [dg_set (by rw [h.b.1]; exact a)]
      split
      · omega
      · exact h.done i (by omega) h2
    · subst e1
      subst e2
      rw [hP] at e3 ⊢
      rw [dg_set (by rw [h.b.1]; exact a), if_pos rfl, hc]
      simp only [pv, Nat.zero_mul, Nat.zero_add, Nat.sub_zero] at v2
      rw [Nat.div_eq_of_lt e3] at v2
      omega
  · exact ⟨h.b, by omega, fun i hi => h.pre i (by omega), by rw [hP]; exact v2, by rw [hP]; exact q2, fun i h1 h2 => by omega, fun e1 e2 => by omega⟩
theorem lmid_says {k dl nd : Nat} {D0 : List Nat} (hv : V nd D0) (hd : dl ≤ 19) : ∀ r D n tr, LI k dl nd D0 D r n → LI k dl nd D0 (lmid k dl D r n tr).1 0 (lmid k dl D r n tr).2.1
  | 0, D, n, tr, h => h
  | r + 1, D, n, tr, h => by
    obtain ⟨-, -, a, c⟩ := h.next hv hd
    rw [lmid]
    by_cases e : r + dl < 800
    · rw [if_pos e]; exact lmid_says hv hd r _ _ _ (a e)
    · rw [if_neg e]; exact lmid_says hv hd r _ _ _ (c (by omega))
/-- what stands while the new digits are put down -/
structure EI (M : Nat) (D : List Nat) (w n : Nat) : Prop where
  b : B D
  w19 : w ≤ 19
  up : n < 10 ^ w
  lo : 0 < w → 10 ^ (w - 1) ≤ n
  done : ∀ i, w ≤ i → i < M → 48 ≤ dg D i ∧ dg D i ≤ 57
theorem EI.next {M : Nat} {D : List Nat} {w n : Nat} (h : EI M D (w + 1) n) : n ≠ 0 ∧ EI M (D.set w (n % 10 + 48)) w (n / 10) := by
  have h1 := h.lo (by omega)
  have h2 := h.up
  have h3 := h.w19
  rw [Nat.pow_succ] at h2
  have h4 : 0 < 10 ^ (w + 1 - 1) := Nat.pow_pos (by decide)
  refine ⟨by omega, h.b.set (by omega) _, by omega, by omega, fun hw => ?_, fun i h5 h6 => ?_⟩
  · obtain ⟨v, rfl⟩ : ∃ v, w = v + 1 := ⟨w - 1, by omega⟩
    rw [show v + 1 + 1 - 1 = v + 1 by omega, Nat.pow_succ] at h1
    rw [show v + 1 - 1 = v by omega]
    omega
  · rw [dg_set (by rw [h.b.1]; omega)]
    split
    · omega
    · exact h.done i (by omega) h6
theorem lext_says {M : Nat} : ∀ w D n tr, EI M D w n → B (lext D w n tr).1 ∧ V M (lext D w n tr).1 ∧ (0 < w → 49 ≤ dg (lext D w n tr).1 0) ∧ (w = 0 → (lext D w n tr).1 = D)
  | 0, D, n, tr, h => ⟨h.b, fun i hi => h.done i (Nat.zero_le _) hi, by omega, fun _ => rfl⟩
  | w + 1, D, n, tr, h => by
    obtain ⟨a, c⟩ := h.next
    have h3 := h.w19
    rw [lext, if_neg a, if_pos (by omega)]
    obtain ⟨l1, l2, l3, l4⟩ := lext_says w _ (n / 10) tr c
    refine ⟨l1, l2, fun _ => ?_, by omega⟩
    rcases Nat.eq_zero_or_pos w with e | e
    · rw [l4 e]
      subst e
      rw [dg_set (by rw [h.b.1]; omega), if_pos rfl]
      have h1 := h.up
      omega
    · exact l3 e
/-- where the going over begins -/
theorem LI.start {x : Dec} (h : Ok x) (k dl : Nat) : LI k dl x.nd x.D x.D x.nd 0 :=
  ⟨h.b, Nat.le_refl _, fun _ _ => rfl, by rw [Nat.sub_self, Nat.pow_zero, Nat.div_one, Nat.add_zero], Nat.pow_pos (by decide), fun i h1 h2 => by omega, fun e => by have := h.pos; omega⟩
/-- where the new digits begin -/
theorem EI.start {x : Dec} (h : Ok x) {k : Nat} (k1 : 1 ≤ k) (k2 : k ≤ 60) {D : List Nat} {n : Nat} (hl : LI k (dl k x) x.nd x.D D 0 n) : EI (min (x.nd + dl k x) 800) D (dl k x) n := by
  obtain ⟨d1, d2, d3⟩ := dl_says h k1 k2
  have hv := hl.val
  simp only [pv, Nat.zero_mul, Nat.zero_add, Nat.sub_zero] at hv
  have t : 0 < 10 ^ x.nd := Nat.pow_pos (by decide)
  refine ⟨hl.b, d3, ?_, fun hw => ?_, fun i h1 h2 => hl.done i (by omega) h2⟩
  · rw [hv]
    rw [Nat.pow_add] at d1
    exact Nat.div_lt_of_lt_mul d1
  · rw [hv, Nat.le_div_iff_mul_le t, ← Nat.pow_add]
    rw [show dl k x - 1 + x.nd = x.nd + dl k x - 1 by omega]
    exact d2
/-- a shift to the left -/
theorem lsh_says {x : Dec} (h : Ok x) {k : Nat} (k1 : 1 ≤ k) (k2 : k ≤ 60) : Ok (lsh k x) ∧ (lsh k x).dp = x.dp + (dl k x : Int) ∧ dl k x ≤ 19 ∧ (dl k x = 0 → 48 + (dg x.D 0 - 48) * 2 ^ k ≤ dg (lsh k x).D 0) := by
  obtain ⟨d1, d2, d3⟩ := dl_says h k1 k2
  have m := lmid_says h.v d3 x.nd x.D 0 x.tr (LI.start h k (dl k x))
  have e := EI.start h k1 k2 m
  obtain ⟨l1, l2, l3, l4⟩ := lext_says (dl k x) _ _ (lmid k (dl k x) x.D x.nd 0 x.tr).2.2 e
  have hp := h.pos
  have h49 := h.d0
  have f0 : dl k x = 0 → 48 + (dg x.D 0 - 48) * 2 ^ k ≤ dg (lext (lmid k (dl k x) x.D x.nd 0 x.tr).1 (dl k x) (lmid k (dl k x) x.D x.nd 0 x.tr).2.1 (lmid k (dl k x) x.D x.nd 0 x.tr).2.2).1 0 := fun z => by
    rw [l4 z]
    refine m.f0 rfl z ?_
    rw [z, Nat.add_zero] at d1
    exact d1
  have k0 : 1 ≤ (dg x.D 0 - 48) * 2 ^ k := Nat.mul_pos (by omega) (Nat.pow_pos (by decide))
  have ht := trim_ok (x := ⟨(lext (lmid k (dl k x) x.D x.nd 0 x.tr).1 (dl k x) (lmid k (dl k x) x.D x.nd 0 x.tr).2.1 (lmid k (dl k x) x.D x.nd 0 x.tr).2.2).1, min (x.nd + dl k x) 800, x.dp + (dl k x : Int), (lext (lmid k (dl k x) x.D x.nd 0 x.tr).1 (dl k x) (lmid k (dl k x) x.D x.nd 0 x.tr).2.1 (lmid k (dl k x) x.D x.nd 0 x.tr).2.2).2⟩) ⟨l1, by simp only; omega, l2, by simp only; omega, by
    rcases Nat.eq_zero_or_pos (dl k x) with z | z
    · have := f0 z; simp only; omega
    · exact l3 z⟩
  exact ⟨ht.1, ht.2, d3, f0⟩
/-- each shift to the left brings the number up -/
theorem lsh_up {x : Dec} (h : Ok x) {k : Nat} (k1 : 1 ≤ k) (k2 : k ≤ 60) : x.dp ≤ (lsh k x).dp ∧ (lsh k x).dp ≤ x.dp + 19 ∧ 10 * x.dp + (dg x.D 0 : Int) < 10 * (lsh k x).dp + (dg (lsh k x).D 0 : Int) := by
  obtain ⟨s1, s2, s3, s4⟩ := lsh_says h k1 k2
  have h5 := h.d0
  have h6 := h.v 0 h.pos
  have h7 := s1.d0
  refine ⟨by omega, by omega, ?_⟩
  rcases Nat.eq_zero_or_pos (dl k x) with z | z
  · have h8 := s4 z
    have h9 : (dg x.D 0 - 48) * 2 ≤ (dg x.D 0 - 48) * 2 ^ k := Nat.mul_le_mul_left _ (Nat.pow_le_pow_right (n := 2) (i := 1) (by decide) k1)
    omega
  · omega
/-- how near: a shift to the right makes it less, one to the left more -/
def near (x : Dec) : Int := 10 * x.dp + (dg x.D 0 : Int)
theorem shr_says : ∀ (k : Nat) {x : Dec}, Ok x → 1 ≤ k → Ok (shr k x) ∧ (shr k x).dp ≤ x.dp ∧ x.dp - 864 * (k : Int) ≤ (shr k x).dp ∧ near (shr k x) < near x
  | k, x, h, k1 => by
    rw [shr]
    by_cases a : 60 < k
    · rw [if_pos a]
      obtain ⟨s1, s2, s3⟩ := rsh_down h (k := 60) (by decide) (by decide)
      obtain ⟨t1, t2, t3, t4⟩ := shr_says (k - 60) (rsh_says h (k := 60) (by decide)).1 (by omega)
      unfold near at *
      exact ⟨t1, by omega, by omega, by omega⟩
    · rw [if_neg a]
      obtain ⟨s1, s2, s3⟩ := rsh_down h k1 (by omega)
      unfold near
      exact ⟨(rsh_says h (by omega)).1, s1, by omega, s3⟩
termination_by k => k
theorem shl_says : ∀ (k : Nat) {x : Dec}, Ok x → 1 ≤ k → Ok (shl k x) ∧ x.dp ≤ (shl k x).dp ∧ (shl k x).dp ≤ x.dp + 19 * (k : Int) ∧ near x < near (shl k x)
  | k, x, h, k1 => by
    rw [shl]
    by_cases a : 60 < k
    · rw [if_pos a]
      obtain ⟨s1, s2, s3⟩ := lsh_up h (k := 60) (by decide) (by decide)
      obtain ⟨t1, t2, t3, t4⟩ := shl_says (k - 60) (lsh_says h (k := 60) (by decide) (by decide)).1 (by omega)
      unfold near at *
      exact ⟨t1, by omega, by omega, by omega⟩
    · rw [if_neg a]
      obtain ⟨s1, s2, s3⟩ := lsh_up h k1 (by omega)
      unfold near
      exact ⟨(lsh_says h k1 (by omega)).1, s1, by omega, s3⟩
termination_by k => k
end Dc
end Go.Proofs.YtapgibcdbggpkaaGreatDoor
namespace Go.Proofs.YtapgibcdbggpkaaGreatDoor
open Go Go.RowKit
set_option linter.all false
namespace Dc
variable {ng : Bool}
/-- the least number that something holds of: a loop's measure where its slots tell none -/
noncomputable def least (Q : Nat → Prop) : Nat := open Classical in if h : ∃ f, Q f ∧ ∀ g, g < f → ¬ Q g then Classical.choose h else 0
theorem least_both {Q : Nat → Prop} : ∀ f, Q f → Q (least Q) ∧ least Q ≤ f := by
  intro f hf
  have hex : ∃ f, Q f ∧ ∀ g, g < f → ¬ Q g := by
    induction f using Nat.strongRecOn with
    | ind f ih =>
      by_cases h : ∃ g, g < f ∧ Q g
      · obtain ⟨g, h1, h2⟩ := h
        exact ih g h1 h2
      · exact ⟨f, hf, fun g h1 h2 => h ⟨g, h1, h2⟩⟩
  have hl : least Q = Classical.choose hex := by unfold least; rw [dif_pos hex]
  obtain ⟨h1, h2⟩ := Classical.choose_spec hex
  rw [hl]
  refine ⟨h1, ?_⟩
  rcases Nat.lt_or_ge f (Classical.choose hex) with h | h
  · exact absurd hf (h2 f h)
  · exact h
theorem least_ok {Q : Nat → Prop} (h : ∃ f, Q f) : Q (least Q) := by obtain ⟨f, hf⟩ := h; exact (least_both f hf).1
theorem least_le {Q : Nat → Prop} {f : Nat} (h : Q f) : least Q ≤ f := (least_both f h).2
theorem least_rel {Q : Nat → Prop} (h : ∃ f, Q f) : ∃ F, Q F ∧ Hid (F ≤ least Q) := ⟨least Q, least_ok h, Lib.hid (Nat.le_refl _)⟩
def cel (ng : Bool) (x : Dec) : Array Value := ((x.D.map fun n : Nat => Value.int .u8 (n : Int)) ++ [Value.int .i64 (x.nd : Int), Value.int .i64 x.dp, Value.bool ng, Value.bool x.tr]).toArray
/-- where a decimal lies, what it holds -/
structure DW (ng : Bool) (w : World) (b : Nat) (x : Dec) : Prop where
  blk : w.heap[b]? = some (.cells (cel ng x) 199 (0, 0))
  B : B x.D
section
variable {w w' : World} {b : Nat} {x : Dec}
theorem cel_at (h : x.D.length = 800) {i : Nat} (hi : i < 800) : (cel ng x)[i]? = some (.int .u8 (dg x.D i : Int)) := by
  unfold cel
  rw [List.getElem?_toArray, List.getElem?_append_left (by rw [List.length_map]; omega), List.getElem?_map, dg_get (by omega)]; rfl
theorem cel_nd (h : x.D.length = 800) : (cel ng x)[800]? = some (.int .i64 (x.nd : Int)) := by
  unfold cel
  rw [List.getElem?_toArray, List.getElem?_append_right (by rw [List.length_map]; omega), List.length_map, h]; rfl
theorem cel_dp (h : x.D.length = 800) : (cel ng x)[801]? = some (.int .i64 x.dp) := by
  unfold cel
  rw [List.getElem?_toArray, List.getElem?_append_right (by rw [List.length_map]; omega), List.length_map, h]; rfl
theorem cel_neg (h : x.D.length = 800) : (cel ng x)[802]? = some (.bool ng) := by
  unfold cel
  rw [List.getElem?_toArray, List.getElem?_append_right (by rw [List.length_map]; omega), List.length_map, h]; rfl
theorem cel_tr (h : x.D.length = 800) : (cel ng x)[803]? = some (.bool x.tr) := by
  unfold cel
  rw [List.getElem?_toArray, List.getElem?_append_right (by rw [List.length_map]; omega), List.length_map, h]; rfl
theorem set_at (h : x.D.length = 800) {i : Nat} (hi : i < 800) (v : Nat) : (cel ng x).setIfInBounds i (.int .u8 (v : Int)) = cel ng ⟨x.D.set i v, x.nd, x.dp, x.tr⟩ := by
  unfold cel
  rw [List.setIfInBounds_toArray, List.set_append_left _ _ (by rw [List.length_map]; omega), List.map_set]
theorem set_nd (h : x.D.length = 800) (v : Nat) : (cel ng x).setIfInBounds 800 (.int .i64 (v : Int)) = cel ng ⟨x.D, v, x.dp, x.tr⟩ := by
  unfold cel
  rw [List.setIfInBounds_toArray, List.set_append_right _ _ (by rw [List.length_map]; omega), List.length_map, h]; rfl
theorem set_dp (h : x.D.length = 800) (v : Int) : (cel ng x).setIfInBounds 801 (.int .i64 v) = cel ng ⟨x.D, x.nd, v, x.tr⟩ := by
  unfold cel
  rw [List.setIfInBounds_toArray, List.set_append_right _ _ (by rw [List.length_map]; omega), List.length_map, h]; rfl
theorem set_neg (h : x.D.length = 800) (v : Bool) : (cel ng x).setIfInBounds 802 (.bool v) = cel v x := by
  unfold cel
  rw [List.setIfInBounds_toArray, List.set_append_right _ _ (by rw [List.length_map]; omega), List.length_map, h]; rfl
theorem set_tr (h : x.D.length = 800) (v : Bool) : (cel ng x).setIfInBounds 803 (.bool v) = cel ng ⟨x.D, x.nd, x.dp, v⟩ := by
  unfold cel
  rw [List.setIfInBounds_toArray, List.set_append_right _ _ (by rw [List.length_map]; omega), List.length_map, h]; rfl
theorem DW.lt (h : DW ng w b x) : b < w.heap.size := bk_lt h.blk
theorem DW.free (h : DW ng w b x) (i : Nat) : w.frozen? ⟨b, i, none⟩ = false := bk_free h.blk i
theorem DW.cd (h : DW ng w b x) {i : Nat} (hi : i < 800) : w.cell? ⟨b, i, none⟩ = some (.int .u8 (dg x.D i : Int)) := bk_cell h.blk i _ (cel_at h.B.1 hi)
theorem DW.cnd (h : DW ng w b x) : w.cell? ⟨b, 800, none⟩ = some (.int .i64 (x.nd : Int)) := bk_cell h.blk 800 _ (cel_nd h.B.1)
theorem DW.cdp (h : DW ng w b x) : w.cell? ⟨b, 801, none⟩ = some (.int .i64 x.dp) := bk_cell h.blk 801 _ (cel_dp h.B.1)
theorem DW.cneg (h : DW ng w b x) : w.cell? ⟨b, 802, none⟩ = some (.bool ng) := bk_cell h.blk 802 _ (cel_neg h.B.1)
theorem DW.ctr (h : DW ng w b x) : w.cell? ⟨b, 803, none⟩ = some (.bool x.tr) := bk_cell h.blk 803 _ (cel_tr h.B.1)
theorem DW.setd (h : DW ng w b x) {i : Nat} (hi : i < 800) {v : Nat} (hv : v < 256) : DW ng (w.setCell ⟨b, i, none⟩ (.int .u8 (v : Int))) b ⟨x.D.set i v, x.nd, x.dp, x.tr⟩ :=
  ⟨by rw [bk_set h.blk, set_at h.B.1 hi], h.B.set hv i⟩
theorem DW.setnd (h : DW ng w b x) (v : Nat) : DW ng (w.setCell ⟨b, 800, none⟩ (.int .i64 (v : Int))) b ⟨x.D, v, x.dp, x.tr⟩ := ⟨by rw [bk_set h.blk, set_nd h.B.1], h.B⟩
theorem DW.setdp (h : DW ng w b x) (v : Int) : DW ng (w.setCell ⟨b, 801, none⟩ (.int .i64 v)) b ⟨x.D, x.nd, v, x.tr⟩ := ⟨by rw [bk_set h.blk, set_dp h.B.1], h.B⟩
theorem DW.setneg (h : DW ng w b x) (v : Bool) : DW v (w.setCell ⟨b, 802, none⟩ (.bool v)) b x := ⟨by rw [bk_set h.blk, set_neg h.B.1], h.B⟩
theorem DW.settr (h : DW ng w b x) (v : Bool) : DW ng (w.setCell ⟨b, 803, none⟩ (.bool v)) b ⟨x.D, x.nd, x.dp, v⟩ := ⟨by rw [bk_set h.blk, set_tr h.B.1], h.B⟩
theorem chg_set (w : World) (b i : Nat) (v : Value) : Chg [b] w (w.setCell ⟨b, i, none⟩ v) := (Chg.refl [b] w).setCell (a := ⟨b, i, none⟩) (.inl (by simp)) v
end
theorem DW.pur {w w' : World} {b : Nat} {x : Dec} (h : DW ng w b x) (hp : Pur w w') : DW ng w' b x := ⟨bk_pur h.blk hp, h.B⟩
def ndOf (b : Nat) (w : World) : Nat := match w.cell? ⟨b, 800, none⟩ with | some v => (intOf v).toNat | none => 0
theorem DW.ndOf {w : World} {b : Nat} {x : Dec} (h : DW ng w b x) : ndOf b w = x.nd := by unfold Dc.ndOf; rw [h.cnd]; simp [intOf]
theorem DW.ndOf_set {w : World} {b : Nat} {x : Dec} (h : DW ng w b x) (v : Nat) : Dc.ndOf b (w.setCell ⟨b, 800, none⟩ (.int .i64 (v : Int))) = v := (h.setnd v).ndOf
set_option maxRecDepth 100000 in
set_option maxHeartbeats 4000000 in
theorem trim_any {w : World} {b : Nat} {x : Dec} (h : DW ng w b x) (hn : x.nd ≤ 800) :
    Calls Tryz.prog 187 #[.pointer (some ⟨b, 0, none⟩)] w fun e w' => e = .returned (.tuple #[]) ∧ DW ng w' b (trim x) ∧ Chg [b] w w' := by
  obtain ⟨D, n0, dp, tr⟩ := x
  simp only at hn
  have HT : ∀ n, trimN D n0 = n → trim ⟨D, n0, dp, tr⟩ = ⟨D, n, if n = 0 then 0 else dp, tr⟩ := fun n e => by unfold trim; simp only [e]
  go_enter Tryz.func187, Tryz.ntmps187
  go_wp2
  go_loopw [] (fun wr => ∃ n : Nat, n ≤ 800 ∧ DW ng wr b ⟨D, n, dp, tr⟩ ∧ Chg [b] w wr ∧ Hid (trimN D n0 = trimN D n)) (fun wr => ndOf b wr)
  case atStart => exact ⟨n0, hn, h, Chg.refl _ _, Lib.hid rfl⟩
  case round =>
    obtain ⟨n, hn2, hw, hc, HS⟩ := hrel
    have hnd := hw.ndOf
    simp only at hnd
    have c0 := fun x : PW wr => (hw.pur x.pur).cnd
    simp only at c0
    rcases n with _ | m
    · have HV := Lib.hid (HT 0 HS.out)
      clear HS HT hn h
      go_wp2
      refine wp_region_pur (by kernel_rfl) (by kernel_rfl) ?_
      repeat (go_big_quiet_step (fail))
      refine wpQuiet_nil ?_
      intro wq hq
      have hw2 := hw.pur hq
      have c1 := hw2.cnd
      simp only at c1
      have f1 := hw2.free 801
      have c2 := hw2.cdp
      have hw3 := hw2.setdp 0
      have cc := (hc.pur hq).trans (chg_set wq b 801 (.int .i64 0))
      go_wp2
      refine bodyPost_end (results_none rfl _ _ _) rfl ⟨rfl, ?_, cc⟩
      rw [HV.out]
      exact hw3
    · have cm := fun x : PW wr => (hw.pur x.pur).cd (i := m) (by omega)
      simp only at cm
      have wm : IntKind.i64.wrap (((m + 1 : Nat) : Int) - 1) = (m : Int) := by rw [show ((m + 1 : Nat) : Int) - 1 = (m : Int) by omega]; exact IntWalk.i64_in _ (by omega)
      have m0 : (0 : Int) ≤ (m : Int) := by omega
      have m8 : (m : Int) < 800 := by omega
      have d0 : decide ((0 : Int) < ((m + 1 : Nat) : Int)) = true := by rw [decide_eq_true_eq]; omega
      by_cases e48 : dg D m = 48
      · have d1 : ((dg D m : Int) == 48) = true := by rw [beq_iff_eq]; omega
        have HS2 := Lib.hid (show trimN D n0 = trimN D m by rw [HS.out, trimN, if_pos e48])
        clear HS e48 HT hn h
        go_wp2
        refine wp_region_pur (by kernel_rfl) (by kernel_rfl) ?_
        repeat (go_big_quiet_step (fail))
        refine wpQuiet_nil ?_
        intro wq hq
        have hw2 := hw.pur hq
        have c1 := hw2.cnd
        simp only at c1
        have f1 := hw2.free 800
        have hw3 := hw2.setnd m
        have cc := (hc.pur hq).trans (chg_set wq b 800 (.int .i64 (m : Int)))
        go_wp2
        go_roundw
        case rel => exact ⟨m, by omega, hw3, cc, HS2⟩
        case measure => rw [hw2.ndOf_set]; omega
      · have d1 : ((dg D m : Int) == 48) = false := by rw [beq_eq_false_iff_ne]; omega
        have HV := Lib.hid (HT (m + 1) (by rw [HS.out, trimN, if_neg e48]))
        have d2 : (((m + 1 : Nat) : Int) == 0) = false := by rw [beq_eq_false_iff_ne]; omega
        clear HS e48 HT hn h
        go_wp2
        refine wp_region_pur (by kernel_rfl) (by kernel_rfl) ?_
        repeat (go_big_quiet_step (fail))
        refine wpQuiet_nil ?_
        intro wq hq
        have hw2 := hw.pur hq
        have c1 := hw2.cnd
        simp only at c1
        have cc := hc.pur hq
        go_wp2
        refine bodyPost_end (results_none rfl _ _ _) rfl ⟨rfl, ?_, cc⟩
        rw [HV.out]
        simpa using hw2
end Dc
end Go.Proofs.YtapgibcdbggpkaaGreatDoor
