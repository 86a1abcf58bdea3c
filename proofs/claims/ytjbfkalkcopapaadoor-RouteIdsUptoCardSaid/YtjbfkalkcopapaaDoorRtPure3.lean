/- The document's answer for a web target, step by step, is the plain url. No program in sight. -/
import Derived.Test.YtjbfkalkcopapaaDoorRtPure2
namespace Go.Proofs.YtjbfkalkcopapaaDoor
open Go Go.RowKit
set_option linter.all false
def goB (b : UInt8) : Bool := b != 47 && b != 58
def fin6 (h : Bytes) (n : Int) (p : Bytes) : Option Adr := if okHost h = true ∧ okPath p = true then some ⟨6, [], h, n, p⟩ else none
def orSlash (r : Bytes) : Bytes := if r = [] then [47] else r
def rInner (s : Bytes) : Option Adr :=
  if (s.dropWhile goB).head? = some 58 then
    (if ((s.dropWhile goB).drop 1).takeWhile digB = [] ∨ (((s.dropWhile goB).drop 1).takeWhile digB).head?.map (·.toNat) = some 48 ∨ 65535 < dval 0 (((s.dropWhile goB).drop 1).takeWhile digB) then none
     else if ((s.dropWhile goB).drop 1).dropWhile digB ≠ [] ∧ (((s.dropWhile goB).drop 1).dropWhile digB).head? ≠ some 47 then none
     else fin6 (s.takeWhile goB) (dval 0 (((s.dropWhile goB).drop 1).takeWhile digB)) (orSlash (((s.dropWhile goB).drop 1).dropWhile digB)))
  else fin6 (s.takeWhile goB) 80 (orSlash (s.dropWhile goB))
theorem dw_head (p : UInt8 → Bool) : ∀ l : Bytes, l.dropWhile p = [] ∨ ∃ c r, l.dropWhile p = c :: r ∧ p c = false
  | [] => .inl rfl
  | c :: r => by
    by_cases h : p c = true
    · rw [List.dropWhile_cons, if_pos h]; exact dw_head p r
    · rw [List.dropWhile_cons, if_neg h]; exact .inr ⟨c, r, rfl, by simpa using h⟩
theorem tw_all (p : UInt8 → Bool) : ∀ l : Bytes, ∀ x ∈ l.takeWhile p, p x = true
  | [], x, h => by cases h
  | c :: r, x, h => by
    by_cases hc : p c = true
    · rw [List.takeWhile_cons, if_pos hc] at h
      rcases List.mem_cons.1 h with rfl | h
      · exact hc
      · exact tw_all p r x h
    · rw [List.takeWhile_cons, if_neg hc] at h; cases h
theorem stop_at (p : UInt8 → Bool) (a b : Bytes) (ha : ∀ x ∈ a, p x = true) (hb : b = [] ∨ ∃ c r, b = c :: r ∧ p c = false) : (a ++ b).takeWhile p = a ∧ (a ++ b).dropWhile p = b := by
  rw [List.takeWhile_append_of_pos ha, List.dropWhile_append_of_pos ha]
  rcases hb with rfl | ⟨c, r, rfl, hc⟩
  · simp
  · simp [hc]
theorem url_inner (t : Bytes) : url t = if headH <+: t ∧ t.length ≤ 256 then rInner (t.drop 7) else none := by
  unfold url
  by_cases hc : headH <+: t ∧ t.length ≤ 256
  · rw [if_pos hc, if_pos hc]
    generalize t.drop 7 = s
    clear hc
    obtain ⟨a, ha⟩ : ∃ a, a = s.takeWhile (· != 47) := ⟨_, rfl⟩
    obtain ⟨b, hb⟩ : ∃ b, b = s.dropWhile (· != 47) := ⟨_, rfl⟩
    obtain ⟨h, hh⟩ : ∃ h, h = a.takeWhile (· != 58) := ⟨_, rfl⟩
    obtain ⟨c, hcc⟩ : ∃ c, c = a.dropWhile (· != 58) := ⟨_, rfl⟩
    have hs : s = a ++ b := by rw [ha, hb, List.takeWhile_append_dropWhile]
    have haa : a = h ++ c := by rw [hh, hcc, List.takeWhile_append_dropWhile]
    have fa : ∀ x ∈ a, x ≠ 47 := fun x hx => by rw [ha] at hx; simpa using tw_all _ _ x hx
    have fh : ∀ x ∈ h, x ≠ 58 := fun x hx => by rw [hh] at hx; simpa using tw_all _ _ x hx
    have fb : b = [] ∨ ∃ r, b = 47 :: r := by
      rcases dw_head (· != 47) s with e | ⟨x, r, e, hx⟩
      · exact .inl (by rw [hb, e])
      · obtain rfl : x = 47 := by simpa using hx
        exact .inr ⟨r, by rw [hb, e]⟩
    have fc : c = [] ∨ ∃ r, c = 58 :: r := by
      rcases dw_head (· != 58) a with e | ⟨x, r, e, hx⟩
      · exact .inl (by rw [hcc, e])
      · obtain rfl : x = 58 := by simpa using hx
        exact .inr ⟨r, by rw [hcc, e]⟩
    have e1 : hp s = a := ha.symm
    have e2 : pathOf s = orSlash b := by unfold pathOf orSlash; rw [← hb]
    have e3 : hostOf a = h := hh.symm
    have e4 : portIn a = if c = [] then some 80 else portOf (c.drop 1) := by unfold portIn; rw [← hcc]
    rw [e1, e2, e3, e4]
    have gh : ∀ x ∈ h, goB x = true := fun x hx => by
      have h1 := fa x (by rw [haa]; exact List.mem_append_left _ hx)
      have h2 := fh x hx
      simp [goB, h1, h2]
    have gst : c ++ b = [] ∨ ∃ x r, c ++ b = x :: r ∧ goB x = false := by
      rcases fc with rfl | ⟨r, rfl⟩
      · rcases fb with rfl | ⟨r, rfl⟩
        · exact .inl rfl
        · exact .inr ⟨47, r, rfl, by decide⟩
      · exact .inr ⟨58, r ++ b, rfl, by decide⟩
    obtain ⟨t1, t2⟩ := stop_at goB h (c ++ b) gh gst
    have hs2 : s = h ++ (c ++ b) := by rw [hs, haa, List.append_assoc]
    rw [← hs2] at t1 t2
    unfold rInner
    rw [t1, t2]
    rcases fc with rfl | ⟨p, rfl⟩
    · rw [if_pos rfl, List.nil_append, if_neg (by rcases fb with rfl | ⟨r, rfl⟩ <;> simp)]
      rfl
    · rw [if_neg (by simp), List.cons_append, if_pos (by simp)]
      simp only [List.drop_succ_cons, List.drop_zero]
      by_cases hd : digitsB p = true
      · have gb : b = [] ∨ ∃ x r, b = x :: r ∧ digB x = false := by
          rcases fb with rfl | ⟨r, rfl⟩
          · exact .inl rfl
          · exact .inr ⟨47, r, rfl, by decide⟩
        obtain ⟨u1, u2⟩ := stop_at digB p b (fun x hx => List.all_eq_true.1 hd x hx) gb
        rw [u1, u2]
        by_cases hbad : p = [] ∨ p.head?.map (·.toNat) = some 48 ∨ 65535 < dval 0 p
        · rw [if_pos hbad]
          have : portOf p = none := by
            unfold portOf
            rw [if_neg]
            rintro ⟨q1, q2, q3, q4⟩
            rcases hbad with h | h | h
            · exact q1 h
            · exact q3 h
            · omega
          rw [this]
        · rw [if_neg hbad, if_neg (by rcases fb with rfl | ⟨r, rfl⟩ <;> simp)]
          have : portOf p = some ((dval 0 p : Nat) : Int) := by
            unfold portOf
            rw [if_pos ⟨fun h => hbad (.inl h), hd, fun h => hbad (.inr (.inl h)), by omega⟩]
          rw [this]
          rfl
      · have hno : portOf p = none := by
          unfold portOf
          rw [if_neg]
          rintro ⟨q1, q2, q3, q4⟩
          exact hd q2
        rw [hno]
        obtain ⟨x, r, er, hx⟩ : ∃ x r, p.dropWhile digB = x :: r ∧ digB x = false := by
          rcases dw_head digB p with e | h
          · exfalso
            apply hd
            unfold digitsB
            rw [List.all_eq_true]
            intro x hx
            have : p.takeWhile digB = p := by
              have := List.takeWhile_append_dropWhile (p := digB) (l := p)
              rw [e, List.append_nil] at this
              exact this
            rw [← this] at hx
            exact tw_all _ _ x hx
          · exact h
        have hx47 : x ≠ 47 := by
          apply fa
          rw [haa]
          apply List.mem_append_right
          apply List.mem_cons_of_mem
          have : x ∈ p.dropWhile digB := by rw [er]; simp
          have e := List.takeWhile_append_dropWhile (p := digB) (l := p)
          rw [← e]
          exact List.mem_append_right _ this
        have hp2 : p ++ b = p.takeWhile digB ++ (x :: (r ++ b)) := by
          have e := List.takeWhile_append_dropWhile (p := digB) (l := p)
          rw [er] at e
          conv => lhs; rw [← e]
          simp
        obtain ⟨u1, u2⟩ := stop_at digB (p.takeWhile digB) (x :: (r ++ b)) (tw_all _ _) (.inr ⟨x, _, rfl, hx⟩)
        rw [← hp2] at u1 u2
        rw [u1, u2]
        symm
        split
        · rfl
        · rw [if_pos ⟨by simp, by simpa using hx47⟩]
  · rw [if_neg hc, if_neg hc]
/-- a scan: how far a test holds -/
theorem scan_tw {p : UInt8 → Bool} {l : Bytes} {n : Nat} (hn : n ≤ l.length) (h : ∀ j, j < n → p (l.getD j 0) = true) (hs : n = l.length ∨ p (l.getD n 0) = false) : l.takeWhile p = l.take n ∧ l.dropWhile p = l.drop n := by
  have e : l = l.take n ++ l.drop n := (List.take_append_drop n l).symm
  have h1 : ∀ x ∈ l.take n, p x = true := by
    intro x hx
    obtain ⟨j, hj, rfl⟩ := List.getElem_of_mem hx
    rw [List.length_take] at hj
    have := h j (by omega)
    rw [List.getElem_take]
    simpa [List.getD_eq_getElem?_getD, show j < l.length by omega] using this
  have h2 : l.drop n = [] ∨ ∃ c r, l.drop n = c :: r ∧ p c = false := by
    by_cases hz : n = l.length
    · exact .inl (by rw [hz]; simp)
    · have hp := hs.resolve_left hz
      have hlt : n < l.length := by omega
      refine .inr ⟨l[n], l.drop (n + 1), List.drop_eq_getElem_cons hlt, ?_⟩
      simpa [List.getD_eq_getElem?_getD, hlt] using hp
  have := stop_at p _ _ h1 h2
  rw [← e] at this
  exact this
/-- digits under a bound: what the reference keeps -/
def dsat (l : Bytes) : Nat := min (dval 0 l) 100000
theorem dsat_snoc (l : Bytes) (c : UInt8) : dsat (l ++ [c]) = min (dsat l * 10 + (c.toNat - 48)) 100000 := by
  unfold dsat
  rw [dval_append, dval_cons, dval_nil]
  omega
theorem dsat_le (l : Bytes) : dsat l ≤ 100000 := by unfold dsat; omega
theorem dsat_lt (l : Bytes) : dsat l ≤ 65535 ↔ dval 0 l ≤ 65535 := by unfold dsat; omega
theorem dsat_eq {l : Bytes} (h : dval 0 l ≤ 65535) : dsat l = dval 0 l := by unfold dsat; omega
end Go.Proofs.YtjbfkalkcopapaaDoor
