/- A request's and a response's text is read as it was. No program in sight. -/
import Derived.Test.YtlgdkaeiadhiaaaGreatDoorHtPure
namespace Go.Proofs.YtlgdkaeiadhiaaaGreatDoor
open Go Go.RowKit
set_option linter.all false
theorem pcs_free {c0 : UInt8} {bs : Bytes} : ∀ (a rest : Bytes), c0 ∉ a → pcs (c0 :: bs) (a ++ rest) = (a ++ (pcs (c0 :: bs) rest).headD []) :: (pcs (c0 :: bs) rest).tail
  | [], rest, _ => by
    rw [List.nil_append, List.nil_append]
    cases h : pcs (c0 :: bs) rest with
    | nil =>
      exfalso
      cases rest with
      | nil => rw [pcs] at h; cases h
      | cons c r =>
        rw [pcs] at h
        split at h <;> cases h
    | cons x y => rfl
  | c :: a, rest, h => by
    have hc : ¬ (c0 :: bs ≠ [] ∧ c0 :: bs <+: c :: (a ++ rest)) := by
      rintro ⟨_, q, hq⟩
      rw [List.cons_append] at hq
      injection hq with e _
      exact h (by rw [e]; simp)
    rw [List.cons_append, pcs, dif_neg hc, pcs_free a rest (fun e => h (List.mem_cons_of_mem _ e))]
    rfl
theorem pcs_hit {by_ : Bytes} (hne : by_ ≠ []) (rest : Bytes) : pcs by_ (by_ ++ rest) = [] :: pcs by_ rest := by
  cases by_ with
  | nil => exact absurd rfl hne
  | cons c bs =>
    rw [List.cons_append, pcs, dif_pos ⟨hne, rest, by rw [List.cons_append]⟩]
    congr 2
    simp
theorem pcs_nil (by_ : Bytes) : pcs by_ [] = [[]] := by rw [pcs]
theorem idx_free {c0 : UInt8} {bs : Bytes} : ∀ (a rest : Bytes), c0 ∉ a → idx (c0 :: bs) (a ++ rest) = (idx (c0 :: bs) rest).map (· + a.length)
  | [], rest, _ => by
    rw [List.nil_append]
    cases idx (c0 :: bs) rest <;> rfl
  | c :: a, rest, h => by
    have hc : ¬ (c0 :: bs <+: c :: (a ++ rest)) := by
      rintro ⟨q, hq⟩
      rw [List.cons_append] at hq
      injection hq with e _
      exact h (by rw [e]; simp)
    rw [List.cons_append, idx, if_neg hc, idx_free a rest (fun e => h (List.mem_cons_of_mem _ e)), Option.map_map]
    congr 1
/-- a line: no byte 13, and not empty -/
def lineB (l : Bytes) : Prop := (13 : UInt8) ∉ l ∧ l ≠ []
theorem pcs_lines : ∀ (r : List Bytes) (l : Bytes), (13 : UInt8) ∉ l → (∀ q ∈ r, lineB q) → pcs crlf (l ++ Lib.joinTail crlf r) = l :: r
  | [], l, h, _ => by
    have := pcs_free (c0 := 13) (bs := [10]) l [] h
    rw [pcs_nil] at this
    simpa [Lib.joinTail, crlf] using this
  | q :: r, l, h, hr => by
    have e2 : Lib.joinTail crlf (q :: r) = crlf ++ (q ++ Lib.joinTail crlf r) := by simp [Lib.joinTail]
    have h1 := pcs_free (c0 := 13) (bs := [10]) l (crlf ++ (q ++ Lib.joinTail crlf r)) h
    have h2 := pcs_hit (by_ := crlf) (by decide) (q ++ Lib.joinTail crlf r)
    have h3 := pcs_lines r q (hr q (by simp)).1 (fun x hx => hr x (List.mem_cons_of_mem _ hx))
    rw [h3] at h2
    rw [e2]
    show pcs [13, 10] _ = _
    rw [h1]
    show (l ++ (pcs crlf _).headD []) :: (pcs crlf _).tail = _
    rw [h2]
    simp
theorem idx_tail (body : Bytes) : ∀ (r : List Bytes), (∀ q ∈ r, lineB q) → idx crlf2 (Lib.joinTail crlf r ++ (crlf2 ++ body)) = some (Lib.joinTail crlf r).length
  | [], _ => by
    show idx crlf2 (crlf2 ++ body) = some 0
    show idx crlf2 (13 :: ([10, 13, 10] ++ body)) = some 0
    rw [idx, if_pos ⟨body, rfl⟩]
  | q :: r, hr => by
    have e2 : Lib.joinTail crlf (q :: r) = 13 :: 10 :: (q ++ Lib.joinTail crlf r) := by simp [Lib.joinTail, crlf]
    obtain ⟨hq, hne⟩ := hr q (by simp)
    have ih := idx_tail body r (fun x hx => hr x (List.mem_cons_of_mem _ hx))
    have h1 := idx_free (c0 := 13) (bs := [10, 13, 10]) q (Lib.joinTail crlf r ++ (crlf2 ++ body)) hq
    have h1' : idx crlf2 (q ++ (Lib.joinTail crlf r ++ (crlf2 ++ body))) = (idx crlf2 (Lib.joinTail crlf r ++ (crlf2 ++ body))).map (· + q.length) := h1
    rw [ih] at h1'
    rw [e2]
    simp only [List.cons_append, List.append_assoc]
    have n1 : ¬ crlf2 <+: 13 :: 10 :: (q ++ (Lib.joinTail crlf r ++ (crlf2 ++ body))) := by
      rintro ⟨z, hz⟩
      cases q with
      | nil => exact hne rfl
      | cons c q =>
        simp only [crlf2, List.cons_append, List.nil_append] at hz
        injection hz with _ hz
        injection hz with _ hz
        injection hz with hz _
        exact hq (by rw [← hz]; simp)
    have n2 : ¬ crlf2 <+: 10 :: (q ++ (Lib.joinTail crlf r ++ (crlf2 ++ body))) := by
      rintro ⟨z, hz⟩
      simp only [crlf2, List.cons_append, List.nil_append] at hz
      injection hz with hz _
      exact absurd hz (by decide)
    rw [idx, if_neg n1, idx, if_neg n2, h1']
    simp only [Option.map_some, List.length_cons, List.length_append]
    congr 1
    omega
theorem idx_lines (body l : Bytes) (r : List Bytes) (hl : (13 : UInt8) ∉ l) (hr : ∀ q ∈ r, lineB q) : idx crlf2 (l ++ Lib.joinTail crlf r ++ crlf2 ++ body) = some (l ++ Lib.joinTail crlf r).length := by
  have h1 := idx_free (c0 := 13) (bs := [10, 13, 10]) l (Lib.joinTail crlf r ++ (crlf2 ++ body)) hl
  have h1' : idx crlf2 (l ++ (Lib.joinTail crlf r ++ (crlf2 ++ body))) = (idx crlf2 (Lib.joinTail crlf r ++ (crlf2 ++ body))).map (· + l.length) := h1
  rw [idx_tail body r hr] at h1'
  simp only [List.append_assoc]
  rw [h1']
  simp only [Option.map_some, List.length_append]
  congr 1
  omega
/-- a built message is read as it was -/
theorem readMsg_built {right : Bytes → Bool} {hosts : Bool} {l body : Bytes} {r : List Bytes} {hs : List Fld} {size : Nat} (hl : (13 : UInt8) ∉ l) (hr : ∀ q ∈ r, lineB q) (hlen : (l ++ Lib.joinTail crlf r).length + 4 ≤ 4096)
    (h1 : right l = true) (h2 : headsOf r = some hs) (h3 : ¬ (1 < cnt hs nLength ∨ (hosts = true ∧ cnt hs nHost ≠ 1))) (h4 : sizeOf' hs = some size) (h5 : cnt hs nCoded = 0) :
    readMsg right hosts (l ++ Lib.joinTail crlf r ++ crlf2 ++ body) = if 4096 < size then (none, 222) else if body.length < size then (none, 3) else (some ⟨l, hs, body.take size, (l ++ Lib.joinTail crlf r).length + 4 + size⟩, 0) := by
  have e4 : crlf2.length = 4 := rfl
  generalize hJ : l ++ Lib.joinTail crlf r = J at *
  have hp : pcs crlf J = l :: r := by rw [← hJ]; exact pcs_lines r l hl hr
  have hi : idx crlf2 (J ++ crlf2 ++ body) = some J.length := by rw [← hJ]; exact idx_lines body l r hl hr
  have ht : (J ++ crlf2 ++ body).take J.length = J := by rw [List.append_assoc, List.take_left']; rfl
  have hd : (J ++ crlf2 ++ body).drop (J.length + 4) = body := by
    rw [show J.length + 4 = (J ++ crlf2).length by rw [List.length_append, e4], List.drop_left']
    rfl
  unfold readMsg
  rw [hi]
  simp only
  rw [ht, hp, hd, if_neg (by omega)]
  simp only [List.headD_cons, List.tail_cons, h1, h2, h4]
  rw [if_neg (by decide), if_neg h3, h5]
  have hbl : (J ++ crlf2 ++ body).length - (J.length + 4) = body.length := by
    simp only [List.length_append, e4]
    omega
  rw [hbl]
  by_cases hs : 4096 < size
  · rw [if_pos (.inr hs), if_pos hs]
  · rw [if_neg (by omega), if_neg hs]
/-! ### the header lines that are written -/
theorem mem_free {p : UInt8 → Bool} {s : Bytes} {c : UInt8} (h : s.all p = true) (hc : p c = false) : c ∉ s := fun hm => by
  have := List.all_eq_true.1 h c hm
  rw [hc] at this
  cases this
theorem token_free {s : Bytes} (h : okToken s = true) : (13 : UInt8) ∉ s ∧ (32 : UInt8) ∉ s ∧ (58 : UInt8) ∉ s ∧ s ≠ [] := by
  simp only [okToken, Bool.and_eq_true, decide_eq_true_eq] at h
  refine ⟨mem_free h.1.1 (by decide), mem_free h.1.1 (by decide), mem_free h.1.1 (by decide), ?_⟩
  rintro rfl
  simp at h
theorem target_free {s : Bytes} (h : okTarget s = true) : (13 : UInt8) ∉ s ∧ (32 : UInt8) ∉ s := by
  simp only [okTarget, Bool.and_eq_true, decide_eq_true_eq] at h
  exact ⟨mem_free h.1.1 (by decide), mem_free h.1.1 (by decide)⟩
theorem text_free {s : Bytes} (h : okText s = true) : (13 : UInt8) ∉ s := mem_free h (by decide)
theorem trim_blank (s : Bytes) : trim (32 :: s) = trim s := by
  unfold trim
  rw [List.dropWhile_cons, if_pos (by decide)]
theorem dw_idem (s : Bytes) : (s.dropWhile blankB).dropWhile blankB = s.dropWhile blankB := by
  induction s with
  | nil => rfl
  | cons c r ih =>
    by_cases h : blankB c = true
    · rw [List.dropWhile_cons, if_pos h, ih]
    · rw [List.dropWhile_cons, if_neg h, List.dropWhile_cons, if_neg h]
theorem headOf_line {name v : Bytes} (hn : okToken name = true) (hv : okText v = true) (ht : trim v = v) : headOf (name ++ 58 :: 32 :: v) = some (small name, v) := by
  have hf := (token_free hn).2.2.1
  obtain ⟨t1, t2⟩ := take_stop 58 name (58 :: 32 :: v) (fun x hx => by rintro rfl; exact hf hx) (.inr rfl)
  unfold headOf
  rw [t1, t2]
  have e : trim (((58 : UInt8) :: 32 :: v).drop 1) = v := by
    show trim (32 :: v) = v
    rw [trim_blank, ht]
  rw [e, if_pos ⟨by simp, hn, hv⟩]
end Go.Proofs.YtlgdkaeiadhiaaaGreatDoor
