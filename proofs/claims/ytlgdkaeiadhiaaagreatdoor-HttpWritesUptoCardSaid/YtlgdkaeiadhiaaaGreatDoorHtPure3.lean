/- What is read is written to be read alike; a response's text. No program in sight. -/
import Derived.Test.YtlgdkaeiadhiaaaGreatDoorHtPure2
namespace Go.Proofs.YtlgdkaeiadhiaaaGreatDoor
open Go Go.RowKit
set_option linter.all false
theorem nDigits_le : ∀ (k u : Nat), u < 10 ^ (k + 1) → Lib.nDigits u ≤ k + 1
  | 0, u, h => by rw [Lib.nDigits_small (by simpa using h)]; exact Nat.le_refl _
  | k + 1, u, h => by
    by_cases g : u < 10
    · rw [Lib.nDigits_small g]; omega
    · rw [Lib.nDigits_big g]
      have := nDigits_le k (u / 10) (by rw [Nat.pow_succ] at h; omega)
      omega
theorem itoa_nat (n : Nat) : Lib.itoa (n : Int) = Lib.decDigits n := by rw [Lib.itoa, if_neg (by omega)]; rfl
theorem itoa_line (n : Nat) : okText (Lib.itoa (n : Int)) = true ∧ trim (Lib.itoa (n : Int)) = Lib.itoa (n : Int) := by
  rw [itoa_nat]
  have hd := (decDigits_facts n).2.1
  have hall : ∀ x ∈ Lib.decDigits n, 48 ≤ x.toNat ∧ x.toNat ≤ 57 := fun x hx => by
    have := List.all_eq_true.1 hd x hx
    simpa [digB] using this
  refine ⟨List.all_eq_true.2 fun x hx => ?_, ?_⟩
  · have := hall x hx
    simp only [textB, Bool.and_eq_true, Bool.or_eq_true, decide_eq_true_eq, Bool.not_eq_true', beq_eq_false_iff_ne]
    exact ⟨.inl (by omega), by omega⟩
  · have hb : ∀ x ∈ Lib.decDigits n, blankB x = false := fun x hx => by
      have h1 := hall x hx
      simp only [blankB, Bool.or_eq_false_iff, beq_eq_false_iff_ne]
      constructor <;> (rintro rfl; revert h1; decide)
    have dw : ∀ (s : Bytes), (∀ x ∈ s, blankB x = false) → s.dropWhile blankB = s := by
      intro s hs
      cases s with
      | nil => rfl
      | cons c r => rw [List.dropWhile_cons, if_neg (by rw [hs c (by simp)]; decide)]
    unfold trim
    rw [dw _ hb, dw _ (fun x hx => hb x (List.mem_reverse.1 hx)), List.reverse_reverse]
def hostName : Bytes := [72, 111, 115, 116]
def typeName : Bytes := [67, 111, 110, 116, 101, 110, 116, 45, 84, 121, 112, 101]
def lengthName : Bytes := [67, 111, 110, 116, 101, 110, 116, 45, 76, 101, 110, 103, 116, 104]
theorem host_head {v : Bytes} (hv : okText v = true) (ht : trim v = v) : headOf (tHost ++ v) = some (nHost, v) := headOf_line (name := hostName) (by decide) hv ht
theorem type_head {v : Bytes} (hv : okText v = true) (ht : trim v = v) : headOf (tType ++ v) = some (nType, v) := headOf_line (name := typeName) (by decide) hv ht
theorem length_head (n : Nat) : headOf (tLength ++ Lib.itoa (n : Int)) = some (nLength, Lib.itoa (n : Int)) := headOf_line (name := lengthName) (by decide) (itoa_line n).1 (itoa_line n).2
theorem reqLine_built {m t : Bytes} (hm : okToken m = true) (ht : okTarget t = true) : reqLine (m ++ [32] ++ t ++ 32 :: vHttp) = some (m, t) := by
  have h1 := pcs_free (c0 := 32) (bs := []) m ([32] ++ (t ++ ([32] ++ vHttp))) (token_free hm).2.1
  have h2 := pcs_hit (by_ := [32]) (by decide) (t ++ ([32] ++ vHttp))
  have h3 := pcs_free (c0 := 32) (bs := []) t ([32] ++ vHttp) (target_free ht).2
  have h4 := pcs_hit (by_ := [32]) (by decide) vHttp
  have h5 : pcs [32] vHttp = [vHttp] := by
    have := pcs_free (c0 := 32) (bs := []) vHttp [] (by decide)
    rw [pcs_nil] at this
    simpa using this
  rw [h5] at h4
  rw [h4] at h3
  rw [h3] at h2
  rw [h2] at h1
  have e : m ++ [32] ++ t ++ 32 :: vHttp = m ++ ([32] ++ (t ++ ([32] ++ vHttp))) := by simp
  unfold reqLine
  rw [e, h1]
  simp [hm, ht]
def reqLines (r : Req) : List Bytes := (tHost ++ r.host) :: ((if r.type = [] then [] else [tType ++ r.type]) ++ [tLength ++ Lib.itoa r.body.length])
def reqFirst (r : Req) : Bytes := r.method ++ [32] ++ r.target ++ 32 :: vHttp
def reqHead (r : Req) : Bytes := reqFirst r ++ Lib.joinTail crlf (reqLines r)
theorem reqText_eq (r : Req) : reqText r = reqHead r ++ crlf2 ++ r.body := by
  unfold reqText reqHead reqFirst reqLines
  by_cases h : r.type = []
  · simp [h, Lib.joinTail]
  · simp [h, Lib.joinTail]
theorem line_cons {p v : Bytes} (hp : (13 : UInt8) ∉ p) (hne : p ≠ []) (hv : (13 : UInt8) ∉ v) : lineB (p ++ v) :=
  ⟨fun h => by rcases List.mem_append.1 h with h | h; exact hp h; exact hv h, fun h => hne (List.append_eq_nil_iff.1 h).1⟩
structure RightReq (r : Req) : Prop where
  method : okToken r.method = true
  target : okTarget r.target = true
  host : okText r.host = true ∧ trim r.host = r.host
  type : okText r.type = true ∧ trim r.type = r.type
theorem readReq_built {r : Req} (h : RightReq r) (hlen : (reqHead r).length + 4 ≤ 4096) (hb : r.body.length < 1000000000) :
    readReq (reqText r) = if 4096 < r.body.length then (Req.zero, 0, 222) else (r, (reqText r).length, 0) := by
  have hfirst : (13 : UInt8) ∉ reqFirst r := by
    unfold reqFirst
    simp only [List.mem_append, List.mem_cons, List.not_mem_nil, or_false, not_or]
    exact ⟨⟨⟨(token_free h.method).1, by decide⟩, (target_free h.target).1⟩, by decide, by decide⟩
  have hlines : ∀ q ∈ reqLines r, lineB q := by
    intro q hq
    unfold reqLines at hq
    rcases List.mem_cons.1 hq with rfl | hq
    · exact line_cons (by decide) (by decide) (text_free h.host.1)
    rcases List.mem_append.1 hq with hq | hq
    · split at hq
      · cases hq
      · obtain rfl := List.mem_singleton.1 hq
        exact line_cons (by decide) (by decide) (text_free h.type.1)
    · obtain rfl := List.mem_singleton.1 hq
      exact line_cons (by decide) (by decide) (text_free (itoa_line _).1)
  obtain ⟨f1, f2, c, d, f3, f4⟩ := decDigits_facts r.body.length
  have hdl : (Lib.decDigits r.body.length).length ≤ 9 := by
    rw [Lib.decDigits_length]
    exact nDigits_le 8 _ (by omega)
  have key : ∀ (hs : List Fld), cnt hs nLength = 1 → fst' hs nLength = Lib.itoa (r.body.length : Int) → sizeOf' hs = some r.body.length := by
    intro hs h1 h2
    unfold sizeOf'
    rw [if_pos h1, h2, itoa_nat, if_neg (by rw [f3] at hdl ⊢; rw [← f3]; simp only [not_or]; exact ⟨by rw [f3]; simp, by rw [f3]; omega, by rw [f2]; simp⟩), f1]
  have hread : ∀ (hs : List Fld), headsOf (reqLines r) = some hs → cnt hs nLength = 1 → fst' hs nLength = Lib.itoa (r.body.length : Int) → cnt hs nHost = 1 → cnt hs nCoded = 0 → fst' hs nHost = r.host → fst' hs nType = r.type →
      readReq (reqText r) = if 4096 < r.body.length then (Req.zero, 0, 222) else (r, (reqText r).length, 0) := by
    intro hs e0 e1 e2 e3 e4 e5 e6
    have hr := readMsg_built (right := fun s => (reqLine s).isSome) (hosts := true) (l := reqFirst r) (body := r.body) (r := reqLines r) (hs := hs) (size := r.body.length) hfirst hlines hlen
      (by simp only [reqFirst]; rw [reqLine_built h.method h.target]; rfl) e0 (by rw [e1, e3]; simp) (key hs e1 e2) e4
    unfold readReq
    rw [reqText_eq]
    unfold reqHead
    rw [hr]
    by_cases hb : 4096 < r.body.length
    · rw [if_pos hb, if_pos hb]
    · rw [if_neg hb, if_neg hb, if_neg (by omega)]
      simp only
      have e : reqLine (reqFirst r) = some (r.method, r.target) := reqLine_built h.method h.target
      rw [e]
      simp only [e5, e6, List.take_length]
      have el : (reqFirst r ++ Lib.joinTail crlf (reqLines r) ++ crlf2 ++ r.body).length = (reqFirst r ++ Lib.joinTail crlf (reqLines r)).length + 4 + r.body.length := by
        rw [List.length_append, List.length_append]
        rfl
      rw [el]
  by_cases ht : r.type = []
  · refine hread [(nHost, r.host), (nLength, Lib.itoa r.body.length)] ?_ ?_ ?_ ?_ ?_ ?_ ?_
    · unfold reqLines
      rw [if_pos ht]
      simp only [List.nil_append, headsOf, host_head h.host.1 h.host.2, length_head, Option.map_some]
    all_goals simp [cnt, fst', nLength, nHost, nCoded, nType, ht]
  · refine hread [(nHost, r.host), (nType, r.type), (nLength, Lib.itoa r.body.length)] ?_ ?_ ?_ ?_ ?_ ?_ ?_
    · unfold reqLines
      rw [if_neg ht]
      simp only [List.cons_append, List.nil_append, headsOf, host_head h.host.1 h.host.2, type_head h.type.1 h.type.2, length_head, Option.map_some]
    all_goals simp [cnt, fst', nLength, nHost, nCoded, nType]
end Go.Proofs.YtlgdkaeiadhiaaaGreatDoor
