/- Requests and responses as bytes: the plain functions that both the program and the document's answer compute. No program in sight. -/
import Derived.Test.YtlgdkaeiadhiaaaGreatDoorRtPure
namespace Go.Proofs.YtlgdkaeiadhiaaaGreatDoor
open Go Go.RowKit
set_option linter.all false
/-- the parts between the separators -/
def pcs (by_ : Bytes) : Bytes → List Bytes
  | [] => [[]]
  | c :: r => if h : by_ ≠ [] ∧ by_ <+: c :: r then [] :: pcs by_ ((c :: r).drop by_.length) else (c :: (pcs by_ r).headD []) :: (pcs by_ r).tail
termination_by l => l.length
decreasing_by
  all_goals first
    | (have := List.length_pos_iff.2 h.1; simp; omega)
    | simp
/-- where a text stands first -/
def idx (t : Bytes) : Bytes → Option Nat
  | [] => if t = [] then some 0 else none
  | c :: r => if t <+: c :: r then some 0 else (idx t r).map (· + 1)
def crlf : Bytes := [13, 10]
def crlf2 : Bytes := [13, 10, 13, 10]
def marksB (b : Nat) : Bool := b == 33 || b == 35 || b == 36 || b == 37 || b == 38 || b == 39 || b == 42 || b == 43 || b == 45 || b == 46 || b == 94 || b == 95 || b == 96 || b == 124 || b == 126
def tokenB (b : Nat) : Bool := alnumB b || marksB b
def textB (b : Nat) : Bool := (32 ≤ b || b == 9) && !(b == 127)
def targetB (b : Nat) : Bool := 33 ≤ b && b ≤ 126
def okToken (s : Bytes) : Bool := s.all (fun c => tokenB c.toNat) && decide (0 < s.length) && decide (s.length ≤ 64)
def okText (s : Bytes) : Bool := s.all (fun c => textB c.toNat)
def okTarget (s : Bytes) : Bool := s.all (fun c => targetB c.toNat) && decide (s.head? = some 47) && decide (s.length ≤ 256)
def smallB (c : UInt8) : UInt8 := if 65 ≤ c.toNat ∧ c.toNat ≤ 90 then UInt8.ofNat (c.toNat + 32) else c
def small (s : Bytes) : Bytes := s.map smallB
def blankB (c : UInt8) : Bool := c == 32 || c == 9
/-- without blanks at the ends -/
def trim (s : Bytes) : Bytes := ((s.dropWhile blankB).reverse.dropWhile blankB).reverse
/-- one header line -/
def headOf (l : Bytes) : Option Fld :=
  if (58 : UInt8) ∈ l ∧ okToken (l.takeWhile (· != 58)) = true ∧ okText (trim ((l.dropWhile (· != 58)).drop 1)) = true then some (small (l.takeWhile (· != 58)), trim ((l.dropWhile (· != 58)).drop 1)) else none
def headsOf : List Bytes → Option (List Fld)
  | [] => some []
  | l :: ls => match headOf l with
    | none => none
    | some f => (headsOf ls).map (f :: ·)
/-- how often a header stands; its first value -/
def cnt (hs : List Fld) (name : Bytes) : Nat := (hs.filter fun f => decide (f.1 = name)).length
def fst' (hs : List Fld) (name : Bytes) : Bytes := match hs.find? fun f => decide (f.1 = name) with
  | some f => f.2
  | none => []
def nLength : Bytes := [99, 111, 110, 116, 101, 110, 116, 45, 108, 101, 110, 103, 116, 104]
def nHost : Bytes := [104, 111, 115, 116]
def nType : Bytes := [99, 111, 110, 116, 101, 110, 116, 45, 116, 121, 112, 101]
def nCoded : Bytes := [116, 114, 97, 110, 115, 102, 101, 114, 45, 101, 110, 99, 111, 100, 105, 110, 103]
/-- how many bytes the body has -/
def sizeOf' (hs : List Fld) : Option Nat :=
  if cnt hs nLength = 1 then
    (if fst' hs nLength = [] ∨ 9 < (fst' hs nLength).length ∨ digitsB (fst' hs nLength) = false then none else some (dval 0 (fst' hs nLength)))
  else some 0
/-- a message -/
structure Msg where
  first : Bytes
  heads : List Fld
  body : Bytes
  n : Nat
/-- a message read; or the error -/
def readMsg (right : Bytes → Bool) (hosts : Bool) (b : Bytes) : Option Msg × Int :=
  match idx crlf2 b with
  | none => if 4096 < b.length then (none, 2) else (none, 3)
  | some k =>
    if 4096 < k + 4 then (none, 2) else
    if right ((pcs crlf (b.take k)).headD []) = false then (none, 220) else
    match headsOf (pcs crlf (b.take k)).tail with
    | none => (none, 220)
    | some hs =>
      if 1 < cnt hs nLength ∨ (hosts = true ∧ cnt hs nHost ≠ 1) then (none, 220) else
      match sizeOf' hs with
      | none => (none, 222)
      | some size =>
        if 0 < cnt hs nCoded ∨ 4096 < size then (none, 222) else
        if b.length - (k + 4) < size then (none, 3) else
        (some ⟨(pcs crlf (b.take k)).headD [], hs, (b.drop (k + 4)).take size, k + 4 + size⟩, 0)
structure Req where
  method : Bytes
  target : Bytes
  host : Bytes
  type : Bytes
  body : Bytes
  deriving DecidableEq
def Req.zero : Req := ⟨[], [], [], [], []⟩
structure Resp where
  status : Int
  body : Bytes
  deriving DecidableEq
def Resp.zero : Resp := ⟨0, []⟩
def vHttp : Bytes := [72, 84, 84, 80, 47, 49, 46, 49]
/-- a request's first line -/
def reqLine (s : Bytes) : Option (Bytes × Bytes) := match pcs [32] s with
  | [m, t, v] => if okToken m = true ∧ okTarget t = true ∧ v = vHttp then some (m, t) else none
  | _ => none
/-- a response's first line's number -/
def statusOf (s : Bytes) : Option Int :=
  if vHttp ++ [32] <+: s ∧ 12 ≤ s.length ∧ 49 ≤ by8 s 9 ∧ by8 s 9 ≤ 53 ∧ digitsB ((s.drop 9).take 3) = true ∧ (s.length = 12 ∨ (by8 s 12 = 32 ∧ okText (s.drop 12) = true)) then some (dval 0 ((s.drop 9).take 3)) else none
def readReq (b : Bytes) : Req × Nat × Int := match readMsg (fun s => (reqLine s).isSome) true b with
  | (some m, _) => match reqLine m.first with
    | some (me, ta) => (⟨me, ta, fst' m.heads nHost, fst' m.heads nType, m.body⟩, m.n, 0)
    | none => (Req.zero, 0, 0)
  | (none, e) => (Req.zero, 0, e)
def readResp (b : Bytes) : Resp × Nat × Int := match readMsg (fun s => (statusOf s).isSome) false b with
  | (some m, _) => (⟨(statusOf m.first).getD 0, m.body⟩, m.n, 0)
  | (none, e) => (Resp.zero, 0, e)
def tHost : Bytes := [72, 111, 115, 116, 58, 32]
def tType : Bytes := [67, 111, 110, 116, 101, 110, 116, 45, 84, 121, 112, 101, 58, 32]
def tLength : Bytes := [67, 111, 110, 116, 101, 110, 116, 45, 76, 101, 110, 103, 116, 104, 58, 32]
def reqText (r : Req) : Bytes := r.method ++ [32] ++ r.target ++ 32 :: vHttp ++ crlf ++ tHost ++ r.host ++ crlf ++ (if r.type = [] then [] else tType ++ r.type ++ crlf) ++ tLength ++ Lib.itoa r.body.length ++ crlf2 ++ r.body
def writeReq (r : Req) : Bytes × Int := if readReq (reqText r) = (r, (reqText r).length, 0) then (reqText r, 0) else ([], 1)
def reason (n : Int) : Bytes := if n = 200 then [79, 75] else if n = 400 then [66, 97, 100, 32, 82, 101, 113, 117, 101, 115, 116] else if n = 404 then [78, 111, 116, 32, 70, 111, 117, 110, 100] else if n = 405 then [77, 101, 116, 104, 111, 100, 32, 78, 111, 116, 32, 65, 108, 108, 111, 119, 101, 100] else if n = 413 then [67, 111, 110, 116, 101, 110, 116, 32, 84, 111, 111, 32, 76, 97, 114, 103, 101] else []
def respText (r : Resp) : Bytes := vHttp ++ [32] ++ Lib.itoa r.status ++ [32] ++ reason r.status ++ crlf ++ tLength ++ Lib.itoa r.body.length ++ crlf2 ++ r.body
def writeResp (r : Resp) : Bytes × Int := if r.status < 100 ∨ 599 < r.status ∨ 4096 < r.body.length then ([], 1) else (respText r, 0)
/-! ### what stands behind a message makes no difference; a message that is cut is not whole -/
theorem prefix_append_iff {t a b : Bytes} (h : t.length ≤ a.length) : t <+: a ++ b ↔ t <+: a := by
  constructor
  · intro hp
    exact List.prefix_of_prefix_length_le hp (List.prefix_append a b) h
  · rintro ⟨r, rfl⟩
    exact ⟨r ++ b, by simp⟩
theorem idx_bound {t : Bytes} : ∀ {b : Bytes} {k : Nat}, idx t b = some k → k + t.length ≤ b.length
  | [], k, h => by
    rw [idx] at h
    split at h
    · rename_i e; obtain rfl := Option.some.inj h; rw [e]; simp
    · cases h
  | c :: r, k, h => by
    rw [idx] at h
    split at h
    · rename_i e
      obtain rfl := Option.some.inj h
      have := e.length_le
      omega
    · obtain ⟨j, hj, rfl⟩ := Option.map_eq_some_iff.1 h
      have := idx_bound hj
      rw [List.length_cons]
      omega
/-- the place depends on what stands up to its end alone -/
theorem idx_more {t : Bytes} (ht : t ≠ []) : ∀ (a more : Bytes) {k : Nat}, idx t a = some k → idx t (a ++ more) = some k
  | [], more, k, h => by
    rw [idx, if_neg ht] at h
    cases h
  | c :: r, more, k, h => by
    rw [idx] at h
    rw [List.cons_append, idx]
    split at h
    · rename_i e
      rw [if_pos (by obtain ⟨q, hq⟩ := e; exact ⟨q ++ more, by rw [← List.append_assoc, hq, List.cons_append]⟩)]
      exact h
    · rename_i e
      obtain ⟨j, hj, rfl⟩ := Option.map_eq_some_iff.1 h
      have hlen := idx_bound hj
      have hn : ¬ t <+: c :: (r ++ more) := by
        rw [← List.cons_append, prefix_append_iff (by rw [List.length_cons]; omega)]
        exact e
      rw [if_neg hn, idx_more ht r more hj]
      rfl
theorem idx_take {t : Bytes} (ht : t ≠ []) : ∀ (b : Bytes) {k : Nat} (j : Nat), idx t b = some k → k + t.length ≤ j → idx t (b.take j) = some k
  | [], k, j, h, _ => by
    rw [idx, if_neg ht] at h
    cases h
  | c :: r, k, 0, h, hj => by
    have := List.length_pos_iff.2 ht
    omega
  | c :: r, k, j + 1, h, hj => by
    rw [idx] at h
    rw [List.take_succ_cons, idx]
    have e0 : c :: r.take j = (c :: r).take (j + 1) := rfl
    split at h
    · rename_i e
      obtain rfl := Option.some.inj h
      rw [if_pos (by
        rw [e0]
        exact List.prefix_of_prefix_length_le e (List.take_prefix _ _) (by rw [List.length_take]; have := e.length_le; omega))]
    · rename_i e
      obtain ⟨i, hi, rfl⟩ := Option.map_eq_some_iff.1 h
      have hn : ¬ t <+: c :: r.take j := fun hp => e (hp.trans (by rw [e0]; exact List.take_prefix _ _))
      rw [if_neg hn, idx_take ht r j hi (by omega)]
      rfl
theorem idx_cut {t : Bytes} (ht : t ≠ []) : ∀ (b : Bytes) {k : Nat} (j : Nat), idx t b = some k → j < k + t.length → idx t (b.take j) = none
  | [], k, j, h, _ => by
    rw [idx, if_neg ht] at h
    cases h
  | c :: r, k, 0, h, hj => by rw [List.take_zero, idx, if_neg ht]
  | c :: r, k, j + 1, h, hj => by
    rw [idx] at h
    rw [List.take_succ_cons, idx]
    have e0 : c :: r.take j = (c :: r).take (j + 1) := rfl
    split at h
    · obtain rfl := Option.some.inj h
      have hn : ¬ t <+: c :: r.take j := fun hp => by
        have := hp.length_le
        rw [e0, List.length_take] at this
        omega
      rw [if_neg hn]
      have hlt : ∀ (s : Bytes), s.length < t.length → idx t s = none := by
        intro s
        induction s with
        | nil => intro _; rw [idx, if_neg ht]
        | cons d s ih =>
          intro hs
          have hn : ¬ t <+: d :: s := fun hp => by
            have := hp.length_le
            omega
          rw [idx, if_neg hn, ih (by rw [List.length_cons] at hs; omega)]
          rfl
      rw [hlt _ (by rw [List.length_take]; omega)]
      rfl
    · rename_i e
      obtain ⟨i, hi, rfl⟩ := Option.map_eq_some_iff.1 h
      have hn : ¬ t <+: c :: r.take j := fun hp => e (hp.trans (by rw [e0]; exact List.take_prefix _ _))
      rw [if_neg hn, idx_cut ht r j hi (by omega)]
      rfl
/-- all that a message that was read gives -/
theorem readMsg_some {right : Bytes → Bool} {hosts : Bool} {b : Bytes} {m : Msg} {e : Int} (h : readMsg right hosts b = (some m, e)) :
    ∃ k size, idx crlf2 b = some k ∧ k + 4 ≤ 4096 ∧ right ((pcs crlf (b.take k)).headD []) = true ∧ headsOf (pcs crlf (b.take k)).tail = some m.heads ∧ ¬ (1 < cnt m.heads nLength ∨ (hosts = true ∧ cnt m.heads nHost ≠ 1)) ∧
      sizeOf' m.heads = some size ∧ ¬ (0 < cnt m.heads nCoded ∨ 4096 < size) ∧ k + 4 + size ≤ b.length ∧ m.first = (pcs crlf (b.take k)).headD [] ∧ m.body = (b.drop (k + 4)).take size ∧ m.n = k + 4 + size ∧ e = 0 := by
  unfold readMsg at h
  split at h
  · split at h <;> simp at h
  · rename_i k hk
    have hb := idx_bound hk
    have e4 : crlf2.length = 4 := rfl
    split at h
    · simp at h
    split at h
    · simp at h
    rename_i hrt
    split at h
    · simp at h
    rename_i hs hhs
    split at h
    · simp at h
    rename_i h1
    split at h
    · simp at h
    rename_i size hsz
    split at h
    · simp at h
    rename_i h2
    split at h
    · simp at h
    rename_i h3
    obtain ⟨h4, h5⟩ := Prod.mk.inj h
    obtain rfl := Option.some.inj h4
    exact ⟨k, size, hk, by omega, by simpa using hrt, hhs, h1, hsz, h2, by omega, rfl, rfl, rfl, h5.symm⟩
theorem readMsg_more {right : Bytes → Bool} {hosts : Bool} {b : Bytes} {m : Msg} {e : Int} (h : readMsg right hosts b = (some m, e)) (more : Bytes) : readMsg right hosts (b.take m.n ++ more) = (some m, 0) := by
  obtain ⟨k, size, hk, h0, h1, h2, h3, h4, h5, h6, h7, h8, h9, h10⟩ := readMsg_some h
  have e4 : crlf2.length = 4 := rfl
  have hne : crlf2 ≠ [] := by decide
  have hk2 := idx_more hne _ more (idx_take hne b m.n hk (by omega))
  have ht : (b.take m.n ++ more).take k = b.take k := by
    rw [List.take_append_of_le_length (by rw [List.length_take]; omega), List.take_take, Nat.min_eq_left (by omega)]
  have hd : ((b.take m.n ++ more).drop (k + 4)).take size = (b.drop (k + 4)).take size := by
    rw [List.drop_append_of_le_length (by rw [List.length_take]; omega), List.take_append_of_le_length (by rw [List.length_drop, List.length_take]; omega), List.drop_take, List.take_take]
    congr 1
    omega
  have hl : ¬ (b.take m.n ++ more).length - (k + 4) < size := by
    rw [List.length_append, List.length_take]
    omega
  unfold readMsg
  rw [hk2]
  simp only
  rw [ht, if_neg (by omega), if_neg (by rw [h1]; decide), h2]
  simp only
  rw [if_neg h3, h4]
  simp only
  rw [if_neg h5, if_neg hl, hd]
  cases m
  simp only at *
  simp [h7, h8, h9]
theorem readMsg_cut {right : Bytes → Bool} {hosts : Bool} {b : Bytes} {m : Msg} {e : Int} (h : readMsg right hosts b = (some m, e)) {j : Nat} (hj : j < m.n) : readMsg right hosts (b.take j) = (none, 3) := by
  obtain ⟨k, size, hk, h0, h1, h2, h3, h4, h5, h6, h7, h8, h9, h10⟩ := readMsg_some h
  have e4 : crlf2.length = 4 := rfl
  have hne : crlf2 ≠ [] := by decide
  by_cases hjk : j < k + 4
  · unfold readMsg
    rw [idx_cut hne b j hk (by omega)]
    simp only
    rw [if_neg (by rw [List.length_take]; omega)]
  · have ht : (b.take j).take k = b.take k := by rw [List.take_take, Nat.min_eq_left (by omega)]
    unfold readMsg
    rw [idx_take hne b j hk (by omega)]
    simp only
    rw [ht, if_neg (by omega), if_neg (by rw [h1]; decide), h2]
    simp only
    rw [if_neg h3, h4]
    simp only
    rw [if_neg h5, if_pos (by rw [List.length_take]; omega)]
theorem readMsg_len {right : Bytes → Bool} {hosts : Bool} {b : Bytes} {m : Msg} {e : Int} (h : readMsg right hosts b = (some m, e)) : 4 ≤ m.n ∧ m.n ≤ b.length ∧ m.n ≤ 8192 ∧ m.body.length ≤ 4096 := by
  obtain ⟨k, size, hk, h0, h1, h2, h3, h4, h5, h6, h7, h8, h9, h10⟩ := readMsg_some h
  have : size ≤ 4096 := by omega
  refine ⟨by omega, by omega, by omega, ?_⟩
  rw [h8, List.length_take]
  omega
end Go.Proofs.YtlgdkaeiadhiaaaGreatDoor
