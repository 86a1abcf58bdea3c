/- What is read is written to be read alike; a response's text is read as it was. No program in sight. -/
import Derived.Test.YtlgdkaeiadhiaaaGreatDoorHtPure3
import Derived.Test.YtlgdkaeiadhiaaaGreatDoorRtPure2
namespace Go.Proofs.YtlgdkaeiadhiaaaGreatDoor
open Go Go.RowKit
set_option linter.all false
theorem pcs_ne {by_ : Bytes} (l : Bytes) : pcs by_ l ≠ [] := by
  cases l with
  | nil => rw [pcs]; simp
  | cons c r =>
    rw [pcs]
    split <;> simp
theorem pcs_join {by_ : Bytes} : ∀ (n : Nat) (l : Bytes), l.length ≤ n → (pcs by_ l).headD [] ++ Lib.joinTail by_ (pcs by_ l).tail = l := by
  intro n
  induction n with
  | zero =>
    intro l h
    obtain rfl : l = [] := List.length_eq_zero_iff.1 (by omega)
    rw [pcs_nil]
    simp [Lib.joinTail]
  | succ n ih =>
    intro l h
    cases l with
    | nil => rw [pcs_nil]; simp [Lib.joinTail]
    | cons c r =>
      rw [List.length_cons] at h
      rw [pcs]
      split
      · rename_i hc
        have hpos := List.length_pos_iff.2 hc.1
        have hi := ih ((c :: r).drop by_.length) (by rw [List.length_drop, List.length_cons]; omega)
        have hp := prefix_take hc.2
        cases hx : pcs by_ ((c :: r).drop by_.length) with
        | nil => exact absurd hx (pcs_ne _)
        | cons x y =>
          rw [hx] at hi
          simp only [List.headD_cons, List.tail_cons] at hi ⊢
          have e2 : Lib.joinTail by_ (x :: y) = by_ ++ (x ++ Lib.joinTail by_ y) := by simp [Lib.joinTail]
          rw [e2, hi, List.nil_append, hp]
      · have hi := ih r (by omega)
        simp only [List.headD_cons, List.tail_cons, List.cons_append]
        rw [hi]
theorem joinTail_len (by_ : Bytes) (r : List Bytes) : (Lib.joinTail by_ r).length = (r.map fun l => l.length + by_.length).sum := by
  induction r with
  | nil => rfl
  | cons q r ih =>
    have e2 : Lib.joinTail by_ (q :: r) = by_ ++ (q ++ Lib.joinTail by_ r) := by simp [Lib.joinTail]
    rw [e2, List.map_cons, List.sum_cons, ← ih]
    simp only [List.length_append]
    omega
theorem dw_le (s : Bytes) : (s.dropWhile blankB).length ≤ s.length := (List.dropWhile_sublist _).length_le
theorem trim_le (s : Bytes) : (trim s).length ≤ s.length := by
  unfold trim
  rw [List.length_reverse]
  have h1 := dw_le (s.dropWhile blankB).reverse
  rw [List.length_reverse] at h1
  have h2 := dw_le s
  omega
theorem dw_head (s : Bytes) : s.dropWhile blankB = [] ∨ ∃ c r, s.dropWhile blankB = c :: r ∧ blankB c = false := by
  induction s with
  | nil => exact .inl rfl
  | cons c r ih =>
    by_cases h : blankB c = true
    · rw [List.dropWhile_cons, if_pos h]; exact ih
    · rw [List.dropWhile_cons, if_neg h]; exact .inr ⟨c, r, rfl, by simpa using h⟩
theorem trim_idem (s : Bytes) : trim (trim s) = trim s := by
  have key : (trim s).dropWhile blankB = trim s := by
    unfold trim
    have hs : ((s.dropWhile blankB).reverse.dropWhile blankB).reverse <+: s.dropWhile blankB := by
      have := List.dropWhile_suffix (l := (s.dropWhile blankB).reverse) blankB
      rw [← List.reverse_prefix] at this
      simpa using this
    obtain ⟨z, hz⟩ := hs
    generalize ((s.dropWhile blankB).reverse.dropWhile blankB).reverse = v at *
    cases v with
    | nil => rfl
    | cons c r =>
      rcases dw_head s with h | ⟨c', r', h, hb⟩
      · rw [h] at hz; simp at hz
      · rw [h] at hz
        injection hz with e _
        rw [List.dropWhile_cons, if_neg (by rw [e, hb]; decide)]
  have e : trim (trim s) = (((trim s).dropWhile blankB).reverse.dropWhile blankB).reverse := rfl
  rw [e, key]
  unfold trim
  rw [List.reverse_reverse, dw_idem]
theorem dw_nil {p : UInt8} : ∀ {l : Bytes}, l.dropWhile (· != p) = [] → ∀ x ∈ l, x = p → False
  | c :: r, h, x, hx, e => by
    by_cases hc : (c != p) = true
    · rw [List.dropWhile_cons, if_pos hc] at h
      rcases List.mem_cons.1 hx with rfl | hx
      · simp [e] at hc
      · exact dw_nil h x hx e
    · rw [List.dropWhile_cons, if_neg hc] at h
      cases h
theorem headOf_some {l : Bytes} {f : Fld} (h : headOf l = some f) : okText f.2 = true ∧ trim f.2 = f.2 ∧ f.1.length + 1 + f.2.length ≤ l.length := by
  unfold headOf at h
  split at h
  · rename_i hc
    obtain rfl := Option.some.inj h
    refine ⟨hc.2.2, trim_idem _, ?_⟩
    have h1 := tw_len 58 l
    have h2 := trim_le ((l.dropWhile (· != 58)).drop 1)
    rw [List.length_drop] at h2
    have h3 : l.dropWhile (· != 58) ≠ [] := by
      intro h0
      exact dw_nil h0 58 hc.1 rfl
    have h4 := List.length_pos_iff.2 h3
    simp only [small, List.length_map]
    omega
  · cases h
def hw (hs : List Fld) : Nat := (hs.map fun f => f.1.length + f.2.length + 3).sum
theorem headsOf_some : ∀ {ls : List Bytes} {hs : List Fld}, headsOf ls = some hs → (∀ f ∈ hs, okText f.2 = true ∧ trim f.2 = f.2) ∧ hw hs ≤ (ls.map fun l => l.length + 2).sum
  | [], hs, h => by
    cases h
    exact ⟨(fun f hf => by cases hf), Nat.le_refl _⟩
  | l :: ls, hs, h => by
    rw [headsOf] at h
    split at h
    · cases h
    · rename_i f hf
      obtain ⟨x, hx, rfl⟩ := Option.map_eq_some_iff.1 h
      obtain ⟨g1, g2, g3⟩ := headOf_some hf
      obtain ⟨i1, i2⟩ := headsOf_some hx
      refine ⟨fun y hy => ?_, ?_⟩
      · rcases List.mem_cons.1 hy with rfl | hy
        · exact ⟨g1, g2⟩
        · exact i1 y hy
      · unfold hw at i2 ⊢
        rw [List.map_cons, List.sum_cons, List.map_cons, List.sum_cons]
        omega
theorem fst_mem (hs : List Fld) (name : Bytes) : fst' hs name = [] ∨ ∃ f ∈ hs, f.2 = fst' hs name := by
  unfold fst'
  split
  · rename_i f hf
    exact .inr ⟨f, List.mem_of_find?_eq_some hf, rfl⟩
  · exact .inl rfl
def wOf (hs : List Fld) (a : Bytes) : Nat := if cnt hs a = 0 then 0 else a.length + (fst' hs a).length + 3
theorem wOf_cons (f : Fld) (hs : List Fld) (a : Bytes) : wOf (f :: hs) a = if f.1 = a then a.length + f.2.length + 3 else wOf hs a := by
  by_cases h : f.1 = a
  · unfold wOf cnt fst'
    simp [h]
  · have e1 : cnt (f :: hs) a = cnt hs a := by simp [cnt, h]
    have e2 : fst' (f :: hs) a = fst' hs a := by simp [fst', h]
    unfold wOf
    rw [e1, e2, if_neg h]
theorem hw_two {a b : Bytes} (hab : a ≠ b) : ∀ hs : List Fld, wOf hs a + wOf hs b ≤ hw hs
  | [] => by simp [wOf, cnt, hw]
  | f :: hs => by
    have ih := hw_two hab hs
    have e : hw (f :: hs) = f.1.length + f.2.length + 3 + hw hs := by simp [hw]
    rw [wOf_cons, wOf_cons, e]
    by_cases h1 : f.1 = a
    · have h2 : f.1 ≠ b := fun e => hab (h1.symm.trans e)
      rw [if_pos h1, if_neg h2, h1]
      omega
    · rw [if_neg h1]
      by_cases h2 : f.1 = b
      · rw [if_pos h2, h2]; omega
      · rw [if_neg h2]; omega
theorem fst_none {hs : List Fld} {a : Bytes} (h : cnt hs a = 0) : fst' hs a = [] := by
  unfold fst'
  split
  · rename_i f hf
    have h1 := List.mem_of_find?_eq_some hf
    have h2 := List.find?_some hf
    unfold cnt at h
    have h3 := List.length_eq_zero_iff.1 h
    have : f ∈ hs.filter fun f => decide (f.1 = a) := List.mem_filter.2 ⟨h1, h2⟩
    rw [h3] at this
    cases this
  · rfl
theorem reqLine_some {s m t : Bytes} (h : reqLine s = some (m, t)) : okToken m = true ∧ okTarget t = true ∧ s.length = m.length + t.length + 10 := by
  unfold reqLine at h
  split at h
  · rename_i m' t' v hp
    split at h
    · rename_i hc
      obtain ⟨rfl, rfl⟩ := Prod.mk.inj (Option.some.inj h)
      refine ⟨hc.1, hc.2.1, ?_⟩
      have := congrArg List.length (pcs_join (by_ := [32]) _ s (Nat.le_refl _))
      rw [hp, List.length_append, joinTail_len] at this
      simp only [List.headD_cons, List.tail_cons, List.map_cons, List.map_nil, List.sum_cons, List.sum_nil, List.length_cons, List.length_nil] at this
      rw [hc.2.2] at this
      have e : vHttp.length = 8 := rfl
      omega
    · cases h
  · cases h
theorem readMsg_err {right : Bytes → Bool} {hosts : Bool} {b : Bytes} : (readMsg right hosts b).1 = none → (readMsg right hosts b).2 = 2 ∨ (readMsg right hosts b).2 = 3 ∨ (readMsg right hosts b).2 = 220 ∨ (readMsg right hosts b).2 = 222 := by
  unfold readMsg
  repeat' split
  all_goals simp
/-- what a request that is read has -/
theorem readReq_some {b : Bytes} {r : Req} {n : Nat} (h : readReq b = (r, n, 0)) : RightReq r ∧ r.body.length ≤ 4096 ∧ n ≤ b.length ∧ 4 ≤ n ∧ (reqHead r).length + 4 ≤ n + 24 ∧ ∃ m e, readMsg (fun s => (reqLine s).isSome) true b = (some m, e) ∧ m.n = n := by
  unfold readReq at h
  split at h
  · rename_i m e hm
    obtain ⟨k, size, hk, h0, h1, h2, h3, h4, h5, h6, h7, h8, h9, h10⟩ := readMsg_some hm
    obtain ⟨g1, g2, g3, g4⟩ := readMsg_len hm
    split at h
    · rename_i me ta hl
      obtain ⟨rfl, h'⟩ := Prod.mk.inj h
      obtain ⟨rfl, -⟩ := Prod.mk.inj h'
      obtain ⟨r1, r2, r3⟩ := reqLine_some hl
      obtain ⟨i1, i2⟩ := headsOf_some h2
      have hfld : ∀ name, okText (fst' m.heads name) = true ∧ trim (fst' m.heads name) = fst' m.heads name := by
        intro name
        rcases fst_mem m.heads name with e | ⟨f, hf, e⟩
        · rw [e]; exact ⟨rfl, rfl⟩
        · rw [← e]; exact i1 f hf
      refine ⟨⟨r1, r2, hfld _, hfld _⟩, g4, g2, g1, ?_, m, e, hm, rfl⟩
      have hjoin := congrArg List.length (pcs_join (by_ := crlf) _ (b.take k) (Nat.le_refl _))
      have hbk : (b.take k).length = k := by rw [List.length_take]; omega
      rw [List.length_append, joinTail_len, ← h7, hbk] at hjoin
      have e2 : crlf.length = 2 := rfl
      rw [e2] at hjoin
      have hh := hw_two (a := nHost) (b := nType) (by decide) m.heads
      have hhost : wOf m.heads nHost = 4 + (fst' m.heads nHost).length + 3 := by
        unfold wOf
        rw [if_neg (by simp only [not_or, true_and] at h3; omega)]
        rfl
      have htype : (fst' m.heads nType = [] ∨ wOf m.heads nType = 12 + (fst' m.heads nType).length + 3) := by
        unfold wOf
        by_cases h0 : cnt m.heads nType = 0
        · exact .inl (fst_none h0)
        · right; rw [if_neg h0]; rfl
      have hit : (Lib.itoa (m.body.length : Int)).length ≤ 4 := by
        rw [itoa_nat, Lib.decDigits_length]
        exact nDigits_le 3 _ (by omega)
      unfold reqHead
      rw [List.length_append, joinTail_len, e2]
      have ef : (reqFirst ⟨me, ta, fst' m.heads nHost, fst' m.heads nType, m.body⟩).length = me.length + ta.length + 10 := by
        simp only [reqFirst, List.length_append, List.length_cons, List.length_nil]
        have : vHttp.length = 8 := rfl
        omega
      rw [ef]
      have n1 : tHost.length = 6 := rfl
      have n2 : tType.length = 14 := rfl
      have n3 : tLength.length = 16 := rfl
      unfold reqLines
      by_cases ht : fst' m.heads nType = []
      · simp only [ht, if_true, List.nil_append, List.map_cons, List.map_nil, List.sum_cons, List.sum_nil, List.length_append]
        omega
      · rcases htype with h | htype
        · exact absurd h ht
        simp only [ht, if_false, List.cons_append, List.nil_append, List.map_cons, List.map_nil, List.sum_cons, List.sum_nil, List.length_append]
        omega
    · rename_i hl
      exfalso
      have := h1
      simp only [← h7, hl] at this
      cases this
  · rename_i e hm
    exfalso
    obtain ⟨-, h'⟩ := Prod.mk.inj h
    obtain ⟨-, rfl⟩ := Prod.mk.inj h'
    have := readMsg_err (right := fun s => (reqLine s).isSome) (hosts := true) (b := b) (by rw [hm])
    rw [hm] at this
    simp at this
theorem read_write {b : Bytes} {r : Req} {n : Nat} (h : readReq b = (r, n, 0)) (hl : b.length ≤ 3900) : writeReq r = (reqText r, 0) := by
  obtain ⟨h1, h2, h3, h4, h5, _⟩ := readReq_some h
  have e := readReq_built h1 (by omega) (by omega)
  rw [if_neg (by omega)] at e
  unfold writeReq
  rw [if_pos e]
theorem readReq_more {b : Bytes} {r : Req} {n : Nat} (h : readReq b = (r, n, 0)) (more : Bytes) : readReq (b.take n ++ more) = (r, n, 0) := by
  obtain ⟨_, _, _, _, _, m, e, hm, rfl⟩ := readReq_some h
  have h' := h
  unfold readReq at h' ⊢
  rw [hm] at h'
  rw [readMsg_more hm more]
  exact h'
theorem readReq_cut {b : Bytes} {r : Req} {n j : Nat} (h : readReq b = (r, n, 0)) (hj : j < n) : readReq (b.take j) = (Req.zero, 0, 3) := by
  obtain ⟨_, _, _, _, _, m, e, hm, rfl⟩ := readReq_some h
  unfold readReq
  rw [readMsg_cut hm hj]
theorem writeReq_cases (r : Req) : writeReq r = ([], 1) ∨ (writeReq r = (reqText r, 0) ∧ readReq (reqText r) = (r, (reqText r).length, 0)) := by
  unfold writeReq
  by_cases h : readReq (reqText r) = (r, (reqText r).length, 0)
  · rw [if_pos h]; exact .inr ⟨rfl, h⟩
  · rw [if_neg h]; exact .inl rfl
/-! ### responses -/
theorem dec3 (u : Nat) (h1 : 100 ≤ u) (h2 : u < 1000) : Lib.decDigits u = [UInt8.ofNat (48 + u / 100), UInt8.ofNat (48 + u / 10 % 10), UInt8.ofNat (48 + u % 10)] := by
  rw [Lib.decDigits, dif_neg (by omega), Lib.decDigits, dif_neg (by omega), Lib.decDigits, dif_pos (by omega), show u / 10 / 10 = u / 100 by omega]
  rfl
theorem reason_text (n : Int) : okText (32 :: reason n) = true := by
  unfold reason
  repeat' split
  all_goals decide
def respFirst (r : Resp) : Bytes := vHttp ++ [32] ++ Lib.itoa r.status ++ [32] ++ reason r.status
def respHead (r : Resp) : Bytes := respFirst r ++ Lib.joinTail crlf [tLength ++ Lib.itoa r.body.length]
theorem respText_eq (r : Resp) : respText r = respHead r ++ crlf2 ++ r.body := by
  unfold respText respHead respFirst
  simp [Lib.joinTail]
theorem status_built (r : Resp) (h1 : 100 ≤ r.status) (h2 : r.status ≤ 599) : statusOf (respFirst r) = some r.status ∧ (13 : UInt8) ∉ respFirst r ∧ (respFirst r).length ≤ 40 := by
  obtain ⟨s, body⟩ := r
  simp only at h1 h2
  obtain ⟨u, rfl⟩ := Int.eq_ofNat_of_zero_le (show 0 ≤ s by omega)
  have e := dec3 u (by omega) (by omega)
  have d1 := dig_of (u / 100) (by omega)
  have d2 := dig_of (u / 10 % 10) (by omega)
  have d3 := dig_of (u % 10) (by omega)
  have hr := reason_text (u : Int)
  have hrl : (reason (u : Int)).length ≤ 20 := by
    unfold reason
    repeat' split
    all_goals simp
  have ef : respFirst ⟨(u : Int), body⟩ = [72, 84, 84, 80, 47, 49, 46, 49, 32] ++ [UInt8.ofNat (48 + u / 100), UInt8.ofNat (48 + u / 10 % 10), UInt8.ofNat (48 + u % 10)] ++ 32 :: reason (u : Int) := by
    unfold respFirst
    simp only
    rw [itoa_nat, e]
    simp [vHttp]
  generalize UInt8.ofNat (48 + u / 100) = x at *
  generalize UInt8.ofNat (48 + u / 10 % 10) = y at *
  generalize UInt8.ofNat (48 + u % 10) = z at *
  refine ⟨?_, ?_, ?_⟩
  · rw [ef]
    have b9 : by8 ([72, 84, 84, 80, 47, 49, 46, 49, 32] ++ [x, y, z] ++ 32 :: reason (u : Int)) 9 = x.toNat := rfl
    have b12 : by8 ([72, 84, 84, 80, 47, 49, 46, 49, 32] ++ [x, y, z] ++ 32 :: reason (u : Int)) 12 = 32 := rfl
    have t9 : (([72, 84, 84, 80, 47, 49, 46, 49, 32] ++ [x, y, z] ++ 32 :: reason (u : Int)).drop 9).take 3 = [x, y, z] := rfl
    have t12 : ([72, 84, 84, 80, 47, 49, 46, 49, 32] ++ [x, y, z] ++ 32 :: reason (u : Int)).drop 12 = 32 :: reason (u : Int) := rfl
    have hdig : digitsB [x, y, z] = true := by
      simp only [digitsB, List.all_cons, List.all_nil, digB, d1, d2, d3]
      simp
      omega
    unfold statusOf
    rw [b9, b12, t9, t12, if_pos ⟨⟨[x, y, z] ++ 32 :: reason (u : Int), by simp [vHttp]⟩, by simp, by omega, by omega, hdig, .inr ⟨rfl, hr⟩⟩]
    congr 1
    simp only [dval_cons, dval_nil, d1, d2, d3]
    omega
  · rw [ef]
    simp only [List.mem_append, List.mem_cons, List.not_mem_nil, or_false, not_or]
    have f1 : (13 : UInt8) ≠ x := by rintro rfl; revert d1; simp; omega
    have f2 : (13 : UInt8) ≠ y := by rintro rfl; revert d2; simp; omega
    have f3 : (13 : UInt8) ≠ z := by rintro rfl; revert d3; simp; omega
    have f4 := text_free hr
    simp only [List.mem_cons, not_or] at f4
    exact ⟨⟨by decide, f1, f2, f3⟩, f4⟩
  · rw [ef]
    simp
    omega
theorem readResp_built {r : Resp} (h1 : 100 ≤ r.status) (h2 : r.status ≤ 599) (hb : r.body.length ≤ 4096) : readResp (respText r) = (r, (respText r).length, 0) ∧ ∃ m e, readMsg (fun s => (statusOf s).isSome) false (respText r) = (some m, e) ∧ m.n = (respText r).length := by
  obtain ⟨s1, s2, s3⟩ := status_built r h1 h2
  obtain ⟨f1, f2, c, d, f3, f4⟩ := decDigits_facts r.body.length
  have hdl : (Lib.decDigits r.body.length).length ≤ 4 := by
    rw [Lib.decDigits_length]
    exact nDigits_le 3 _ (by omega)
  have hlines : ∀ q ∈ [tLength ++ Lib.itoa (r.body.length : Int)], lineB q := by
    intro q hq
    obtain rfl := List.mem_singleton.1 hq
    exact line_cons (by decide) (by decide) (text_free (itoa_line _).1)
  have hlen : (respHead r).length + 4 ≤ 4096 := by
    unfold respHead
    rw [List.length_append, joinTail_len, itoa_nat]
    have n3 : tLength.length = 16 := rfl
    have e2 : crlf.length = 2 := rfl
    simp only [List.map_cons, List.map_nil, List.sum_cons, List.sum_nil, List.length_append]
    omega
  have hsz : sizeOf' [(nLength, Lib.itoa (r.body.length : Int))] = some r.body.length := by
    have c1 : cnt [(nLength, Lib.itoa (r.body.length : Int))] nLength = 1 := by simp [cnt]
    have c2 : fst' [(nLength, Lib.itoa (r.body.length : Int))] nLength = Lib.decDigits r.body.length := by simp [fst', itoa_nat]
    unfold sizeOf'
    rw [if_pos c1, c2, if_neg (by simp only [not_or]; exact ⟨by rw [f3]; simp, by omega, by rw [f2]; simp⟩), f1]
  have hr := readMsg_built (right := fun s => (statusOf s).isSome) (hosts := false) (l := respFirst r) (body := r.body) (r := [tLength ++ Lib.itoa (r.body.length : Int)]) (hs := [(nLength, Lib.itoa (r.body.length : Int))]) (size := r.body.length) s2 hlines hlen
    (by rw [s1]; rfl) (by simp only [headsOf, length_head, Option.map_some]) (by simp [cnt]) hsz (by simp [cnt, nLength, nCoded])
  rw [if_neg (by omega), if_neg (by omega)] at hr
  have el : (respText r).length = (respFirst r ++ Lib.joinTail crlf [tLength ++ Lib.itoa (r.body.length : Int)]).length + 4 + r.body.length := by
    rw [respText_eq]
    unfold respHead
    rw [List.length_append, List.length_append]
    rfl
  rw [el]
  rw [respText_eq]
  unfold respHead
  refine ⟨?_, _, _, hr, rfl⟩
  unfold readResp
  rw [hr]
  simp only [s1, Option.getD_some, List.take_length]
theorem readResp_more {r : Resp} (h1 : 100 ≤ r.status) (h2 : r.status ≤ 599) (hb : r.body.length ≤ 4096) (more : Bytes) : readResp (respText r ++ more) = (r, (respText r).length, 0) := by
  obtain ⟨h, m, e, hm, hn⟩ := readResp_built h1 h2 hb
  have h' := h
  have hmore := readMsg_more hm more
  rw [hn, List.take_length] at hmore
  unfold readResp at h' ⊢
  rw [hm] at h'
  rw [hmore]
  exact h'
end Go.Proofs.YtlgdkaeiadhiaaaGreatDoor
