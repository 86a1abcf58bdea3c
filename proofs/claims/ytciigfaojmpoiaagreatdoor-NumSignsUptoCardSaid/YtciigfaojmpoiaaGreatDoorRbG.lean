/- What the library reads of digits laid out about their point. A float's text is read as digits and a power: which ones. A float's text, read: its digits are few, and they round to the float. -/
import Derived.Test.YtciigfaojmpoiaaGreatDoorFtI
import Derived.Test.YtciigfaojmpoiaaGreatDoorNmPure4
import Derived.Test.YtciigfaojmpoiaaGreatDoorRbF
namespace Go.Proofs.YtciigfaojmpoiaaGreatDoor
open Go Go.RowKit
set_option linter.all false
namespace Ft
open Rf
def Dg (D : List UInt8) : Prop := ∀ c ∈ D, 48 ≤ c.toNat ∧ c.toNat ≤ 57
theorem dg_c {c : UInt8} (h : 48 ≤ c.toNat ∧ c.toNat ≤ 57) : digC c.toNat = true := by simp only [digC, Bool.and_eq_true, decide_eq_true_eq]; exact h
theorem dg_rep (k : Nat) : Dg (List.replicate k 48) := fun c h => by rw [(List.mem_replicate.1 h).2]; decide
theorem Dg.app {A B : List UInt8} (ha : Dg A) (hb : Dg B) : Dg (A ++ B) := fun c h => (List.mem_append.1 h).elim (ha c) (hb c)
theorem Dg.take {A : List UInt8} (h : Dg A) (k : Nat) : Dg (A.take k) := fun c hc => h c (List.mem_of_mem_take hc)
theorem Dg.drop {A : List UInt8} (h : Dg A) (k : Nat) : Dg (A.drop k) := fun c hc => h c (List.mem_of_mem_drop hc)
/-- digits, something behind them -/
theorem go_pre (l R : List UInt8) : ∀ (D : List UInt8) (f i m nd nm : Nat) (dp : Int) (dt : Bool), l.drop i = D ++ R → Dg D → (nd = 0 → ∀ c t, D = c :: t → c ≠ 48) → nm + D.length ≤ 19 →
    Rf.go l false (D.length + f) ⟨i, m, nd, nm, dp, dt, true, false⟩ = Rf.go l false f ⟨i + D.length, dval D m, nd + D.length, nm + D.length, dp, dt, true, false⟩
  | [], f, i, m, nd, nm, dp, dt, h, hd, hz, hn => by simp [dval]
  | c :: D, f, i, m, nd, nm, dp, dt, h, hd, hz, hn => by
    obtain ⟨h1, h2, h3⟩ := by8_at (show l.drop i = c :: (D ++ R) from h)
    have hc := hd c (List.mem_cons_self ..)
    rw [List.length_cons] at hn
    rw [List.length_cons, show D.length + 1 + f = (D.length + f) + 1 by omega, Rf.go, if_pos (by show i < l.length; exact h1)]
    show (match Rf.step false (by8 l i) ⟨i, m, nd, nm, dp, dt, true, false⟩ with | some t => Rf.go l false (D.length + f) t | none => _) = _
    rw [h2, step_dig (dg_c hc) (by
      rintro ⟨e1, e2⟩
      exact hz e2 c D rfl (UInt8.toNat_inj.1 (by rw [e1]; rfl))) (by show nm < 19; omega)]
    show Rf.go l false (D.length + f) ⟨i + 1, m * 10 + (c.toNat - 48), nd + 1, nm + 1, dp, dt, true, false⟩ = _
    rw [go_pre l R D f (i + 1) _ (nd + 1) (nm + 1) dp dt h3 (fun x hx => hd x (List.mem_cons_of_mem _ hx)) (fun e => by omega) (by omega)]
    rw [show i + 1 + D.length = i + (D.length + 1) by omega, show nd + 1 + D.length = nd + (D.length + 1) by omega, show nm + 1 + D.length = nm + (D.length + 1) by omega]
    rfl
/-- the first digit -/
theorem go_first (l : List UInt8) {c : UInt8} {R : List UInt8} {f i : Nat} {dp : Int} {dt dg : Bool} (h : l.drop i = c :: R) (hc : 48 ≤ c.toNat ∧ c.toNat ≤ 57) (hz : c ≠ 48) :
    Rf.go l false (f + 1) ⟨i, 0, 0, 0, dp, dt, dg, false⟩ = Rf.go l false f ⟨i + 1, c.toNat - 48, 1, 1, dp, dt, true, false⟩ := by
  obtain ⟨h1, h2, h3⟩ := by8_at h
  rw [Rf.go, if_pos (by show i < l.length; exact h1)]
  show (match Rf.step false (by8 l i) ⟨i, 0, 0, 0, dp, dt, dg, false⟩ with | some t => Rf.go l false f t | none => _) = _
  rw [h2, step_dig (dg_c hc) (by rintro ⟨e1, -⟩; exact hz (UInt8.toNat_inj.1 (by rw [e1]; rfl))) (by decide), Nat.zero_mul, Nat.zero_add]
theorem go_dig1 (l R : List UInt8) (c : UInt8) (D : List UInt8) {f i : Nat} {dp : Int} {dt dg : Bool} (h : l.drop i = c :: (D ++ R)) (hd : Dg (c :: D)) (hz : c ≠ 48) (hn : D.length < 19) :
    Rf.go l false ((c :: D).length + f) ⟨i, 0, 0, 0, dp, dt, dg, false⟩ = Rf.go l false f ⟨i + (c :: D).length, dval (c :: D) 0, (c :: D).length, (c :: D).length, dp, dt, true, false⟩ := by
  rw [List.length_cons, show D.length + 1 + f = (D.length + f) + 1 by omega, go_first l h (hd c (List.mem_cons_self ..)) hz]
  rw [go_pre l R D f (i + 1) _ 1 1 dp dt (by8_at h).2.2 (fun x hx => hd x (List.mem_cons_of_mem _ hx)) (fun e => by cases e) (by omega)]
  rw [show i + 1 + D.length = i + (D.length + 1) by omega, show 1 + D.length = D.length + 1 by omega]
  simp only [dval, Nat.zero_mul, Nat.zero_add]
/-- noughts behind 19 digits -/
theorem go_over (l R : List UInt8) : ∀ (k f i m nd : Nat) (dp : Int) (dt : Bool), l.drop i = List.replicate k 48 ++ R → 0 < nd →
    Rf.go l false (k + f) ⟨i, m, nd, 19, dp, dt, true, false⟩ = Rf.go l false f ⟨i + k, m, nd + k, 19, dp, dt, true, false⟩
  | 0, f, i, m, nd, dp, dt, h, h0 => by simp
  | k + 1, f, i, m, nd, dp, dt, h, h0 => by
    obtain ⟨h1, h2, h3⟩ := by8_at (show l.drop i = 48 :: (List.replicate k 48 ++ R) from h)
    rw [show k + 1 + f = (k + f) + 1 by omega, Rf.go, if_pos (by show i < l.length; exact h1)]
    show (match Rf.step false (by8 l i) ⟨i, m, nd, 19, dp, dt, true, false⟩ with | some t => Rf.go l false (k + f) t | none => _) = _
    rw [h2, step_over (dg_c (c := 48) (by decide)) (by rintro ⟨-, e⟩; omega) (by decide)]
    show Rf.go l false (k + f) ⟨i + 1, m, nd + 1, 19, dp, dt, true, false⟩ = _
    rw [go_over l R k f (i + 1) m (nd + 1) dp dt h3 (by omega)]
    rw [show i + 1 + k = i + (k + 1) by omega, show nd + 1 + k = nd + (k + 1) by omega]
/-- noughts ahead -/
theorem go_zero (l R : List UInt8) : ∀ (k f i m nm : Nat) (dp : Int) (dt : Bool), l.drop i = List.replicate k 48 ++ R →
    Rf.go l false (k + f) ⟨i, m, 0, nm, dp, dt, true, false⟩ = Rf.go l false f ⟨i + k, m, 0, nm, dp - k, dt, true, false⟩
  | 0, f, i, m, nm, dp, dt, h => by simp
  | k + 1, f, i, m, nm, dp, dt, h => by
    obtain ⟨h1, h2, h3⟩ := by8_at (show l.drop i = 48 :: (List.replicate k 48 ++ R) from h)
    rw [show k + 1 + f = (k + f) + 1 by omega, Rf.go, if_pos (by show i < l.length; exact h1)]
    show (match Rf.step false (by8 l i) ⟨i, m, 0, nm, dp, dt, true, false⟩ with | some t => Rf.go l false (k + f) t | none => _) = _
    rw [h2, show (48 : UInt8).toNat = 48 from rfl, step_zero]
    show Rf.go l false (k + f) ⟨i + 1, m, 0, nm, dp - 1, dt, true, false⟩ = _
    rw [go_zero l R k f (i + 1) m nm (dp - 1) dt h3]
    rw [show i + 1 + k = i + (k + 1) by omega, show dp - 1 - (k : Int) = dp - ((k + 1 : Nat) : Int) by omega]
theorem go_pt (l : List UInt8) {R : List UInt8} {f i m nd nm : Nat} {dp : Int} {dg : Bool} (h : l.drop i = 46 :: R) :
    Rf.go l false (f + 1) ⟨i, m, nd, nm, dp, false, dg, false⟩ = Rf.go l false f ⟨i + 1, m, nd, nm, nd, true, dg, false⟩ := by
  obtain ⟨h1, h2, h3⟩ := by8_at h
  rw [Rf.go, if_pos (by show i < l.length; exact h1)]
  show (match Rf.step false (by8 l i) ⟨i, m, nd, nm, dp, false, dg, false⟩ with | some t => Rf.go l false f t | none => _) = _
  rw [h2, show (46 : UInt8).toNat = 46 from rfl, step_dot]
theorem go_at_end (l : List UInt8) (s : Rs) (h : l.drop s.i = []) : ∀ f, Rf.go l false f s = s
  | 0 => rfl
  | f + 1 => by
    rw [Rf.go, if_neg]
    intro hi
    rw [List.drop_eq_getElem_cons hi] at h; cases h
theorem go_at_e (l : List UInt8) {R : List UInt8} {i m nd nm : Nat} {dp : Int} {dt dg tr : Bool} (h : l.drop i = 101 :: R) : ∀ f, Rf.go l false f ⟨i, m, nd, nm, dp, dt, dg, tr⟩ = ⟨i, m, nd, nm, dp, dt, dg, tr⟩
  | 0 => rfl
  | f + 1 => by
    obtain ⟨h1, h2, h3⟩ := by8_at h
    rw [Rf.go, if_pos (by show i < l.length; exact h1)]
    show (match Rf.step false (by8 l i) ⟨i, m, nd, nm, dp, dt, dg, tr⟩ with | some t => Rf.go l false f t | none => _) = _
    rw [h2, show (101 : UInt8).toNat = 101 from rfl, step_none (by decide) (by decide) (by decide)]
/-- an exponent's digits -/
theorem ex_dec (l : List UInt8) : ∀ (D : List UInt8) (f i e : Nat), l.drop i = D → Dg D → D.length ≤ f → dval D e < 10000 → exGo l f i e = dval D e
  | [], 0, i, e, _, _, _, _ => rfl
  | [], f + 1, i, e, h, _, _, _ => by
    rw [exGo, if_neg]
    · rfl
    · intro hi; rw [List.drop_eq_getElem_cons hi] at h; cases h
  | c :: D, 0, i, e, h, hd, hf, hl => by cases hf
  | c :: D, f + 1, i, e, h, hd, hf, hl => by
    obtain ⟨h1, h2, h3⟩ := by8_at h
    rw [List.length_cons] at hf
    have hmono : ∀ (D : List UInt8) (e : Nat), e ≤ dval D e := by
      intro D
      induction D with
      | nil => intro e; exact Nat.le_refl _
      | cons c D ih => intro e; have := ih (e * 10 + (c.toNat - 48)); show e ≤ dval D _; omega
    have := hmono D (e * 10 + (c.toNat - 48))
    have hl' : dval D (e * 10 + (c.toNat - 48)) < 10000 := hl
    rw [exGo, if_pos h1, if_pos (by omega), h2]
    exact ex_dec l D f (i + 1) _ h3 (fun x hx => hd x (List.mem_cons_of_mem _ hx)) (by omega) hl'
theorem dval_rep : ∀ (k m : Nat), dval (List.replicate k 48) m = m * 10 ^ k
  | 0, m => by simp [dval]
  | k + 1, m => by
    rw [List.replicate_succ]
    show dval (List.replicate k 48) (m * 10 + ((48 : UInt8).toNat - 48)) = _
    rw [dval_rep, show (48 : UInt8).toNat - 48 = 0 by decide, Nat.add_zero, Nat.pow_succ, Nat.mul_assoc, Nat.mul_comm 10]
theorem by8_drop' (l : List UInt8) (i j : Nat) : by8 (l.drop i) j = by8 l (i + j) := by
  unfold by8
  rw [List.getD_eq_getElem?_getD, List.getD_eq_getElem?_getD, List.getElem?_drop]
/-- what is read from place i on -/
def Rg (l : List UInt8) (i M : Nat) (Q : Int) : Prop := Rf.Whole l false i ∧ (digs l false i).mant = M ∧ Rf.pow l false i = Q ∧ (digs l false i).trunc = false
theorem drop_pre (pre X : List UInt8) (k : Nat) : (pre ++ X).drop (pre.length + k) = X.drop k := by rw [List.drop_append, List.drop_of_length_le (by omega)]; simp
theorem pre0 (pre X : List UInt8) : (pre ++ X).drop pre.length = X := by have := drop_pre pre X 0; simpa using this
/-- digits and noughts -/
theorem rg_A (pre : List UInt8) (c : UInt8) (R : List UInt8) (k : Nat) (hd : Dg (c :: R)) (hz : c ≠ 48) (hl : R.length < 19) (hM : 0 < dval (c :: R) 0) :
    ∃ j, j ≤ k ∧ j + R.length < 19 ∧ Rg (pre ++ ((c :: R) ++ List.replicate k 48)) pre.length (dval (c :: R) 0 * 10 ^ j) ((k : Int) - j) := by
  obtain ⟨j, hj⟩ : ∃ j, min k (18 - R.length) = j := ⟨_, rfl⟩
  obtain ⟨q, hq⟩ : ∃ q, k = j + q := ⟨k - j, by omega⟩
  have hq0 : q = 0 ∨ j + R.length = 18 := by omega
  refine ⟨j, by omega, by omega, ?_⟩
  have hdg : digs (pre ++ ((c :: R) ++ List.replicate k 48)) false pre.length = ⟨pre.length + (1 + R.length + k), dval (c :: R) 0 * 10 ^ j, 1 + R.length + k, 1 + R.length + j, 0, false, true, false⟩ := by
    have hl2 : (pre ++ ((c :: R) ++ List.replicate k 48)).length + 1 = (c :: (R ++ List.replicate j 48)).length + (q + (pre.length + 1)) := by
      simp only [List.length_append, List.length_cons, List.length_replicate]; omega
    have hdr := pre0 pre ((c :: R) ++ List.replicate k 48)
    rw [hq, ← List.replicate_append_replicate] at hdr
    unfold digs Rf.start
    rw [hl2]
    rw [hq, ← List.replicate_append_replicate]
    rw [go_dig1 _ (List.replicate q 48) c (R ++ List.replicate j 48) (by rw [hdr]; simp) (fun x hx => by
      rcases List.mem_cons.1 hx with e | e
      · rw [e]; exact hd c (List.mem_cons_self ..)
      · exact Dg.app (fun y hy => hd y (List.mem_cons_of_mem _ hy)) (dg_rep j) x e) hz (by simp; omega)]
    have hlen : (c :: (R ++ List.replicate j 48)).length = 1 + R.length + j := by simp; omega
    have hdv : dval (c :: (R ++ List.replicate j 48)) 0 = dval (c :: R) 0 * 10 ^ j := by
      rw [← List.cons_append, dval_app, dval_rep]
    rw [hlen, hdv]
    have hdr2 : (pre ++ (c :: R ++ (List.replicate j 48 ++ List.replicate q 48))).drop (pre.length + (1 + R.length + j)) = List.replicate q 48 ++ [] := by
      rw [drop_pre, show c :: R ++ (List.replicate j 48 ++ List.replicate q 48) = (c :: (R ++ List.replicate j 48)) ++ List.replicate q 48 by simp, ← hlen, List.drop_left, List.append_nil]
    rcases hq0 with e | e
    · subst e
      rw [Nat.zero_add, go_at_end]
      · simp
      · rw [hdr2]; rfl
    · rw [show 1 + R.length + j = 19 by omega] at hdr2 ⊢
      rw [go_over _ [] q _ _ _ _ _ _ hdr2 (by omega), go_at_end]
      · rw [show pre.length + 19 + q = pre.length + (1 + R.length + (j + q)) by omega, show 19 + q = 1 + R.length + (j + q) by omega]
      · show List.drop (pre.length + 19 + q) _ = []
        rw [← List.drop_drop, hdr2]
        simp
  have hpos : 0 < dval (c :: R) 0 * 10 ^ j := Nat.mul_pos hM (Nat.pow_pos (by decide))
  have hlen : (pre ++ ((c :: R) ++ List.replicate k 48)).length = pre.length + (1 + R.length + k) := by simp; omega
  refine ⟨⟨by rw [hdg], .inl ⟨by rw [hdg, hlen], rfl⟩⟩, by rw [hdg], ?_, by rw [hdg]⟩
  have hm : ¬ (_ : Nat) = 0 := Nat.pos_iff_ne_zero.1 hpos
  have hx := Nat.not_lt_of_ge (Nat.le_of_eq hlen)
  unfold Rf.pow
  rw [hdg]
  simp only [dpOf, exPart, if_neg hm, if_neg hx]
  simp
  omega
/-- digits, a point within -/
theorem rg_B (pre : List UInt8) (c : UInt8) (A B : List UInt8) (hd : Dg (c :: A)) (hB : Dg B) (hz : c ≠ 48) (hl : A.length + B.length < 19) (hM : 0 < dval (c :: A ++ B) 0) :
    Rg (pre ++ ((c :: A) ++ 46 :: B)) pre.length (dval (c :: A ++ B) 0) (-(B.length : Int)) := by
  have hdg : digs (pre ++ ((c :: A) ++ 46 :: B)) false pre.length = ⟨pre.length + (2 + A.length + B.length), dval (c :: A ++ B) 0, 1 + A.length + B.length, 1 + A.length + B.length, (1 + A.length : Nat), true, true, false⟩ := by
    have hl2 : (pre ++ ((c :: A) ++ 46 :: B)).length + 1 = (c :: A).length + (B.length + (pre.length + 1) + 1) := by
      simp only [List.length_append, List.length_cons]; omega
    have hdr := pre0 pre ((c :: A) ++ 46 :: B)
    have hdr1 := drop_pre pre ((c :: A) ++ 46 :: B) (c :: A).length
    rw [List.drop_left] at hdr1
    unfold digs Rf.start
    rw [hl2, go_dig1 _ (46 :: B) c A hdr hd hz (by omega), go_pt _ hdr1]
    have hdr2 : (pre ++ ((c :: A) ++ 46 :: B)).drop (pre.length + (c :: A).length + 1) = B ++ [] := by
      rw [← List.drop_drop, hdr1, List.append_nil]; rfl
    rw [go_pre _ [] B _ _ _ _ _ _ _ hdr2 hB (fun e => by simp at e) (by rw [List.length_cons]; omega), go_at_end]
    · rw [← dval_app]
      rw [List.length_cons]
      congr 1 <;> omega
    · show List.drop (pre.length + (c :: A).length + 1 + B.length) _ = []
      rw [← List.drop_drop, hdr2]; simp
  have hlen : (pre ++ ((c :: A) ++ 46 :: B)).length = pre.length + (2 + A.length + B.length) := by simp; omega
  refine ⟨⟨by rw [hdg], .inl ⟨by rw [hdg, hlen], rfl⟩⟩, by rw [hdg], ?_, by rw [hdg]⟩
  have hm : ¬ (_ : Nat) = 0 := Nat.pos_iff_ne_zero.1 hM
  have hx := Nat.not_lt_of_ge (Nat.le_of_eq hlen)
  unfold Rf.pow
  rw [hdg]
  simp only [dpOf, exPart, if_neg hm, if_neg hx]
  simp
  omega
/-- nought, a point, noughts, digits -/
theorem rg_C (pre : List UInt8) (c : UInt8) (R : List UInt8) (k : Nat) (hd : Dg (c :: R)) (hz : c ≠ 48) (hl : R.length < 19) (hM : 0 < dval (c :: R) 0) :
    Rg (pre ++ (48 :: 46 :: (List.replicate k 48 ++ (c :: R)))) pre.length (dval (c :: R) 0) (-(k : Int) - (1 + R.length : Nat)) := by
  have hdg : digs (pre ++ (48 :: 46 :: (List.replicate k 48 ++ (c :: R)))) false pre.length = ⟨pre.length + (2 + k + (1 + R.length)), dval (c :: R) 0, 1 + R.length, 1 + R.length, -(k : Int), true, true, false⟩ := by
    have hl2 : (pre ++ (48 :: 46 :: (List.replicate k 48 ++ (c :: R)))).length + 1 = ((k + ((c :: R).length + (pre.length + 1))) + 1) + 1 := by
      simp only [List.length_append, List.length_cons, List.length_replicate]; omega
    have hdr := pre0 pre (48 :: 46 :: (List.replicate k 48 ++ (c :: R)))
    obtain ⟨h1, h2, h3⟩ := by8_at hdr
    obtain ⟨j1, j2, j3⟩ := by8_at h3
    unfold digs Rf.start
    rw [hl2, Rf.go, if_pos (by show pre.length < _; exact h1)]
    show (match Rf.step false (by8 _ pre.length) ⟨pre.length, 0, 0, 0, 0, false, false, false⟩ with | some t => Rf.go _ false _ t | none => _) = _
    rw [h2, show (48 : UInt8).toNat = 48 from rfl, step_zero]
    show Rf.go _ false _ ⟨pre.length + 1, 0, 0, 0, 0 - 1, false, true, false⟩ = _
    rw [go_pt _ h3, go_zero _ (c :: R) k _ _ _ _ _ _ j3]
    have hdr2 : (pre ++ (48 :: 46 :: (List.replicate k 48 ++ (c :: R)))).drop (pre.length + 1 + 1 + k) = c :: (R ++ []) := by
      rw [← List.drop_drop, j3, List.append_nil]
      have := List.drop_left (l₁ := List.replicate k (48 : UInt8)) (l₂ := c :: R)
      rwa [List.length_replicate] at this
    rw [go_dig1 _ [] c R hdr2 hd hz hl, go_at_end]
    · rw [List.length_cons]
      congr 1 <;> omega
    · show List.drop (pre.length + 1 + 1 + k + (c :: R).length) _ = []
      rw [← List.drop_drop, hdr2]; simp
  have hlen : (pre ++ (48 :: 46 :: (List.replicate k 48 ++ (c :: R)))).length = pre.length + (2 + k + (1 + R.length)) := by simp; omega
  refine ⟨⟨by rw [hdg], .inl ⟨by rw [hdg, hlen], rfl⟩⟩, by rw [hdg], ?_, by rw [hdg]⟩
  have hm : ¬ (_ : Nat) = 0 := Nat.pos_iff_ne_zero.1 hM
  have hx := Nat.not_lt_of_ge (Nat.le_of_eq hlen)
  unfold Rf.pow
  rw [hdg]
  simp only [dpOf, exPart, if_neg hm, if_neg hx]
  simp
/-- an exponent behind digits -/
theorem ex_part (l : List UInt8) (m : Nat) (s : UInt8) (E : List UInt8) (hs : s = 43 ∨ s = 45) (h : l.drop m = 101 :: s :: E) (hE : Dg E) (h0 : 0 < E.length) (he : dval E 0 < 10000) :
    IsEx l false m ∧ exPart l m = if s = 45 then -(dval E 0 : Int) else (dval E 0 : Int) := by
  obtain ⟨h1, h2, h3⟩ := by8_at h
  obtain ⟨j1, j2, j3⟩ := by8_at h3
  have ha : exAt l m = m + 2 := by unfold exAt; rw [if_pos]; rw [j2]; rcases hs with e | e <;> rw [e] <;> decide
  have hlen : l.length = m + 2 + E.length := by
    have := congrArg List.length h
    rw [List.length_drop, List.length_cons, List.length_cons] at this; omega
  have hx : exGo l (l.length + 1) (m + 2) 0 = dval E 0 := ex_dec l E _ _ _ j3 hE (by omega) he
  refine ⟨⟨h1, by rw [h2]; decide, by rw [ha]; omega, fun k k1 k2 => ?_⟩, ?_⟩
  · rw [ha] at k1
    have e : by8 l k = by8 E (k - (m + 2)) := by rw [← j3, show m + 1 + 1 = m + 2 from rfl, Go.Proofs.YtciigfaojmpoiaaGreatDoor.Ft.by8_drop', show m + 2 + (k - (m + 2)) = k by omega]
    rw [e]
    simp only [digC, Bool.and_eq_true, decide_eq_true_eq]
    exact by8_dig hE (by omega)
  · unfold exPart exOf
    rw [if_pos h1, ha, hx, j2]
    rcases hs with e | e <;> subst e <;> rfl
/-- a digit, a point and digits or none, an exponent -/
theorem rg_D (pre : List UInt8) (c : UInt8) (R : List UInt8) (s : UInt8) (E : List UInt8) (hd : Dg (c :: R)) (hz : c ≠ 48) (hl : R.length < 19) (hM : 0 < dval (c :: R) 0) (hs : s = 43 ∨ s = 45) (hE : Dg E) (h0 : 0 < E.length) (he : dval E 0 < 10000) :
    Rg (pre ++ (([c] ++ if 1 < (c :: R).length then 46 :: R else []) ++ (101 :: s :: E))) pre.length (dval (c :: R) 0) ((if s = 45 then -(dval E 0 : Int) else (dval E 0 : Int)) - R.length) := by
  obtain ⟨l, hl0⟩ : ∃ l, pre ++ (([c] ++ if 1 < (c :: R).length then 46 :: R else []) ++ (101 :: s :: E)) = l := ⟨_, rfl⟩
  have hdr := pre0 pre (([c] ++ if 1 < (c :: R).length then 46 :: R else []) ++ (101 :: s :: E))
  rw [hl0] at hdr ⊢
  have hlen : l.length = pre.length + (1 + (if 1 < (c :: R).length then 1 + R.length else 0) + (2 + E.length)) := by
    rw [← hl0]
    split <;> simp <;> omega
  have key : ∃ (i : Nat) (dp : Int) (dt : Bool), digs l false pre.length = ⟨i, dval (c :: R) 0, 1 + R.length, 1 + R.length, dp, dt, true, false⟩ ∧ (if dt then dp else ((1 + R.length : Nat) : Int)) = 1 ∧ l.drop i = 101 :: s :: E := by
    by_cases g : 1 < (c :: R).length
    · rw [if_pos g] at hdr hlen
      obtain ⟨f, hf⟩ : ∃ f, l.length + 1 = (R.length + f + 1) + 1 := ⟨l.length - 1 - R.length, by omega⟩
      have hdr' : l.drop pre.length = c :: (46 :: (R ++ (101 :: s :: E))) := by rw [hdr]; simp
      obtain ⟨-, -, d1⟩ := by8_at hdr'
      obtain ⟨-, -, d2⟩ := by8_at d1
      have d3 : l.drop (pre.length + 1 + 1 + R.length) = 101 :: s :: E := by rw [← List.drop_drop, d2, List.drop_left]
      refine ⟨pre.length + 1 + 1 + R.length, 1, true, ?_, rfl, d3⟩
      unfold digs Rf.start
      rw [hf, go_first l hdr' (hd c (List.mem_cons_self ..)) hz, go_pt l d1, go_pre l _ R f _ _ _ _ _ _ d2 (fun x hx => hd x (List.mem_cons_of_mem _ hx)) (fun e => by cases e) (by omega)]
      rw [go_at_e l d3]
      simp only [dval, Nat.zero_mul, Nat.zero_add]
      rfl
    · rw [if_neg g] at hdr hlen
      have hR : R = [] := by
        cases R with
        | nil => rfl
        | cons a b => exfalso; apply g; simp
      subst hR
      have hdr' : l.drop pre.length = c :: (101 :: s :: E) := by rw [hdr]; simp
      obtain ⟨-, -, d1⟩ := by8_at hdr'
      refine ⟨pre.length + 1, 0, false, ?_, rfl, d1⟩
      unfold digs Rf.start
      rw [go_first l hdr' (hd c (List.mem_cons_self ..)) hz, go_at_e l d1]
      simp only [dval, Nat.zero_mul, Nat.zero_add]
      rfl
  obtain ⟨i, dp, dt, hdg, hdp, hdi⟩ := key
  obtain ⟨x1, x2⟩ := ex_part l i s E hs hdi hE h0 he
  refine ⟨⟨by rw [hdg], .inr (by rw [hdg]; exact x1)⟩, by rw [hdg], ?_, by rw [hdg]⟩
  unfold Rf.pow
  rw [hdg]
  simp only [dpOf]
  rw [if_neg (by omega), x2]
  rw [hdp]
  simp
  omega
end Ft
end Go.Proofs.YtciigfaojmpoiaaGreatDoor
namespace Go.Proofs.YtciigfaojmpoiaaGreatDoor
open Go Go.RowKit
set_option linter.all false
namespace Ft
open Rf
theorem dg_contains {c : UInt8} (h : 48 ≤ c.toNat ∧ c.toNat ≤ 57) : Nm.digits.contains c = true := by
  have : ∀ k : Nat, k < 256 → 48 ≤ k ∧ k ≤ 57 → Nm.digits.contains (UInt8.ofNat k) = true := by decide +kernel
  have h2 := this c.toNat (UInt8.toNat_lt c) h
  rwa [UInt8.ofNat_toNat] at h2
theorem run_app (R : List UInt8) : ∀ D : List UInt8, Dg D → Nm.runGo Nm.digits (D ++ R) = D.length + Nm.runGo Nm.digits R
  | [], _ => by simp
  | c :: D, h => by
    rw [List.cons_append, Nm.runGo, if_pos (dg_contains (h c (List.mem_cons_self ..))), run_app R D (fun x hx => h x (List.mem_cons_of_mem _ hx)), List.length_cons]
    omega
theorem run_stop (b : UInt8) (R : List UInt8) (h : Nm.digits.contains b = false) : Nm.runGo Nm.digits (b :: R) = 0 := by rw [Nm.runGo, if_neg (by rw [h]; decide)]
theorem run_all {D : List UInt8} (h : Dg D) : Nm.runGo Nm.digits D = D.length := by have := run_app [] D h; rwa [List.append_nil] at this
theorem dec_A {D : List UInt8} (h : Dg D) (h0 : 0 < D.length) : Nm.decimal D = true := by
  unfold Nm.decimal Nm.mantEnd
  rw [run_all h, List.drop_of_length_le (Nat.le_refl _)]
  show (if D.length = 0 then false else Nm.expEnd []) = true
  rw [if_neg (by omega)]; rfl
theorem mant_pt {A B X : List UInt8} (hA : Dg A) (hB : Dg B) (hX : Nm.runGo Nm.digits X = 0) : Nm.mantEnd (A ++ 46 :: (B ++ X)) = (A.length + B.length, X) := by
  unfold Nm.mantEnd
  rw [run_app _ A hA, run_stop 46 _ (by decide), Nat.add_zero, List.drop_left]
  show (if (46 : UInt8) = 46 then (A.length + Nm.runGo Nm.digits (B ++ X), (B ++ X).drop (Nm.runGo Nm.digits (B ++ X))) else _) = _
  rw [if_pos rfl, run_app _ B hB, hX, Nat.add_zero, List.drop_left]
theorem dec_B {A B : List UInt8} (hA : Dg A) (hB : Dg B) (h0 : 0 < A.length) : Nm.decimal (A ++ 46 :: B) = true := by
  have := mant_pt (X := []) hA hB rfl
  rw [List.append_nil] at this
  unfold Nm.decimal
  rw [this]
  show (if A.length + B.length = 0 then false else Nm.expEnd []) = true
  rw [if_neg (by omega)]; rfl
theorem exp_ok {s : UInt8} {E : List UInt8} (hs : s = 43 ∨ s = 45) (hE : Dg E) (h0 : 0 < E.length) : Nm.expEnd (101 :: s :: E) = true := by
  have hu : Nm.unsign (s :: E) = E := by
    show (if s = 43 ∨ s = 45 then E else s :: E) = E
    rw [if_pos hs]
  show (if (101 : UInt8) = 101 ∨ (101 : UInt8) = 69 then decide (0 < Nm.runGo Nm.digits (Nm.unsign (s :: E)) ∧ Nm.runGo Nm.digits (Nm.unsign (s :: E)) = (Nm.unsign (s :: E)).length) else false) = true
  rw [if_pos (.inl rfl), hu, run_all hE, decide_eq_true_eq]
  exact ⟨h0, rfl⟩
theorem dec_D {c : UInt8} {R E : List UInt8} {s : UInt8} (hd : Dg (c :: R)) (hs : s = 43 ∨ s = 45) (hE : Dg E) (h0 : 0 < E.length) :
    Nm.decimal (([c] ++ if 1 < (c :: R).length then 46 :: R else []) ++ (101 :: s :: E)) = true := by
  have hc : Dg [c] := fun x hx => hd x (by rw [List.mem_singleton] at hx; rw [hx]; exact List.mem_cons_self ..)
  have hR : Dg R := fun x hx => hd x (List.mem_cons_of_mem _ hx)
  have hx : Nm.runGo Nm.digits (101 :: s :: E) = 0 := run_stop _ _ (by decide)
  have hm : Nm.mantEnd (([c] ++ if 1 < (c :: R).length then 46 :: R else []) ++ (101 :: s :: E)) = (1 + (if 1 < (c :: R).length then R.length else 0), 101 :: s :: E) := by
    by_cases g : 1 < (c :: R).length
    · rw [if_pos g, if_pos g]
      exact mant_pt hc hR hx
    · rw [if_neg g, if_neg g, List.append_nil]
      unfold Nm.mantEnd
      rw [run_app _ _ hc, hx, Nat.add_zero, List.drop_left]
      rfl
  unfold Nm.decimal
  rw [hm]
  show (if 1 + (if 1 < (c :: R).length then R.length else 0) = 0 then false else Nm.expEnd (101 :: s :: E)) = true
  rw [if_neg (by omega)]
  exact exp_ok hs hE h0
theorem dval_pos {c : UInt8} {R : List UInt8} (hc : 48 ≤ c.toNat) (hz : c ≠ 48) : 0 < dval (c :: R) 0 := by
  have hmono : ∀ (D : List UInt8) (e : Nat), e ≤ dval D e := by
    intro D
    induction D with
    | nil => intro e; exact Nat.le_refl _
    | cons c D ih => intro e; have := ih (e * 10 + (c.toNat - 48)); show e ≤ dval D _; omega
  have h1 := hmono R (0 * 10 + (c.toNat - 48))
  have h2 : c.toNat ≠ 48 := fun e => hz (UInt8.toNat_inj.1 (by rw [e]; rfl))
  show 0 < dval R (0 * 10 + (c.toNat - 48))
  omega
theorem dval_lt : ∀ (D : List UInt8) (m : Nat), Dg D → dval D m < (m + 1) * 10 ^ D.length
  | [], m, _ => by simp [dval]
  | c :: D, m, h => by
    have hc := h c (List.mem_cons_self ..)
    have := dval_lt D (m * 10 + (c.toNat - 48)) (fun x hx => h x (List.mem_cons_of_mem _ hx))
    show dval D (m * 10 + (c.toNat - 48)) < _
    rw [List.length_cons, Nat.pow_succ, Nat.mul_comm (10 ^ D.length), ← Nat.mul_assoc]
    exact Nat.lt_of_lt_of_le this (Nat.mul_le_mul_right _ (by omega))
theorem sub_take (T : List UInt8) (k : Nat) : Go.Proofs.YtciigfaojmpoiaaGreatDoor.sub T 0 k = T.take k := by unfold Go.Proofs.YtciigfaojmpoiaaGreatDoor.sub; simp
theorem sub_drop (T : List UInt8) (k : Nat) : Go.Proofs.YtciigfaojmpoiaaGreatDoor.sub T k T.length = T.drop k := by unfold Go.Proofs.YtciigfaojmpoiaaGreatDoor.sub; rw [List.take_of_length_le (by rw [List.length_drop]; omega)]
theorem dg_dec (n : Nat) : Dg (Lib.decDigits n) := dec_digit n
theorem dec_pos' (n : Nat) : 0 < (Lib.decDigits n).length := dec_ne n
/-- what is read of digits laid out, what it looks like -/
structure Lay (pre t : List UInt8) (V R : Nat) (n : Int) : Prop where
  rg : ∃ j, j + R < 19 ∧ (0 < j → 0 ≤ n - (R + 1 : Nat) - j) ∧ Rg (pre ++ t) pre.length (V * 10 ^ j) (n - (R + 1 : Nat) - j)
  dec : Nm.decimal t = true
  len : t.length ≤ 24
  fst : ∃ c r, t = c :: r ∧ 48 ≤ c.toNat ∧ c.toNat ≤ 57
theorem rg_lay (pre : List UInt8) (c : UInt8) (R : List UInt8) (n : Int) (hd : Dg (c :: R)) (hz : c ≠ 48) (hl : R.length ≤ 16) (h0 : -400 ≤ n) (h1 : n ≤ 400) : Lay pre (lay (c :: R) n) (dval (c :: R) 0) R.length n := by
  have hM : 0 < dval (c :: R) 0 := dval_pos (hd c (List.mem_cons_self ..)).1 hz
  have hc := hd c (List.mem_cons_self ..)
  unfold lay
  by_cases g1 : ((c :: R).length : Int) ≤ n ∧ n ≤ 21
  · rw [if_pos g1, rep_eq]
    obtain ⟨k, hk⟩ : ∃ k, (n - ((c :: R).length : Nat)).toNat = k := ⟨_, rfl⟩
    rw [hk]
    rw [List.length_cons] at g1 hk
    obtain ⟨j, j1, j2, j3⟩ := rg_A pre c R k hd hz (by omega) hM
    refine ⟨⟨j, j2, fun _ => by omega, ?_⟩, ?_, ?_, ⟨c, _, rfl, hc⟩⟩
    · rw [show n - ((R.length + 1 : Nat) : Int) - (j : Int) = (k : Int) - j by omega]
      exact j3
    · exact dec_A (Dg.app hd (dg_rep k)) (by simp)
    · simp only [List.length_append, List.length_cons, List.length_replicate]; omega
  rw [if_neg g1]
  rw [List.length_cons] at g1
  by_cases g2 : 0 < n ∧ n ≤ 21
  · rw [if_pos g2, sub_take, sub_drop]
    obtain ⟨k, hk⟩ : ∃ k, n.toNat = k + 1 := ⟨n.toNat - 1, by omega⟩
    rw [hk, List.take_succ_cons, List.drop_succ_cons]
    have hA := rg_B pre c (R.take k) (R.drop k) (fun x hx => by
      rcases List.mem_cons.1 hx with e | e
      · rw [e]; exact hc
      · exact hd x (List.mem_cons_of_mem _ (List.mem_of_mem_take e))) (fun x hx => hd x (List.mem_cons_of_mem _ (List.mem_of_mem_drop hx))) hz (by rw [← List.length_append, List.take_append_drop]; omega) (by rw [List.cons_append, List.take_append_drop]; exact hM)
    have e : (c :: R.take k) ++ R.drop k = c :: R := by rw [List.cons_append, List.take_append_drop]
    rw [e, List.length_drop] at hA
    refine ⟨⟨0, by omega, fun h => by omega, ?_⟩, ?_, ?_, ⟨c, _, rfl, hc⟩⟩
    · rw [Nat.pow_zero, Nat.mul_one, show n - ((R.length + 1 : Nat) : Int) - ((0 : Nat) : Int) = -((R.length - k : Nat) : Int) by omega]
      exact hA
    · exact dec_B (fun x hx => by
        rcases List.mem_cons.1 hx with e | e
        · rw [e]; exact hc
        · exact hd x (List.mem_cons_of_mem _ (List.mem_of_mem_take e))) (fun x hx => hd x (List.mem_cons_of_mem _ (List.mem_of_mem_drop hx))) (by simp)
    · simp only [List.length_append, List.length_cons, List.length_take, List.length_drop]; omega
  rw [if_neg g2]
  by_cases g3 : -6 < n ∧ n ≤ 0
  · rw [if_pos g3, rep_eq]
    obtain ⟨k, hk⟩ : ∃ k, (-n).toNat = k := ⟨_, rfl⟩
    rw [hk]
    have hA := rg_C pre c R k hd hz (by omega) hM
    refine ⟨⟨0, by omega, fun h => by omega, ?_⟩, ?_, ?_, ⟨48, _, rfl, by decide⟩⟩
    · rw [Nat.pow_zero, Nat.mul_one, show n - ((R.length + 1 : Nat) : Int) - ((0 : Nat) : Int) = -(k : Int) - ((1 + R.length : Nat) : Int) by omega]
      exact hA
    · exact dec_B (A := [48]) (dg_rep 1) (Dg.app (dg_rep k) hd) (by simp)
    · simp only [List.length_append, List.length_cons, List.length_replicate]; omega
  rw [if_neg g3, sub_take, sub_drop]
  rw [show (c :: R).take 1 = [c] from rfl, show (c :: R).drop 1 = R from rfl]
  have key : ∀ (s : UInt8) (e : Nat), (s = 43 ∨ s = 45) → e < 1000 → (if s = 45 then -(e : Int) else (e : Int)) = n - 1 → Lay pre (([c] ++ if 1 < (c :: R).length then 46 :: R else []) ++ (101 :: s :: Lib.decDigits e)) (dval (c :: R) 0) R.length n := by
    intro s e hs he hn
    have hA := rg_D pre c R s (Lib.decDigits e) hd hz (by omega) hM hs (dg_dec e) (dec_pos' e) (by rw [dval_dec]; omega)
    rw [dval_dec, hn] at hA
    have hel : (Lib.decDigits e).length ≤ 3 := by
      rw [Lib.decDigits_length]
      have : ∀ e, e < 1000 → Lib.nDigits e ≤ 3 := by
        intro e he
        by_cases a : e < 10
        · rw [Lib.nDigits_small a]; omega
        · by_cases b : e < 100
          · rw [Lib.nDigits_big a, Lib.nDigits_small (by omega)]; omega
          · rw [Lib.nDigits_big a, Lib.nDigits_big (by omega), Lib.nDigits_small (by omega)]; omega
      exact this e he
    refine ⟨⟨0, by omega, fun h => by omega, ?_⟩, ?_, ?_, ?_⟩
    · rw [Nat.pow_zero, Nat.mul_one, show n - ((R.length + 1 : Nat) : Int) - ((0 : Nat) : Int) = n - 1 - (R.length : Int) by omega]
      exact hA
    · exact dec_D hd hs (dg_dec e) (dec_pos' e)
    · split <;> simp only [List.length_append, List.length_cons, List.length_nil] <;> omega
    · exact ⟨c, _, rfl, hc⟩
  by_cases g4 : n - 1 < 0
  · rw [if_pos g4]
    obtain ⟨e, he⟩ : ∃ e : Nat, 1 - n = (e : Int) := ⟨(1 - n).toNat, by omega⟩
    rw [he, Lib.itoa_nonneg]
    exact key 45 e (.inr rfl) (by omega) (by rw [if_pos rfl]; omega)
  · rw [if_neg g4]
    obtain ⟨e, he⟩ : ∃ e : Nat, n - 1 = (e : Int) := ⟨(n - 1).toNat, by omega⟩
    rw [he, Lib.itoa_nonneg]
    exact key 43 e (.inl rfl) (by omega) (by rw [if_neg (by decide)]; omega)
/-- the shortest digits without their noughts -/
theorem dgT_val {d : Nat} (h : 1 ≤ d) : ∃ c R z, dgT d = c :: R ∧ c ≠ 48 ∧ Dg (c :: R) ∧ Lib.nDigits d = R.length + 1 + z ∧ d = dval (c :: R) 0 * 10 ^ z := by
  obtain ⟨c, R, hT, hc, hl⟩ := dgT_form h
  have hf := cutz_fill (Lib.decDigits d)
  rw [rep_eq, Lib.decDigits_length] at hf
  have hT2 : cutz (Lib.decDigits d) = c :: R := hT
  rw [hT2] at hf
  refine ⟨c, R, Lib.nDigits d - (c :: R).length, hT, hc, fun x hx => dgT_digit d x (by rw [hT]; exact hx), by rw [List.length_cons]; omega, ?_⟩
  have := congrArg (fun l => dval l 0) hf
  simp only [dval_app, dval_rep, dval_dec] at this
  exact this.symm
end Ft
end Go.Proofs.YtciigfaojmpoiaaGreatDoor
namespace Go.Proofs.YtciigfaojmpoiaaGreatDoor
open Go Go.RowKit
set_option linter.all false
namespace Rb
open Us P10
open Ft hiding V
open Ie (V V_lt V_le V_inj)
set_option exponentiation.threshold 20000
def smB (i : Nat) : Bool := let E : Int := (i : Int) - 1137
  let p := -l10 (E + (zO E : Int)); let p2 := -skw (E + 11)
  decide (18446744073709551616 * nt p < 400000000000000000 * (2 ^ sOf E p * (340282366920938463463374607431768211456 * dt p))) && (decide (E ≤ -1085) || decide (9223372036854776832 * nt p2 < 400000000000000000 * (2 ^ sOf E p2 * (340282366920938463463374607431768211456 * dt p2))))
set_option maxRecDepth 100000 in
theorem sm_ok : (List.range 2098).all smB = true := by decide +kernel
theorem sm_at {m : Nat} {E : Int} (hV : Ft.V m E) : mxO m E * nt (pO m E) < 400000000000000000 * QO m E := by
  have e0 := hV.e0
  have e1 := hV.e1
  have h := List.all_eq_true.1 sm_ok (E + 1137).toNat (List.mem_range.2 (by omega))
  unfold smB at h
  rw [show (((E + 1137).toNat : Nat) : Int) - 1137 = E by omega] at h
  simp only [Bool.and_eq_true, Bool.or_eq_true, decide_eq_true_eq] at h
  have hs : QO m E = 2 ^ sOf E (pO m E) * (340282366920938463463374607431768211456 * dt (pO m E)) := rfl
  have hmx := hV.ends.2.1
  rw [hs]
  rcases g : edge m E with _ | _
  · have hp : pO m E = -l10 (E + (zO E : Int)) := by unfold pO; rw [g]; rfl
    rw [hp]
    exact Nat.lt_of_le_of_lt (Nat.mul_le_mul_right _ (Nat.le_of_lt hmx)) h.1
  · have hp : pO m E = -skw (E + 11) := by unfold pO; rw [g]; rfl
    have hx : mxO m E = m + 1024 := by unfold mxO; rw [g]; rfl
    unfold edge at g
    simp only [Bool.and_eq_true, decide_eq_true_eq] at g
    rw [hp, hx, g.1]
    rcases h.2 with k | k
    · omega
    · exact k
/-- THE SHORTEST DIGITS ARE AT MOST SEVENTEEN -/
theorem d_small {b : Nat} (h0 : 0 < b) (h1 : b < 9218868437227405312) : (dO Hi0 Lo0 b).1 < 100000000000000000 := by
  obtain ⟨hV, -, -⟩ := v_of h0 h1
  obtain ⟨D, hI, hs⟩ := sh_in hV
  have h2 := lo_le hI.2
  have h3 := sm_at hV
  have hD : D < 100000000000000000 := by
    rcases Nat.lt_or_ge D 100000000000000000 with g | g
    · exact g
    · exfalso
      have : 400000000000000000 * QO (mO b) (EO b) ≤ 4 * D * QO (mO b) (EO b) := Nat.mul_le_mul_right _ (by omega)
      omega
  unfold dO
  rcases hs with hs | ⟨D', e, hs⟩
  · rw [hs]; exact hD
  · rw [hs]
    show D' < _
    omega
theorem V_top : V 9218868437227405312 = 2 ^ 52 * 2 ^ 2046 := by decide +kernel
/-- one of the digits that round to a finite float -/
theorem pow_top {t b : Nat} {P : Int} (ht : 0 < t) (hb : b < 9218868437227405312) (h : Inv b (t * 10 ^ P.toNat * 2 ^ 1074) (10 ^ (-P).toNat)) : P ≤ 308 := by
  rcases Int.lt_or_le 308 P with g | g
  · exfalso
    have h2 := lo_le h.2
    rw [show (-P).toNat = 0 by omega, Nat.pow_zero, Nat.mul_one] at h2
    have v1 : V b ≤ V 9218868437227405312 := V_le.2 (by omega)
    have v2 : V (b + 1) ≤ V 9218868437227405312 := V_le.2 (by omega)
    rw [V_top] at v1 v2
    have h3 : 10 ^ 309 ≤ 10 ^ P.toNat := Nat.pow_le_pow_right (by decide) (by omega)
    have h4 : 10 ^ 309 * 2 ^ 1074 ≤ t * 10 ^ P.toNat * 2 ^ 1074 := by
      refine Nat.mul_le_mul_right _ ?_
      have := Nat.mul_le_mul ht h3
      rw [Nat.one_mul] at this
      exact this
    have h5 : 2 ^ 52 * 2 ^ 2046 < 10 ^ 309 * 2 ^ 1074 := by decide +kernel
    omega
  · exact g
theorem nd_le : ∀ (k u : Nat), u < 10 ^ (k + 1) → Lib.nDigits u ≤ k + 1 := by
  intro k
  induction k with
  | zero => intro u h; rw [Lib.nDigits_small (by simpa using h)]; exact Nat.le_refl _
  | succ k ih =>
    intro u h
    by_cases g : u < 10
    · rw [Lib.nDigits_small g]; omega
    · rw [Lib.nDigits_big g]
      have := ih (u / 10) (by rw [Nat.pow_succ] at h; omega)
      omega
theorem shift57 {d : Nat} (h0 : 0 < d) (h : d < 144115188075855872) : ∃ t, 72057594037927936 ≤ d * 2 ^ t ∧ d * 2 ^ t < 144115188075855872 := by
  have h64 : d < 18446744073709551616 := by omega
  obtain ⟨b1, b2, b3⟩ := Lib.bitLenAux_bounds 64 d (by omega) (by omega)
  obtain ⟨L, hL⟩ : ∃ L, Lib.bitLen d = L := ⟨_, rfl⟩
  have c1 : 1 ≤ L := by rw [← hL]; exact b1
  have c2 : 2 ^ (L - 1) ≤ d := by rw [← hL]; exact b2
  have c3 : d < 2 ^ L := by rw [← hL]; exact b3
  have hL57 : L ≤ 57 := by
    have : L - 1 < 57 := (Nat.pow_lt_pow_iff_right (show 1 < 2 by decide)).1 (Nat.lt_of_le_of_lt c2 (show d < 2 ^ 57 from h))
    omega
  refine ⟨57 - L, ?_, ?_⟩
  · have := Nat.mul_le_mul_right (2 ^ (57 - L)) c2
    rw [← Nat.pow_add, show L - 1 + (57 - L) = 56 by omega] at this
    exact this
  · have := Nat.mul_lt_mul_of_pos_right c3 (Nat.pow_pos (n := 57 - L) (show 0 < 2 by decide))
    rw [← Nat.pow_add, show L + (57 - L) = 57 by omega] at this
    exact this
/-- what reading finds in a float's text -/
structure Back (pre t : List UInt8) (b M : Nat) (Q : Int) : Prop where
  m0 : 0 < M
  m1 : M < 18446744073709551616
  q0 : -345 ≤ Q
  q1 : Q ≤ 310
  near : Near M Q
  inv : Inv b (M * 10 ^ Q.toNat * 2 ^ 1074) (10 ^ (-Q).toNat)
  rg : Rg (pre ++ t) pre.length M Q
theorem back (pre : List UInt8) {b : Nat} (h0 : 0 < b) (h1 : b < 9218868437227405312) :
    (∃ M Q, Back pre (tx Hi0 Lo0 b) b M Q) ∧ Nm.decimal (tx Hi0 Lo0 b) = true ∧ (tx Hi0 Lo0 b).length ≤ 24 ∧ ∃ c r, tx Hi0 Lo0 b = c :: r ∧ 48 ≤ c.toNat ∧ c.toNat ≤ 57 := by
  obtain ⟨hV, -, -⟩ := v_of h0 h1
  have hsm := d_small h0 h1
  have hpos := sh_pos hV big
  have hI := fmt_inv h0 h1
  have hp := hV.p
  have hexp : -328 ≤ (dO Hi0 Lo0 b).2 ∧ (dO Hi0 Lo0 b).2 ≤ 297 := by
    obtain ⟨D, -, hs⟩ := sh_in hV
    unfold dO
    rcases hs with hs | ⟨D', e, hs⟩ <;> rw [hs] <;> simp only <;> omega
  have hpos' : 1 ≤ (dO Hi0 Lo0 b).1 := hpos.1
  unfold tx
  obtain ⟨d0, hd0⟩ : ∃ d0, (dO Hi0 Lo0 b).1 = d0 := ⟨_, rfl⟩
  obtain ⟨p0, hp0⟩ : ∃ p0, (dO Hi0 Lo0 b).2 = p0 := ⟨_, rfl⟩
  rw [hd0] at hsm hI hpos' ⊢
  rw [hp0] at hI hexp ⊢
  clear hpos hp hV hd0 hp0
  obtain ⟨c, R, z, hT, hc, hdg, hn, hv⟩ := dgT_val hpos'
  have hn17 : Lib.nDigits d0 ≤ 17 := nd_le 16 d0 hsm
  rw [hT]
  have hL := rg_lay pre c R ((Lib.nDigits d0 : Int) + p0) hdg hc (by omega) (by omega) (by omega)
  refine ⟨?_, hL.dec, hL.len, hL.fst⟩
  obtain ⟨j, j1, j2, j3⟩ := hL.rg
  have hV0 : 0 < dval (c :: R) 0 := dval_pos (hdg c (List.mem_cons_self ..)).1 hc
  have hVs : dval (c :: R) 0 ≤ d0 := by
    have := Nat.le_mul_of_pos_right (dval (c :: R) 0) (show 0 < 10 ^ z from Nat.pow_pos (by decide))
    omega
  have hVl := dval_lt (c :: R) 0 hdg
  rw [Nat.zero_add, Nat.one_mul, List.length_cons] at hVl
  obtain ⟨V0, hV0q⟩ : ∃ V0, dval (c :: R) 0 = V0 := ⟨_, rfl⟩
  rw [hV0q] at j3 hV0 hVs hVl hv
  have hQ : ((Lib.nDigits d0 : Int) + p0) - ((R.length + 1 : Nat) : Int) - (j : Int) = p0 + z - j := by omega
  rw [hQ] at j2 j3
  have hpp : ∀ k, 0 < 10 ^ k := fun k => Nat.pow_pos (by decide)
  have hIP : Inv b (V0 * 10 ^ (p0 + (z : Int)).toNat * 2 ^ 1074) (10 ^ (-(p0 + (z : Int))).toNat) := by
    refine inv_same (hpp _) (hpp _) ?_ hI
    rw [hv, Nat.mul_right_comm _ (2 ^ 1074), Nat.mul_right_comm _ (2 ^ 1074)]
    congr 1
    rw [Nat.mul_assoc, Nat.mul_assoc, Nat.mul_assoc]
    congr 1
    rw [← Nat.pow_add, ← Nat.pow_add, ← Nat.pow_add]
    congr 1
    omega
  have hP := pow_top hV0 h1 hIP
  obtain ⟨t, t1, t2⟩ := shift57 hV0 (by omega)
  have hj10 : 10 ^ (R.length + 1) * 10 ^ j ≤ 10 ^ 19 := by rw [← Nat.pow_add]; exact Nat.pow_le_pow_right (by decide) (by omega)
  have hMl : V0 * 10 ^ j < 10 ^ 19 := Nat.lt_of_lt_of_le (Nat.mul_lt_mul_of_pos_right hVl (hpp j)) hj10
  have hM0 : 0 < V0 * 10 ^ j := Nat.mul_pos hV0 (hpp j)
  have hQ0 : -345 ≤ p0 + (z : Int) - (j : Int) := by
    rcases Nat.eq_zero_or_pos j with e | e
    · omega
    · have := j2 e; omega
  refine ⟨V0 * 10 ^ j, p0 + z - j, hM0, Nat.lt_trans hMl (by decide), hQ0, by omega, ?_, ?_, j3⟩
  · exact near_of (P := p0 + z) hM0 (Nat.lt_trans hMl (by decide)) rfl (by omega) hQ0 (by omega) (by omega) (by omega) t1 t2
  · refine inv_same (hpp _) (hpp _) ?_ hIP
    rw [Nat.mul_right_comm _ (2 ^ 1074), Nat.mul_right_comm _ (2 ^ 1074)]
    congr 1
    rw [Nat.mul_assoc, Nat.mul_assoc, Nat.mul_assoc]
    congr 1
    rw [← Nat.pow_add, ← Nat.pow_add, ← Nat.pow_add]
    congr 1
    omega
/-- A FLOAT'S TEXT IS READ AS THE FLOAT -/
theorem ad_pos {b : Nat} (h0 : 0 < b) (h1 : b < 9218868437227405312) : AD Hi0 Lo0 T0 (tx Hi0 Lo0 b) b false := by
  obtain ⟨⟨M, Q, B⟩, hdec, hlen, -⟩ := back [] h0 h1
  have hrd := Us.dec_rd hdec (by omega)
  obtain ⟨-, -, -, -, hl0, hd, -⟩ := Nm.dec_whole hdec
  obtain ⟨r1, r2, r3, r4⟩ := B.rg
  rw [List.nil_append, List.length_nil] at r2 r3 r4
  rw [r2, r3, r4] at hrd
  exact atof_right hrd B.m0 B.m1 B.q0 B.q1 hl0 hd B.near h0 h1 B.inv
/-- the same with a sign -/
theorem ad_sign {b : Nat} (h0 : 0 < b) (h1 : b < 9218868437227405312) : AD Hi0 Lo0 T0 (45 :: tx Hi0 Lo0 b) (9223372036854775808 + b) false := by
  obtain ⟨⟨M, Q, B⟩, hdec, hlen, hf⟩ := back [45] h0 h1
  obtain ⟨-, -, -, hU, hl0, hd, -⟩ := Nm.dec_whole hdec
  obtain ⟨Mx, -, -, -, -, -, hch, -, -⟩ := Nm.dec_shape hdec
  obtain ⟨r1, r2, r3, r4⟩ := B.rg
  have b1 := B.m0
  have b2 := B.m1
  have b3 := B.q0
  have b4 := B.q1
  have b5 := B.near
  have b6 := B.inv
  clear B
  generalize tx Hi0 Lo0 b = D at *
  rw [show [45] ++ D = 45 :: D from rfl, show ([45] : List UInt8).length = 1 from rfl] at r1 r2 r3 r4
  have hb : ∀ k, by8 (45 :: D) (k + 1) = by8 D k := fun k => by rw [by8_cons]
  have hb0 : by8 (45 :: D) 0 = 45 := rfl
  have hf0 : 48 ≤ by8 D 0 ∧ by8 D 0 ≤ 57 := by
    obtain ⟨c, r, e, hc⟩ := hf
    rw [e]; exact hc
  refine atof_rightN (fun w => ?_) b1 b2 b3 b4 (fun w => special_neg D w hl0 hf0 (by omega)) b5 h0 h1 b6
  have hsg : Rf.sgn (45 :: D) = 1 := by unfold Rf.sgn; rw [hb0]; rfl
  have hng : Rf.neg (45 :: D) = true := by unfold Rf.neg; rw [hb0]; rfl
  have hx : Rf.hexAt (45 :: D) 1 = false := by
    unfold Rf.hexAt
    rw [hb 1]
    have h3 : ((by8 D 1 ||| 32) == 120) = false := by
      rw [beq_eq_false_iff_ne]
      have hk : ∀ k, k ≤ 57 → (k ||| 32) ≠ 120 := by decide +kernel
      rcases Nat.lt_or_ge 1 D.length with k1 | k1
      · rcases hch 1 k1 with g | g | g | g | g | g
        · have := Nm.dig_byte g
          exact hk _ (by omega)
        all_goals rw [g]; decide
      · rw [Nm.by8_out _ k1]; decide
    rw [h3]; simp
  have hf : Rf.from0 (45 :: D) = 1 := by unfold Rf.from0; rw [hsg, hx]; rfl
  have hU' : ∀ i, by8 (45 :: D) i ≠ 95 := fun i => by
    cases i with
    | zero => rw [hb0]; decide
    | succ k => rw [hb k]; exact hU k
  have hlen' : (45 :: D : List UInt8).length = 1 + D.length := by rw [List.length_cons]; omega
  refine (Rf.readFloat_dec (45 :: D) w (by omega) (by omega) hU' (by rw [hsg, hx, hf]; exact r1) (by rw [hsg]; exact hx)).mono ?_
  rintro e w' hq
  unfold Rf.RfPost at hq
  rw [hsg, hx, hf, hng, r2, r3, r4] at hq
  exact hq
end Rb
end Go.Proofs.YtciigfaojmpoiaaGreatDoor
