/- Layer 2: a declaration. -/
import Derived.Test.YtigfcchblfnnbaaGreatDoorTk16
import Derived.Deep.CutRange
import Derived.Deep.DeepCutAuto
namespace Go.Proofs.YtigfcchblfnnbaaGreatDoor
open Go Go.RowKit
set_option linter.all false
namespace Tk
theorem narrow_eq : ∀ (cs : Cs) (t : List UInt8), (∀ c ∈ cs, okc c) → (∀ b ∈ t, b.toNat < 128) → (narrow cs = t ↔ cs = nats t)
  | [], t, _, _ => by cases t <;> simp [narrow, nats]
  | c :: cs, t, hc, ht => by
    have hn : narrow (c :: cs) = enc c ++ narrow cs := by simp [narrow]
    rw [hn]
    by_cases h : c < 128
    · rw [enc_low c h]
      have e : (UInt8.ofNat c).toNat = c := by rw [UInt8.toNat_ofNat']; omega
      cases t with
      | nil => simp [nats]
      | cons b t =>
        have ih := narrow_eq cs t (fun c hc' => hc c (by simp [hc'])) (fun b hb => ht b (by simp [hb]))
        have e2 : nats (b :: t) = b.toNat :: nats t := by simp [nats]
        rw [List.singleton_append, e2, List.cons.injEq, List.cons.injEq, ih]
        refine and_congr_left fun _ => ⟨fun g => by rw [← g, e], fun g => by rw [g]; simp⟩
    · obtain ⟨x, r, e, hx⟩ := enc_high c (by omega) (hc c (by simp))
      rw [e, List.cons_append]
      cases t with
      | nil => simp [nats]
      | cons b t =>
        have hb := ht b (by simp)
        have e2 : nats (b :: t) = b.toNat :: nats t := by simp [nats]
        rw [e2, List.cons.injEq, List.cons.injEq]
        refine ⟨fun g => ?_, fun g => ?_⟩
        · rw [g.1] at hx; omega
        · omega
theorem numGo_sub {B v : Nat} {xs : Cs} {x : Nat × Cs} (h : numGo B v xs = some x) : ∀ c ∈ x.2, c ∈ xs := by
  induction xs generalizing v with
  | nil => simp [numGo] at h
  | cons c r ih =>
    rw [numGo] at h
    split at h
    · cases h; intro c hc; exact List.mem_cons_of_mem _ hc
    · split at h
      · intro c hc; exact List.mem_cons_of_mem _ (ih h c hc)
      · cases h
theorem number_sub {xs : Cs} {x : Nat × Cs} (h : number xs = some x) : ∀ c ∈ x.2, c ∈ xs := by
  have key : ∀ B ys, numOf B ys = some x → ∀ c ∈ x.2, c ∈ ys := fun B ys h => by
    unfold numOf at h
    split at h
    · cases h
    · obtain ⟨y, hy, h2⟩ := Option.bind_eq_some_iff.1 h
      split at h2
      · cases h2; exact numGo_sub hy
      · cases h2
  unfold number at h
  split at h
  · intro c hc; exact List.mem_cons_of_mem _ (key _ _ h c hc)
  · exact key _ _ h
theorem ref_sub {xs : Cs} {v : Nat} {q : Cs} (h : reference xs = .ok (v, q)) : ∀ c ∈ q, c ∈ xs := by
  unfold reference at h
  repeat (split at h; · (cases h; intro c hc; exact List.mem_of_mem_drop hc))
  split at h
  · split at h
    · rename_i x hx
      cases h
      intro c hc; exact List.mem_of_mem_drop (number_sub hx c hc)
    · cases h
  · cases h
theorem takeC_sub {c : Nat} {xs q : Cs} {u : Unit} (h : takeC c xs = .ok (u, q)) : ∀ c ∈ q, c ∈ xs := by
  cases xs with
  | nil => simp [takeC] at h
  | cons x r =>
    simp only [takeC] at h
    split at h
    · cases h; intro c hc; exact List.mem_cons_of_mem _ hc
    · cases h
theorem blanks_sub (xs : Cs) : ∀ c ∈ blanks xs, c ∈ xs := fun _ hc => (List.dropWhile_sublist _).subset hc
theorem valGo_ok {mark : Nat} : ∀ (f : Nat) (xs v q : Cs), valGo mark f xs = .ok (v, q) → (∀ c ∈ xs, okc c) → (∀ c ∈ v, okc c) ∧ (∀ c ∈ q, c ∈ xs) ∧ v.length ≤ xs.length ∧ q.length ≤ xs.length
  | 0, xs, v, q, h, _ => by rw [valGo] at h; cases h
  | f + 1, [], v, q, h, _ => by rw [valGo] at h; cases h
  | f + 1, c :: r, v, q, h, hx => by
    rw [valGo] at h
    split at h
    · cases h; exact ⟨by simp, fun c hc => List.mem_cons_of_mem _ hc, by simp, by simp⟩
    split at h
    · cases h
    split at h
    · rcases hr : reference (c :: r) with e | ⟨y, z⟩
      · rw [hr] at h; cases h
      · rw [hr] at h
        obtain ⟨r1, r2⟩ := ref_ok hr
        have r3 := ref_sub hr
        simp only [and_ok] at h
        rcases hg : valGo mark f z with e | ⟨a, s⟩
        · rw [hg] at h; cases h
        · rw [hg] at h; cases h
          obtain ⟨a1, a2, a3, a4⟩ := valGo_ok f z a q hg (fun c hc => hx c (r3 c hc))
          exact ⟨List.forall_mem_cons.2 ⟨r1, a1⟩, fun c hc => r3 c (a2 c hc), by simp only [List.length_cons] at r2 ⊢; omega, by omega⟩
    · rcases hg : valGo mark f r with e | ⟨a, s⟩
      · rw [hg] at h; cases h
      · rw [hg] at h; cases h
        obtain ⟨a1, a2, a3, a4⟩ := valGo_ok f r a q hg (fun c hc => hx c (List.mem_cons_of_mem _ hc))
        refine ⟨fun x hc => ?_, fun c hc => List.mem_cons_of_mem _ (a2 c hc), by simp only [List.length_cons]; omega, by simp only [List.length_cons]; omega⟩
        rcases List.mem_cons.1 hc with rfl | hc
        · split
          · unfold okc; omega
          · exact hx c (by simp)
        · exact a1 x hc
theorem value_ok {xs v q : Cs} (h : value xs = .ok (v, q)) (hx : ∀ c ∈ xs, okc c) : (∀ c ∈ v, okc c) ∧ (∀ c ∈ q, c ∈ xs) ∧ v.length ≤ xs.length ∧ q.length ≤ xs.length := by
  cases xs with
  | nil => simp [value] at h
  | cons c r =>
    simp only [value] at h
    split at h
    · obtain ⟨a1, a2, a3, a4⟩ := valGo_ok _ _ _ _ h (fun c hc => hx c (List.mem_cons_of_mem _ hc))
      exact ⟨a1, fun c hc => List.mem_cons_of_mem _ (a2 c hc), by simp only [List.length_cons]; omega, by simp only [List.length_cons]; omega⟩
    · cases h
def Attr.okd (N : Nat) (a : Attr) : Prop := (∀ c ∈ a.nm, okc c) ∧ (∀ c ∈ a.val, okc c) ∧ a.val.length ≤ N
theorem len_sub {N : Nat} {xs : Cs} (h : xs.length ≤ N) : (blanks xs).length ≤ N := Nat.le_trans (blanks_le xs) h
theorem attrsGo_ok (N : Nat) : ∀ (f : Nat) (xs : Cs) (l : List Attr) (q : Cs), attrsGo f xs = .ok (l, q) → (∀ c ∈ xs, okc c) → xs.length ≤ N → ∀ a ∈ l, a.okd N
  | 0, xs, l, q, h, _, _ => by rw [attrsGo] at h; cases h
  | f + 1, xs, l, q, h, hx, hN => by
    rw [attrsGo] at h
    split at h
    · rcases hn : name (blanks xs) with e | ⟨nm, r1⟩
      · rw [hn] at h; cases h
      rw [hn] at h
      simp only [and_ok] at h
      obtain ⟨n1, n2, n3⟩ := name_ok hn
      have hb : ∀ c ∈ blanks xs, okc c := fun c hc => hx c (blanks_sub xs c hc)
      have hnm : ∀ c ∈ nm, okc c := fun c hc => hb c (by rw [n1]; simp [hc])
      have hr1 : ∀ c ∈ r1, okc c := fun c hc => hb c (by rw [n1]; simp [hc])
      have l1 : r1.length ≤ N := by have := len_sub hN; rw [n1, List.length_append] at this; omega
      rcases ht : takeC 61 (blanks r1) with e | ⟨u, r2⟩
      · rw [ht] at h; cases h
      rw [ht] at h
      simp only [and_ok] at h
      have hr2 : ∀ c ∈ r2, okc c := fun c hc => hr1 c (blanks_sub r1 c (takeC_sub ht c hc))
      have l2 : r2.length ≤ N := by have := takeC_ok ht; have := len_sub l1; omega
      rcases hv : value (blanks r2) with e | ⟨v, r3⟩
      · rw [hv] at h; cases h
      rw [hv] at h
      simp only [and_ok] at h
      obtain ⟨v1, v2, v3, v4⟩ := value_ok hv (fun c hc => hr2 c (blanks_sub r2 c hc))
      have hr3 : ∀ c ∈ r3, okc c := fun c hc => hr2 c (blanks_sub r2 c (v2 c hc))
      have l3 : r3.length ≤ N := Nat.le_trans v4 (len_sub l2)
      rcases hg : attrsGo f r3 with e | ⟨a, z⟩
      · rw [hg] at h; cases h
      rw [hg] at h
      cases h
      intro x hx
      rcases List.mem_cons.1 hx with rfl | hx
      · exact ⟨hnm, v1, Nat.le_trans v3 (len_sub l2)⟩
      · exact attrsGo_ok N f r3 a q hg hr3 l3 x hx
    · cases h; simp
theorem attrs_ok {xs : Cs} {l : List Attr} {q : Cs} (h : attrs xs = .ok (l, q)) (hx : ∀ c ∈ xs, okc c) : ∀ a ∈ l, a.okd xs.length := attrsGo_ok _ _ _ _ _ h hx (Nat.le_refl _)
theorem narrow_b (cs : Cs) (t : List UInt8) (h : ∀ c ∈ cs, okc c) (ht : ∀ b ∈ t, b.toNat < 128) : (narrow cs == t) = decide (cs = nats t) := by
  rw [Bool.eq_iff_iff, beq_iff_eq, decide_eq_true_eq]
  exact narrow_eq cs t h ht
def dA (l : List Attr) : Bool := match l with
  | [] => false
  | a :: _ => (narrow a.nm == [118, 101, 114, 115, 105, 111, 110]) && (narrow a.val == [49, 46, 48])
def foldU (v : Cs) : Bool := decide (v.map small = [117, 116, 102, 45, 56])
def dS (ok : Bool) (l : List Attr) : Bool := match l with
  | [] => ok
  | c :: r => if narrow c.nm == [115, 116, 97, 110, 100, 97, 108, 111, 110, 101] then (ok && (narrow c.val == [121, 101, 115] || narrow c.val == [110, 111])) && r.isEmpty else false
def dE (ok : Bool) (l : List Attr) : Bool := match l with
  | [] => ok
  | b :: r => if narrow b.nm == [101, 110, 99, 111, 100, 105, 110, 103] then dS (ok && foldU b.val) r else dS ok (b :: r)
theorem decl_eq {N : Nat} (l : List Attr) (q : Bool) (h : ∀ a ∈ l, a.okd N) : (declOk l && q) = dE (dA l && q) (l.drop 1) := by
  have kn : ∀ x ∈ l, ∀ t : List UInt8, (∀ b ∈ t, b.toNat < 128) → (narrow x.nm == t) = decide (x.nm = nats t) := fun x hx t ht => narrow_b _ _ (h x hx).1 ht
  have kv : ∀ x ∈ l, ∀ t : List UInt8, (∀ b ∈ t, b.toNat < 128) → (narrow x.val == t) = decide (x.val = nats t) := fun x hx t ht => narrow_b _ _ (h x hx).2.1 ht
  rcases l with _ | ⟨a, r⟩
  · rfl
  have a1 := kn a (by simp) [118, 101, 114, 115, 105, 111, 110] (by decide)
  have a2 := kv a (by simp) [49, 46, 48] (by decide)
  have e0 : dA (a :: r) = decide (a.nm = tVersion ∧ a.val = [49, 46, 48]) := by
    simp only [dA, a1, a2, Bool.decide_and]; rfl
  rw [e0]
  have e1 : ∀ x ∈ a :: r, (narrow x.nm == [101, 110, 99, 111, 100, 105, 110, 103]) = decide (x.nm = tEncoding) := fun x hx => kn x hx [101, 110, 99, 111, 100, 105, 110, 103] (by decide)
  have e2 : ∀ x ∈ a :: r, (narrow x.nm == [115, 116, 97, 110, 100, 97, 108, 111, 110, 101]) = decide (x.nm = tStandalone) := fun x hx => kn x hx [115, 116, 97, 110, 100, 97, 108, 111, 110, 101] (by decide)
  have e3 : ∀ x ∈ a :: r, (narrow x.val == [121, 101, 115] || narrow x.val == [110, 111]) = decide (x.val = [121, 101, 115] ∨ x.val = [110, 111]) := fun x hx => by
    rw [kv x hx [121, 101, 115] (by decide), kv x hx [110, 111] (by decide), Bool.decide_or]; rfl
  clear kn kv a1 a2 e0
  simp only [declOk, List.drop_succ_cons, List.drop_zero]
  generalize decide (a.nm = tVersion ∧ a.val = [49, 46, 48]) = A
  rcases r with _ | ⟨b, m⟩
  · simp [dE]
  · simp only [dE, dS, e1 b (by simp), e2 b (by simp), e3 b (by simp), foldU]
    by_cases hE : b.nm = tEncoding
    · simp only [hE, if_true, decide_true]
      rcases m with _ | ⟨c, n⟩
      · cases A <;> cases q <;> simp
      · simp only [dS, e2 c (by simp), e3 c (by simp)]
        by_cases hS : c.nm = tStandalone
        · cases A <;> cases q <;> simp [hS, Bool.and_assoc]
        · cases A <;> cases q <;> simp [hS]
    · by_cases hS : b.nm = tStandalone
      · have hne : ¬ tStandalone = tEncoding := by decide
        cases A <;> cases q <;> simp [hne, hS]
      · cases A <;> cases q <;> simp [hE, hS]
theorem attr_cells : ∀ (l : List AttrV) (k i : Nat) (a : AttrV), l[k]? = some a → i < 4 → (l.flatMap AttrV.cells)[4 * k + i]? = a.cells[i]?
  | [], k, i, a, h, _ => by simp at h
  | b :: l, 0, i, a, h, hi => by
    simp only [List.getElem?_cons_zero, Option.some.injEq] at h
    subst h
    rw [List.flatMap_cons, List.getElem?_append_left (by simp [AttrV.cells]; omega)]
    simp
  | b :: l, k + 1, i, a, h, hi => by
    simp only [List.getElem?_cons_succ] at h
    have hl : b.cells.length = 4 := rfl
    rw [List.flatMap_cons, List.getElem?_append_right (by omega), hl, show 4 * (k + 1) + i - 4 = 4 * k + i by omega]
    exact attr_cells l k i a h hi
set_option maxRecDepth 100001 in
set_option maxHeartbeats 64000001 in
theorem decl_any {w0 w : World} {p : Pl} {d : Sd} (h : At w p d) (hB : Base w0 p w) (hi : d.i = 0) : Calls Tryz.prog 44 #[.pointer (some ⟨p.s, 0, none⟩)] w fun e w' => Gives p d w (decl d.cs) (fun _ => .tuple #[]) e w' := by
  have hcl := h.clen
  have AT0 := at_any h [60, 63, 120, 109, 108] (by omega) (by decide)
  simp only [Sd.rest, hi, List.drop_zero, show nats [60, 63, 120, 109, 108] = tXml from rfl] at AT0
  have W0 : ∀ w', Pur w w' → Went p d w d.cs w' := fun w' hp => ⟨0, by simp, by omega, by omega, by have := h.pur hp; rw [← hi]; exact this, Chg.of_pur hp⟩
  rcases hp : pre tXml d.cs with _ | _
  · have HC := Lib.hid (show decl d.cs = .ok ((), d.cs) by unfold decl; rw [hp]; rfl)
    rw [hp] at AT0
    clear hp
    go_enter Tryz.func44, Tryz.ntmps44
    go_wp2_with fail
    refine AT0.mono ?_
    rintro e w1 ⟨rfl, p1⟩
    go_wp2
    refine ⟨rfl, ?_⟩
    rw [HC.out]
    exact ⟨_, results_none rfl _ _ _, rfl, W0 _ p1⟩
  have hpl := pre_len hp
  simp only [tXml, List.length_cons, List.length_nil] at hpl
  obtain ⟨ca, cc, hcv⟩ := row_shape h.chars
  by_cases h6 : d.cs.length < 6
  · have HC := Lib.hid (show decl d.cs = .ok ((), d.cs) by unfold decl; rw [List.drop_of_length_le (by omega : d.cs.length ≤ 5), hp]; rfl)
    rw [hp] at AT0
    clear hp
    go_enter Tryz.func44, Tryz.ntmps44
    go_wp2_with fail
    refine AT0.mono ?_
    rintro e w1 ⟨rfl, p1⟩
    have c0 := (h.pur p1).c0
    rw [hcv] at c0
    go_wp2
    refine ⟨rfl, ?_⟩
    rw [HC.out]
    exact ⟨_, results_none rfl _ _ _, rfl, W0 _ p1⟩
  have hcons := drop_cons d.cs 5 (by omega)
  have CE : ∀ w', Pur w w' → ∃ g, ca = some ⟨g, 0, none⟩ ∧ w'.cell? ⟨g, 5, none⟩ = some (.int .i64 ((d.cs.getD 5 0 : Nat) : Int)) := fun w' hp => by
    obtain ⟨g, c2, e2, _, hg, _, hc⟩ := row_at (h.pur hp).chars (by omega)
    rw [hcv] at e2
    cases e2
    exact ⟨g, rfl, (hc 5 (.int .i64 ((d.cs.getD 5 0 : Nat) : Int)) (by simp [ints, List.getD_eq_getElem?_getD, List.getElem?_eq_getElem (show 5 < d.cs.length by omega)])).1⟩
  obtain ⟨x, hx⟩ : ∃ x, d.cs.getD 5 0 = x := ⟨_, rfl⟩
  rw [hx] at hcons CE
  have hbl : on blank (x : Int) = blank x := by simp [on]
  rw [hp] at AT0
  obtain ⟨g, hg, -⟩ := CE w (Pur.refl _)
  subst hg
  replace CE : ∀ w', Pur w w' → w'.cell? ⟨g, 5, none⟩ = some (.int .i64 (x : Int)) := fun w' hp => by
    obtain ⟨g', e, hc⟩ := CE w' hp
    cases e; exact hc
  have h6' : ¬ ((d.cs.length : Int) < 6) := by omega
  rcases hb : blank x with _ | _
  · have HC := Lib.hid (show decl d.cs = .ok ((), d.cs) by unfold decl; rw [hcons, hp]; simp [hd, hb])
    rw [hb] at hbl
    clear hp hcons hx hb
    go_enter Tryz.func44, Tryz.ntmps44
    go_wp2_with fail
    refine AT0.mono ?_
    rintro e w1 ⟨rfl, p1⟩
    have c0 := (h.pur p1).c0
    rw [hcv] at c0
    have c5 := CE _ p1
    go_wp2_with fail
    refine (blank_any (x : Int) _ (by omega)).mono ?_
    rintro e w2 ⟨rfl, rfl⟩
    rw [hbl]
    go_wp2
    refine ⟨rfl, ?_⟩
    rw [HC.out]
    exact ⟨_, results_none rfl _ _ _, rfl, W0 _ p1⟩
  have HC := Lib.hid (show decl d.cs = (attrs (d.cs.drop 5)).and fun l r => if declOk l && pre [63, 62] r then .ok ((), r.drop 2) else .error (d.cs.length, 21) by
    unfold decl
    rw [if_pos (by rw [hp, hcons]; simp [hd, hb])])
  have hok : ∀ c ∈ d.cs.drop 5, okc c := fun c hc => allowed_okc (h.okcs c (List.mem_of_mem_drop hc))
  rw [hb] at hbl
  have CH : ∀ w1, Pur w w1 → Chg [p.s] w (w1.setCell ⟨p.s, 1, none⟩ (.int .i64 5)) := fun w1 hp => (Chg.of_pur hp).setCell (.inl (by simp)) _
  have HA : ∀ w1, Pur w w1 → At (w1.setCell ⟨p.s, 1, none⟩ (.int .i64 5)) p { d with i := 5 } := fun w1 hp => (h.pur hp).seti 5 5 rfl
  have AA : ∀ w1, (hp : Pur w w1) → _ := fun w1 hp => attrs_any (HA w1 hp) (by show 5 ≤ d.cs.length; omega)
  simp only [Sd.rest] at AA
  clear hp hcons hx hb
  rcases ha : attrs (d.cs.drop 5) with ⟨k, n⟩ | ⟨l, r⟩
  · rw [ha] at AA HC
    simp only [and_error] at HC
    clear ha
    go_enter Tryz.func44, Tryz.ntmps44
    go_wp2_with fail
    refine AT0.mono ?_
    rintro e w1 ⟨rfl, p1⟩
    have c0 := (h.pur p1).c0
    have c1 := (h.pur p1).c1
    have f1 := (h.pur p1).f 1
    rw [hcv] at c0
    have c5 := CE _ p1
    go_wp2_with fail
    refine (blank_any (x : Int) _ (by omega)).mono ?_
    rintro e w2 ⟨rfl, rfl⟩
    rw [hbl]
    go_wp2_with fail
    refine (AA _ p1).mono ?_
    intro e w6 hf
    simp only [Atts] at hf
    obtain ⟨b, rfl, hf2⟩ := id hf
    go_wp2
    refine ⟨rfl, ?_⟩
    rw [HC.out]
    exact Flt.after (CH _ p1) hf
  have hlo := attrs_ok ha hok
  rw [ha] at AA HC
  simp only [and_ok] at HC
  clear ha hok
  rw [List.length_drop] at hlo
  go_enter Tryz.func44, Tryz.ntmps44
  go_wp2_with fail
  refine AT0.mono ?_
  rintro e w1 ⟨rfl, p1⟩
  have c0 := (h.pur p1).c0
  have c1 := (h.pur p1).c1
  have f1 := (h.pur p1).f 1
  rw [hcv] at c0
  have c5 := CE _ p1
  go_wp2_with fail
  refine (blank_any (x : Int) _ (by omega)).mono ?_
  rintro e w2 ⟨rfl, rfl⟩
  rw [hbl]
  go_wp2_with fail
  refine (AA _ p1).mono ?_
  rintro e w3 ⟨av, rfl, ⟨j, e1, e2, e4, h3, g3⟩, hv⟩
  simp only at e1 e2 e4 h3
  have G3 := (CH _ p1).trans g3
  rw [← e1] at HC
  have ATq : ∀ w', Pur w3 w' → _ := fun w' hp => at_any (h3.pur hp) [63, 62] e4 (by decide)
  simp only [Sd.rest, show nats [63, 62] = [63, 62] from rfl] at ATq
  obtain ⟨ava, avc, hvs⟩ := row_shape hv
  subst hvs
  have hfg := hB.foldg
  have hF3 : FoldW w3 := hB.foldw.chg G3 (fun hm => hfg (by simp at hm; rw [hm]; simp [Pl.all]))
  have RC : ∀ w' k, Pur w3 w' → ∀ a, l[k]? = some a → ∃ g, ava = some ⟨g, 0, none⟩ ∧ w'.cell? ⟨g, 4 * k, none⟩ = some (.string ⟨(narrow a.nm).toArray⟩) ∧ w'.cell? ⟨g, 4 * k + 1, none⟩ = some (.string ⟨(narrow a.val).toArray⟩) := fun w' k hp a hk => by
    have hkl : k < l.length := (List.getElem?_eq_some_iff.1 hk).1
    obtain ⟨g, c2, e2, _, hg, _, hc⟩ := row_at (row_pur hv hp) (by omega)
    cases e2
    refine ⟨g, rfl, (hc (4 * k) _ ?_).1, (hc (4 * k + 1) _ ?_).1⟩
    · have := attr_cells (l.map (Attr.fin d.cs)) k 0 (a.fin d.cs) (by rw [List.getElem?_map, hk]; rfl) (by decide)
      rw [Nat.add_zero] at this
      rw [this]; rfl
    · rw [attr_cells (l.map (Attr.fin d.cs)) k 1 (a.fin d.cs) (by rw [List.getElem?_map, hk]; rfl) (by decide)]; rfl
  clear AA CE HA CH W0 AT0 c0 c5 c1 f1 e1 hbl g3 h6 h6'
  go_upto_region 3 with (fail)
  go_cut [3] from 31 to 51 (fun o wx => o = .bool (dA l && pre [63, 62] (d.cs.drop j)) ∧ Pur w3 wx)
  case first =>
    clear HC
    rcases l with _ | ⟨a, l⟩
    · go_wp2
      go_meet
      exact ⟨rfl, Pur.refl _⟩
    · obtain ⟨g, hg, x0, x1⟩ := RC w3 0 (Pur.refl _) a rfl
      subst hg
      have hll : (0 : Int) < ((a :: l).length : Int) := by simp
      obtain ⟨bV, hV⟩ : ∃ b, (narrow a.nm == [118, 101, 114, 115, 105, 111, 110]) = b := ⟨_, rfl⟩
      obtain ⟨bX, hX⟩ : ∃ b, (narrow a.val == [49, 46, 48]) = b := ⟨_, rfl⟩
      have hd : dA (a :: l) = (bV && bX) := by simp only [dA, hV, hX]
      rcases bV with _ | _
      · go_wp2
        go_meet
        exact ⟨by rw [hd]; rfl, Pur.refl _⟩
      rcases bX with _ | _
      · go_wp2
        go_meet
        exact ⟨by rw [hd]; rfl, Pur.refl _⟩
      go_wp2_with fail
      refine (ATq _ (Pur.refl _)).mono ?_
      rintro e w4 ⟨rfl, p4⟩
      go_wp2
      go_meet
      exact ⟨by rw [hd]; rfl, p4⟩
  case rest =>
  obtain ⟨rfl, p4⟩ := hcut
  rw [decl_eq l _ hlo] at HC
  obtain ⟨ok, hok⟩ : ∃ b, (dA l && pre [63, 62] (d.cs.drop j)) = b := ⟨_, rfl⟩
  have hj2 : ok = true → j + 2 ≤ d.cs.length := fun e => by
    rw [e] at hok
    have := pre_len (Bool.and_eq_true _ _ ▸ hok).2
    rw [List.length_drop] at this
    simp only [List.length_cons, List.length_nil] at this
    omega
  rw [hok] at HC ⊢
  clear hok ATq
  have FL : ∀ w', Pur w3 w' → Calls Tryz.prog 52 #[.pointer (some ⟨p.s, 0, none⟩), .int .i64 0, .int .i64 21] w' fun e w'' => Flt [p.s] w' d.cs 0 21 e w'' := fun w' hp => fail_any (h3.pur hp) [p.s] 0 21 (by omega)
  have FO : ∀ b, b ∈ l → ∀ w', Pur w3 w' → Calls Tryz.prog 80 #[.string ⟨(narrow b.val).toArray⟩, .string ⟨#[85, 84, 70, 45, 56]⟩] w' fun e w'' => e = .returned (.bool (foldU b.val)) ∧ Pur w' w'' := fun b hb w' hp => fold_any2 b.val [85, 84, 70, 45, 56] w' (hF3.pur hp) (hlo b hb).2.1 utf_plain (by have := (hlo b hb).2.2; omega) (by decide)
  have hcap : 0 < l.length → l.length ≤ avc := fun hn => by
    obtain ⟨g', c', e, -, -, hc, -⟩ := row_at hv hn
    cases e
    exact hc
  clear hlo hF3 hfg
  rcases l with _ | ⟨a, _ | ⟨b, m⟩⟩
  · rcases ok with _ | _
    · have hmn : min (1 : Int) 0 = 0 := by decide
      have hde : dE false (([] : List Attr).drop 1) = false := by simp only [List.drop_succ_cons, List.drop_zero, List.drop_nil, dE, dS, Bool.and_true, Bool.true_and, Bool.false_and, Bool.and_false, Bool.or_true, Bool.true_or, Bool.or_false, Bool.false_or, if_true, if_false, Bool.false_eq_true, List.isEmpty_nil, List.isEmpty_cons, ite_self]
      rw [hde] at HC
      simp only [Bool.false_eq_true, if_false, if_true] at HC
      have HE := HC
      clear HC hde
      go_wp2_with fail
      all_goals
        refine (FL _ p4).mono ?_
        intro e w6 hf
        obtain ⟨b6, rfl, hf2⟩ := id hf
        go_wp2
        refine ⟨rfl, ?_⟩
        rw [HE.out]
        simp only [Gives]
        rw [Nat.sub_self]
        exact Flt.after (G3.pur p4) hf
    · have hmn : min (1 : Int) 0 = 0 := by decide
      have hde : dE true (([] : List Attr).drop 1) = true := by simp only [List.drop_succ_cons, List.drop_zero, List.drop_nil, dE, dS, Bool.and_true, Bool.true_and, Bool.false_and, Bool.and_false, Bool.or_true, Bool.true_or, Bool.or_false, Bool.false_or, if_true, if_false, Bool.false_eq_true, List.isEmpty_nil, List.isEmpty_cons, ite_self]
      rw [hde] at HC
      simp only [Bool.false_eq_true, if_false, if_true] at HC
      have HE := HC
      clear HC hde
      have j2 := hj2 (by trivial)
      have c1 := (h3.pur p4).c1
      have f1 := (h3.pur p4).f 1
      have wj : IntKind.i64.wrap ((j : Int) + 2) = (j : Int) + 2 := IntWalk.i64_in _ (by omega)
      have h9 := (h3.pur p4).seti (j + 2) ((j : Int) + 2) (by omega)
      simp only at c1
      go_wp2
      all_goals
        refine bodyPost_end (results_none rfl _ _ _) rfl ?_
        rw [HE.out]
        exact ⟨rfl, j + 2, by rw [List.drop_drop], by omega, j2, h9, (G3.pur p4).setCell (.inl (by simp)) _⟩
  · rcases ok with _ | _
    · obtain ⟨g, hg, x0a, x0b⟩ := RC _ 0 p4 a rfl
      simp only [Nat.reduceMul, Nat.reduceAdd] at x0a x0b
      subst hg
      have hmn : min (1 : Int) 1 = 1 := by decide
      have hde : dE false ([a].drop 1) = false := by simp only [List.drop_succ_cons, List.drop_zero, List.drop_nil, dE, dS, Bool.and_true, Bool.true_and, Bool.false_and, Bool.and_false, Bool.or_true, Bool.true_or, Bool.or_false, Bool.false_or, if_true, if_false, Bool.false_eq_true, List.isEmpty_nil, List.isEmpty_cons, ite_self]
      rw [hde] at HC
      simp only [Bool.false_eq_true, if_false, if_true] at HC
      have HE := HC
      clear HC hde
      go_wp2_with fail
      all_goals
        refine (FL _ p4).mono ?_
        intro e w6 hf
        obtain ⟨b6, rfl, hf2⟩ := id hf
        go_wp2
        refine ⟨rfl, ?_⟩
        rw [HE.out]
        simp only [Gives]
        rw [Nat.sub_self]
        exact Flt.after (G3.pur p4) hf
    · obtain ⟨g, hg, x0a, x0b⟩ := RC _ 0 p4 a rfl
      simp only [Nat.reduceMul, Nat.reduceAdd] at x0a x0b
      subst hg
      have hmn : min (1 : Int) 1 = 1 := by decide
      have hde : dE true ([a].drop 1) = true := by simp only [List.drop_succ_cons, List.drop_zero, List.drop_nil, dE, dS, Bool.and_true, Bool.true_and, Bool.false_and, Bool.and_false, Bool.or_true, Bool.true_or, Bool.or_false, Bool.false_or, if_true, if_false, Bool.false_eq_true, List.isEmpty_nil, List.isEmpty_cons, ite_self]
      rw [hde] at HC
      simp only [Bool.false_eq_true, if_false, if_true] at HC
      have HE := HC
      clear HC hde
      have j2 := hj2 (by trivial)
      have c1 := (h3.pur p4).c1
      have f1 := (h3.pur p4).f 1
      have wj : IntKind.i64.wrap ((j : Int) + 2) = (j : Int) + 2 := IntWalk.i64_in _ (by omega)
      have h9 := (h3.pur p4).seti (j + 2) ((j : Int) + 2) (by omega)
      simp only at c1
      go_wp2
      all_goals
        refine bodyPost_end (results_none rfl _ _ _) rfl ?_
        rw [HE.out]
        exact ⟨rfl, j + 2, by rw [List.drop_drop], by omega, j2, h9, (G3.pur p4).setCell (.inl (by simp)) _⟩
  · replace hcap : m.length + 2 ≤ avc := hcap (by simp)
    have hc1 : ¬ avc = 1 := by omega
    have hm2 : min (1 : Int) 2 = 1 := by decide
    have hm3 : min (1 : Int) 3 = 1 := by decide
    obtain ⟨g, hg, x1a, x1b⟩ := RC _ 1 p4 b rfl
    simp only [Nat.reduceMul, Nat.reduceAdd] at x1a x1b
    subst hg
    obtain ⟨bE, hbE⟩ : ∃ z, (narrow b.nm == [101, 110, 99, 111, 100, 105, 110, 103]) = z := ⟨_, rfl⟩
    rcases bE with _ | _
    · rcases m with _ | ⟨c, m⟩
      · clear hcap
        rcases ok with _ | _
        · obtain ⟨bS, hbS⟩ : ∃ z, (narrow b.nm == [115, 116, 97, 110, 100, 97, 108, 111, 110, 101]) = z := ⟨_, rfl⟩
          rcases bS with _ | _
          · have hde : dE false ([a, b].drop 1) = false := by simp only [List.drop_succ_cons, List.drop_zero, List.drop_nil, dE, dS, hbE, hbS, Bool.and_true, Bool.true_and, Bool.false_and, Bool.and_false, Bool.or_true, Bool.true_or, Bool.or_false, Bool.false_or, if_true, if_false, Bool.false_eq_true, List.isEmpty_nil, List.isEmpty_cons, ite_self]
            rw [hde] at HC
            simp only [Bool.false_eq_true, if_false, if_true] at HC
            have HE := HC
            clear HC hde
            go_wp2_with fail
            all_goals
              refine (FL _ p4).mono ?_
              intro e w6 hf
              obtain ⟨b6, rfl, hf2⟩ := id hf
              go_wp2
              refine ⟨rfl, ?_⟩
              rw [HE.out]
              simp only [Gives]
              rw [Nat.sub_self]
              exact Flt.after (G3.pur p4) hf
          · have hde : dE false ([a, b].drop 1) = false := by simp only [List.drop_succ_cons, List.drop_zero, List.drop_nil, dE, dS, hbE, hbS, Bool.and_true, Bool.true_and, Bool.false_and, Bool.and_false, Bool.or_true, Bool.true_or, Bool.or_false, Bool.false_or, if_true, if_false, Bool.false_eq_true, List.isEmpty_nil, List.isEmpty_cons, ite_self]
            rw [hde] at HC
            simp only [Bool.false_eq_true, if_false, if_true] at HC
            have HE := HC
            clear HC hde
            go_wp2_with fail
            all_goals
              refine (FL _ p4).mono ?_
              intro e w6 hf
              obtain ⟨b6, rfl, hf2⟩ := id hf
              go_wp2
              refine ⟨rfl, ?_⟩
              rw [HE.out]
              simp only [Gives]
              rw [Nat.sub_self]
              exact Flt.after (G3.pur p4) hf
        · obtain ⟨bS, hbS⟩ : ∃ z, (narrow b.nm == [115, 116, 97, 110, 100, 97, 108, 111, 110, 101]) = z := ⟨_, rfl⟩
          rcases bS with _ | _
          · have hde : dE true ([a, b].drop 1) = false := by simp only [List.drop_succ_cons, List.drop_zero, List.drop_nil, dE, dS, hbE, hbS, Bool.and_true, Bool.true_and, Bool.false_and, Bool.and_false, Bool.or_true, Bool.true_or, Bool.or_false, Bool.false_or, if_true, if_false, Bool.false_eq_true, List.isEmpty_nil, List.isEmpty_cons, ite_self]
            rw [hde] at HC
            simp only [Bool.false_eq_true, if_false, if_true] at HC
            have HE := HC
            clear HC hde
            go_wp2_with fail
            all_goals
              refine (FL _ p4).mono ?_
              intro e w6 hf
              obtain ⟨b6, rfl, hf2⟩ := id hf
              go_wp2
              refine ⟨rfl, ?_⟩
              rw [HE.out]
              simp only [Gives]
              rw [Nat.sub_self]
              exact Flt.after (G3.pur p4) hf
          · obtain ⟨bY, hbY⟩ : ∃ z, (narrow b.val == [121, 101, 115]) = z := ⟨_, rfl⟩
            rcases bY with _ | _
            · obtain ⟨bN, hbN⟩ : ∃ z, (narrow b.val == [110, 111]) = z := ⟨_, rfl⟩
              rcases bN with _ | _
              · have hde : dE true ([a, b].drop 1) = false := by simp only [List.drop_succ_cons, List.drop_zero, List.drop_nil, dE, dS, hbE, hbS, hbY, hbN, Bool.and_true, Bool.true_and, Bool.false_and, Bool.and_false, Bool.or_true, Bool.true_or, Bool.or_false, Bool.false_or, if_true, if_false, Bool.false_eq_true, List.isEmpty_nil, List.isEmpty_cons, ite_self]
                rw [hde] at HC
                simp only [Bool.false_eq_true, if_false, if_true] at HC
                have HE := HC
                clear HC hde
                go_wp2_with fail
                all_goals
                  refine (FL _ p4).mono ?_
                  intro e w6 hf
                  obtain ⟨b6, rfl, hf2⟩ := id hf
                  go_wp2
                  refine ⟨rfl, ?_⟩
                  rw [HE.out]
                  simp only [Gives]
                  rw [Nat.sub_self]
                  exact Flt.after (G3.pur p4) hf
              · have hde : dE true ([a, b].drop 1) = true := by simp only [List.drop_succ_cons, List.drop_zero, List.drop_nil, dE, dS, hbE, hbS, hbY, hbN, Bool.and_true, Bool.true_and, Bool.false_and, Bool.and_false, Bool.or_true, Bool.true_or, Bool.or_false, Bool.false_or, if_true, if_false, Bool.false_eq_true, List.isEmpty_nil, List.isEmpty_cons, ite_self]
                rw [hde] at HC
                simp only [Bool.false_eq_true, if_false, if_true] at HC
                have HE := HC
                clear HC hde
                have j2 := hj2 (by trivial)
                have c1 := (h3.pur p4).c1
                have f1 := (h3.pur p4).f 1
                have wj : IntKind.i64.wrap ((j : Int) + 2) = (j : Int) + 2 := IntWalk.i64_in _ (by omega)
                have h9 := (h3.pur p4).seti (j + 2) ((j : Int) + 2) (by omega)
                simp only at c1
                go_wp2
                all_goals
                  refine bodyPost_end (results_none rfl _ _ _) rfl ?_
                  rw [HE.out]
                  exact ⟨rfl, j + 2, by rw [List.drop_drop], by omega, j2, h9, (G3.pur p4).setCell (.inl (by simp)) _⟩
            · have hde : dE true ([a, b].drop 1) = true := by simp only [List.drop_succ_cons, List.drop_zero, List.drop_nil, dE, dS, hbE, hbS, hbY, Bool.and_true, Bool.true_and, Bool.false_and, Bool.and_false, Bool.or_true, Bool.true_or, Bool.or_false, Bool.false_or, if_true, if_false, Bool.false_eq_true, List.isEmpty_nil, List.isEmpty_cons, ite_self]
              rw [hde] at HC
              simp only [Bool.false_eq_true, if_false, if_true] at HC
              have HE := HC
              clear HC hde
              have j2 := hj2 (by trivial)
              have c1 := (h3.pur p4).c1
              have f1 := (h3.pur p4).f 1
              have wj : IntKind.i64.wrap ((j : Int) + 2) = (j : Int) + 2 := IntWalk.i64_in _ (by omega)
              have h9 := (h3.pur p4).seti (j + 2) ((j : Int) + 2) (by omega)
              simp only at c1
              go_wp2
              all_goals
                refine bodyPost_end (results_none rfl _ _ _) rfl ?_
                rw [HE.out]
                exact ⟨rfl, j + 2, by rw [List.drop_drop], by omega, j2, h9, (G3.pur p4).setCell (.inl (by simp)) _⟩
      · have hm4 : min (1 : Int) ((m.length : Int) + 1 + 1 + 1) = 1 := by omega
        have hm5 : min (1 : Int) ((m.length : Int) + 3) = 1 := by omega
        have hc2 : ¬ avc = 2 := by simp only [List.length_cons] at hcap; omega
        have hc3 : ¬ avc - 1 = 1 := by simp only [List.length_cons] at hcap; omega
        clear hcap
        rcases ok with _ | _
        · obtain ⟨bS, hbS⟩ : ∃ z, (narrow b.nm == [115, 116, 97, 110, 100, 97, 108, 111, 110, 101]) = z := ⟨_, rfl⟩
          rcases bS with _ | _
          · have hde : dE false ((a :: b :: c :: m).drop 1) = false := by simp only [List.drop_succ_cons, List.drop_zero, List.drop_nil, dE, dS, hbE, hbS, Bool.and_true, Bool.true_and, Bool.false_and, Bool.and_false, Bool.or_true, Bool.true_or, Bool.or_false, Bool.false_or, if_true, if_false, Bool.false_eq_true, List.isEmpty_nil, List.isEmpty_cons, ite_self]
            rw [hde] at HC
            simp only [Bool.false_eq_true, if_false, if_true] at HC
            have HE := HC
            clear HC hde
            go_wp2_with fail
            all_goals
              refine (FL _ p4).mono ?_
              intro e w6 hf
              obtain ⟨b6, rfl, hf2⟩ := id hf
              go_wp2
              refine ⟨rfl, ?_⟩
              rw [HE.out]
              simp only [Gives]
              rw [Nat.sub_self]
              exact Flt.after (G3.pur p4) hf
          · have hde : dE false ((a :: b :: c :: m).drop 1) = false := by simp only [List.drop_succ_cons, List.drop_zero, List.drop_nil, dE, dS, hbE, hbS, Bool.and_true, Bool.true_and, Bool.false_and, Bool.and_false, Bool.or_true, Bool.true_or, Bool.or_false, Bool.false_or, if_true, if_false, Bool.false_eq_true, List.isEmpty_nil, List.isEmpty_cons, ite_self]
            rw [hde] at HC
            simp only [Bool.false_eq_true, if_false, if_true] at HC
            have HE := HC
            clear HC hde
            go_wp2_with fail
            all_goals
              refine (FL _ p4).mono ?_
              intro e w6 hf
              obtain ⟨b6, rfl, hf2⟩ := id hf
              go_wp2
              refine ⟨rfl, ?_⟩
              rw [HE.out]
              simp only [Gives]
              rw [Nat.sub_self]
              exact Flt.after (G3.pur p4) hf
        · obtain ⟨bS, hbS⟩ : ∃ z, (narrow b.nm == [115, 116, 97, 110, 100, 97, 108, 111, 110, 101]) = z := ⟨_, rfl⟩
          rcases bS with _ | _
          · have hde : dE true ((a :: b :: c :: m).drop 1) = false := by simp only [List.drop_succ_cons, List.drop_zero, List.drop_nil, dE, dS, hbE, hbS, Bool.and_true, Bool.true_and, Bool.false_and, Bool.and_false, Bool.or_true, Bool.true_or, Bool.or_false, Bool.false_or, if_true, if_false, Bool.false_eq_true, List.isEmpty_nil, List.isEmpty_cons, ite_self]
            rw [hde] at HC
            simp only [Bool.false_eq_true, if_false, if_true] at HC
            have HE := HC
            clear HC hde
            go_wp2_with fail
            all_goals
              refine (FL _ p4).mono ?_
              intro e w6 hf
              obtain ⟨b6, rfl, hf2⟩ := id hf
              go_wp2
              refine ⟨rfl, ?_⟩
              rw [HE.out]
              simp only [Gives]
              rw [Nat.sub_self]
              exact Flt.after (G3.pur p4) hf
          · obtain ⟨bY, hbY⟩ : ∃ z, (narrow b.val == [121, 101, 115]) = z := ⟨_, rfl⟩
            rcases bY with _ | _
            · obtain ⟨bN, hbN⟩ : ∃ z, (narrow b.val == [110, 111]) = z := ⟨_, rfl⟩
              rcases bN with _ | _
              · have hde : dE true ((a :: b :: c :: m).drop 1) = false := by simp only [List.drop_succ_cons, List.drop_zero, List.drop_nil, dE, dS, hbE, hbS, hbY, hbN, Bool.and_true, Bool.true_and, Bool.false_and, Bool.and_false, Bool.or_true, Bool.true_or, Bool.or_false, Bool.false_or, if_true, if_false, Bool.false_eq_true, List.isEmpty_nil, List.isEmpty_cons, ite_self]
                rw [hde] at HC
                simp only [Bool.false_eq_true, if_false, if_true] at HC
                have HE := HC
                clear HC hde
                go_wp2_with fail
                all_goals
                  refine (FL _ p4).mono ?_
                  intro e w6 hf
                  obtain ⟨b6, rfl, hf2⟩ := id hf
                  go_wp2
                  refine ⟨rfl, ?_⟩
                  rw [HE.out]
                  simp only [Gives]
                  rw [Nat.sub_self]
                  exact Flt.after (G3.pur p4) hf
              · have hde : dE true ((a :: b :: c :: m).drop 1) = false := by simp only [List.drop_succ_cons, List.drop_zero, List.drop_nil, dE, dS, hbE, hbS, hbY, hbN, Bool.and_true, Bool.true_and, Bool.false_and, Bool.and_false, Bool.or_true, Bool.true_or, Bool.or_false, Bool.false_or, if_true, if_false, Bool.false_eq_true, List.isEmpty_nil, List.isEmpty_cons, ite_self]
                rw [hde] at HC
                simp only [Bool.false_eq_true, if_false, if_true] at HC
                have HE := HC
                clear HC hde
                go_wp2_with fail
                all_goals
                  refine (FL _ p4).mono ?_
                  intro e w6 hf
                  obtain ⟨b6, rfl, hf2⟩ := id hf
                  go_wp2
                  refine ⟨rfl, ?_⟩
                  rw [HE.out]
                  simp only [Gives]
                  rw [Nat.sub_self]
                  exact Flt.after (G3.pur p4) hf
            · have hde : dE true ((a :: b :: c :: m).drop 1) = false := by simp only [List.drop_succ_cons, List.drop_zero, List.drop_nil, dE, dS, hbE, hbS, hbY, Bool.and_true, Bool.true_and, Bool.false_and, Bool.and_false, Bool.or_true, Bool.true_or, Bool.or_false, Bool.false_or, if_true, if_false, Bool.false_eq_true, List.isEmpty_nil, List.isEmpty_cons, ite_self]
              rw [hde] at HC
              simp only [Bool.false_eq_true, if_false, if_true] at HC
              have HE := HC
              clear HC hde
              go_wp2_with fail
              all_goals
                refine (FL _ p4).mono ?_
                intro e w6 hf
                obtain ⟨b6, rfl, hf2⟩ := id hf
                go_wp2
                refine ⟨rfl, ?_⟩
                rw [HE.out]
                simp only [Gives]
                rw [Nat.sub_self]
                exact Flt.after (G3.pur p4) hf
    · rcases m with _ | ⟨c, _ | ⟨c2, m⟩⟩
      · clear hcap
        rcases ok with _ | _
        · have hde : dE false ([a, b].drop 1) = false := by simp only [List.drop_succ_cons, List.drop_zero, List.drop_nil, dE, dS, hbE, Bool.and_true, Bool.true_and, Bool.false_and, Bool.and_false, Bool.or_true, Bool.true_or, Bool.or_false, Bool.false_or, if_true, if_false, Bool.false_eq_true, List.isEmpty_nil, List.isEmpty_cons, ite_self]
          rw [hde] at HC
          simp only [Bool.false_eq_true, if_false, if_true] at HC
          have HE := HC
          clear HC hde
          go_wp2_with fail
          all_goals
            refine (FL _ p4).mono ?_
            intro e w6 hf
            obtain ⟨b6, rfl, hf2⟩ := id hf
            go_wp2
            refine ⟨rfl, ?_⟩
            rw [HE.out]
            simp only [Gives]
            rw [Nat.sub_self]
            exact Flt.after (G3.pur p4) hf
        · have FB := FO b (by simp)
          obtain ⟨bF, hbF⟩ : ∃ z, foldU b.val = z := ⟨_, rfl⟩
          rcases bF with _ | _
          · rw [hbF] at FB
            go_wp2_with fail
            refine (FB _ p4).mono ?_
            rintro e w5 ⟨rfl, p5⟩
            have P5 := p4.trans p5
            have hde : dE true ([a, b].drop 1) = false := by simp only [List.drop_succ_cons, List.drop_zero, List.drop_nil, dE, dS, hbE, hbF, Bool.and_true, Bool.true_and, Bool.false_and, Bool.and_false, Bool.or_true, Bool.true_or, Bool.or_false, Bool.false_or, if_true, if_false, Bool.false_eq_true, List.isEmpty_nil, List.isEmpty_cons, ite_self]
            rw [hde] at HC
            simp only [Bool.false_eq_true, if_false, if_true] at HC
            have HE := HC
            clear HC hde
            go_wp2_with fail
            all_goals
              refine (FL _ P5).mono ?_
              intro e w6 hf
              obtain ⟨b6, rfl, hf2⟩ := id hf
              go_wp2
              refine ⟨rfl, ?_⟩
              rw [HE.out]
              simp only [Gives]
              rw [Nat.sub_self]
              exact Flt.after (G3.pur P5) hf
          · rw [hbF] at FB
            go_wp2_with fail
            refine (FB _ p4).mono ?_
            rintro e w5 ⟨rfl, p5⟩
            have P5 := p4.trans p5
            have hde : dE true ([a, b].drop 1) = true := by simp only [List.drop_succ_cons, List.drop_zero, List.drop_nil, dE, dS, hbE, hbF, Bool.and_true, Bool.true_and, Bool.false_and, Bool.and_false, Bool.or_true, Bool.true_or, Bool.or_false, Bool.false_or, if_true, if_false, Bool.false_eq_true, List.isEmpty_nil, List.isEmpty_cons, ite_self]
            rw [hde] at HC
            simp only [Bool.false_eq_true, if_false, if_true] at HC
            have HE := HC
            clear HC hde
            have j2 := hj2 (by trivial)
            have c1 := (h3.pur P5).c1
            have f1 := (h3.pur P5).f 1
            have wj : IntKind.i64.wrap ((j : Int) + 2) = (j : Int) + 2 := IntWalk.i64_in _ (by omega)
            have h9 := (h3.pur P5).seti (j + 2) ((j : Int) + 2) (by omega)
            simp only at c1
            go_wp2
            all_goals
              refine bodyPost_end (results_none rfl _ _ _) rfl ?_
              rw [HE.out]
              exact ⟨rfl, j + 2, by rw [List.drop_drop], by omega, j2, h9, (G3.pur P5).setCell (.inl (by simp)) _⟩
      · obtain ⟨g2, hg2, x2a, x2b⟩ := RC _ 2 p4 c rfl
        simp only [Nat.reduceMul, Nat.reduceAdd] at x2a x2b
        cases hg2
        have hc2 : ¬ avc = 2 := by simp only [List.length_cons, List.length_nil] at hcap; omega
        have hc3 : ¬ avc - 1 = 1 := by simp only [List.length_cons, List.length_nil] at hcap; omega
        clear hcap
        rcases ok with _ | _
        · obtain ⟨bS, hbS⟩ : ∃ z, (narrow c.nm == [115, 116, 97, 110, 100, 97, 108, 111, 110, 101]) = z := ⟨_, rfl⟩
          rcases bS with _ | _
          · have hde : dE false ([a, b, c].drop 1) = false := by simp only [List.drop_succ_cons, List.drop_zero, List.drop_nil, dE, dS, hbE, hbS, Bool.and_true, Bool.true_and, Bool.false_and, Bool.and_false, Bool.or_true, Bool.true_or, Bool.or_false, Bool.false_or, if_true, if_false, Bool.false_eq_true, List.isEmpty_nil, List.isEmpty_cons, ite_self]
            rw [hde] at HC
            simp only [Bool.false_eq_true, if_false, if_true] at HC
            have HE := HC
            clear HC hde
            go_wp2_with fail
            all_goals
              refine (FL _ p4).mono ?_
              intro e w6 hf
              obtain ⟨b6, rfl, hf2⟩ := id hf
              go_wp2
              refine ⟨rfl, ?_⟩
              rw [HE.out]
              simp only [Gives]
              rw [Nat.sub_self]
              exact Flt.after (G3.pur p4) hf
          · have hde : dE false ([a, b, c].drop 1) = false := by simp only [List.drop_succ_cons, List.drop_zero, List.drop_nil, dE, dS, hbE, hbS, Bool.and_true, Bool.true_and, Bool.false_and, Bool.and_false, Bool.or_true, Bool.true_or, Bool.or_false, Bool.false_or, if_true, if_false, Bool.false_eq_true, List.isEmpty_nil, List.isEmpty_cons, ite_self]
            rw [hde] at HC
            simp only [Bool.false_eq_true, if_false, if_true] at HC
            have HE := HC
            clear HC hde
            go_wp2_with fail
            all_goals
              refine (FL _ p4).mono ?_
              intro e w6 hf
              obtain ⟨b6, rfl, hf2⟩ := id hf
              go_wp2
              refine ⟨rfl, ?_⟩
              rw [HE.out]
              simp only [Gives]
              rw [Nat.sub_self]
              exact Flt.after (G3.pur p4) hf
        · have FB := FO b (by simp)
          obtain ⟨bF, hbF⟩ : ∃ z, foldU b.val = z := ⟨_, rfl⟩
          rcases bF with _ | _
          · rw [hbF] at FB
            go_wp2_with fail
            refine (FB _ p4).mono ?_
            rintro e w5 ⟨rfl, p5⟩
            have P5 := p4.trans p5
            obtain ⟨g5, hg5, y2a, y2b⟩ := RC _ 2 P5 c rfl
            simp only [Nat.reduceMul, Nat.reduceAdd] at y2a y2b
            cases hg5
            obtain ⟨bS, hbS⟩ : ∃ z, (narrow c.nm == [115, 116, 97, 110, 100, 97, 108, 111, 110, 101]) = z := ⟨_, rfl⟩
            rcases bS with _ | _
            · have hde : dE true ([a, b, c].drop 1) = false := by simp only [List.drop_succ_cons, List.drop_zero, List.drop_nil, dE, dS, hbE, hbF, hbS, Bool.and_true, Bool.true_and, Bool.false_and, Bool.and_false, Bool.or_true, Bool.true_or, Bool.or_false, Bool.false_or, if_true, if_false, Bool.false_eq_true, List.isEmpty_nil, List.isEmpty_cons, ite_self]
              rw [hde] at HC
              simp only [Bool.false_eq_true, if_false, if_true] at HC
              have HE := HC
              clear HC hde
              go_wp2_with fail
              all_goals
                refine (FL _ P5).mono ?_
                intro e w6 hf
                obtain ⟨b6, rfl, hf2⟩ := id hf
                go_wp2
                refine ⟨rfl, ?_⟩
                rw [HE.out]
                simp only [Gives]
                rw [Nat.sub_self]
                exact Flt.after (G3.pur P5) hf
            · have hde : dE true ([a, b, c].drop 1) = false := by simp only [List.drop_succ_cons, List.drop_zero, List.drop_nil, dE, dS, hbE, hbF, hbS, Bool.and_true, Bool.true_and, Bool.false_and, Bool.and_false, Bool.or_true, Bool.true_or, Bool.or_false, Bool.false_or, if_true, if_false, Bool.false_eq_true, List.isEmpty_nil, List.isEmpty_cons, ite_self]
              rw [hde] at HC
              simp only [Bool.false_eq_true, if_false, if_true] at HC
              have HE := HC
              clear HC hde
              go_wp2_with fail
              all_goals
                refine (FL _ P5).mono ?_
                intro e w6 hf
                obtain ⟨b6, rfl, hf2⟩ := id hf
                go_wp2
                refine ⟨rfl, ?_⟩
                rw [HE.out]
                simp only [Gives]
                rw [Nat.sub_self]
                exact Flt.after (G3.pur P5) hf
          · rw [hbF] at FB
            go_wp2_with fail
            refine (FB _ p4).mono ?_
            rintro e w5 ⟨rfl, p5⟩
            have P5 := p4.trans p5
            obtain ⟨g5, hg5, y2a, y2b⟩ := RC _ 2 P5 c rfl
            simp only [Nat.reduceMul, Nat.reduceAdd] at y2a y2b
            cases hg5
            obtain ⟨bS, hbS⟩ : ∃ z, (narrow c.nm == [115, 116, 97, 110, 100, 97, 108, 111, 110, 101]) = z := ⟨_, rfl⟩
            rcases bS with _ | _
            · have hde : dE true ([a, b, c].drop 1) = false := by simp only [List.drop_succ_cons, List.drop_zero, List.drop_nil, dE, dS, hbE, hbF, hbS, Bool.and_true, Bool.true_and, Bool.false_and, Bool.and_false, Bool.or_true, Bool.true_or, Bool.or_false, Bool.false_or, if_true, if_false, Bool.false_eq_true, List.isEmpty_nil, List.isEmpty_cons, ite_self]
              rw [hde] at HC
              simp only [Bool.false_eq_true, if_false, if_true] at HC
              have HE := HC
              clear HC hde
              go_wp2_with fail
              all_goals
                refine (FL _ P5).mono ?_
                intro e w6 hf
                obtain ⟨b6, rfl, hf2⟩ := id hf
                go_wp2
                refine ⟨rfl, ?_⟩
                rw [HE.out]
                simp only [Gives]
                rw [Nat.sub_self]
                exact Flt.after (G3.pur P5) hf
            · obtain ⟨bY, hbY⟩ : ∃ z, (narrow c.val == [121, 101, 115]) = z := ⟨_, rfl⟩
              rcases bY with _ | _
              · obtain ⟨bN, hbN⟩ : ∃ z, (narrow c.val == [110, 111]) = z := ⟨_, rfl⟩
                rcases bN with _ | _
                · have hde : dE true ([a, b, c].drop 1) = false := by simp only [List.drop_succ_cons, List.drop_zero, List.drop_nil, dE, dS, hbE, hbF, hbS, hbY, hbN, Bool.and_true, Bool.true_and, Bool.false_and, Bool.and_false, Bool.or_true, Bool.true_or, Bool.or_false, Bool.false_or, if_true, if_false, Bool.false_eq_true, List.isEmpty_nil, List.isEmpty_cons, ite_self]
                  rw [hde] at HC
                  simp only [Bool.false_eq_true, if_false, if_true] at HC
                  have HE := HC
                  clear HC hde
                  go_wp2_with fail
                  all_goals
                    refine (FL _ P5).mono ?_
                    intro e w6 hf
                    obtain ⟨b6, rfl, hf2⟩ := id hf
                    go_wp2
                    refine ⟨rfl, ?_⟩
                    rw [HE.out]
                    simp only [Gives]
                    rw [Nat.sub_self]
                    exact Flt.after (G3.pur P5) hf
                · have hde : dE true ([a, b, c].drop 1) = true := by simp only [List.drop_succ_cons, List.drop_zero, List.drop_nil, dE, dS, hbE, hbF, hbS, hbY, hbN, Bool.and_true, Bool.true_and, Bool.false_and, Bool.and_false, Bool.or_true, Bool.true_or, Bool.or_false, Bool.false_or, if_true, if_false, Bool.false_eq_true, List.isEmpty_nil, List.isEmpty_cons, ite_self]
                  rw [hde] at HC
                  simp only [Bool.false_eq_true, if_false, if_true] at HC
                  have HE := HC
                  clear HC hde
                  have j2 := hj2 (by trivial)
                  have c1 := (h3.pur P5).c1
                  have f1 := (h3.pur P5).f 1
                  have wj : IntKind.i64.wrap ((j : Int) + 2) = (j : Int) + 2 := IntWalk.i64_in _ (by omega)
                  have h9 := (h3.pur P5).seti (j + 2) ((j : Int) + 2) (by omega)
                  simp only at c1
                  go_wp2
                  all_goals
                    refine bodyPost_end (results_none rfl _ _ _) rfl ?_
                    rw [HE.out]
                    exact ⟨rfl, j + 2, by rw [List.drop_drop], by omega, j2, h9, (G3.pur P5).setCell (.inl (by simp)) _⟩
              · have hde : dE true ([a, b, c].drop 1) = true := by simp only [List.drop_succ_cons, List.drop_zero, List.drop_nil, dE, dS, hbE, hbF, hbS, hbY, Bool.and_true, Bool.true_and, Bool.false_and, Bool.and_false, Bool.or_true, Bool.true_or, Bool.or_false, Bool.false_or, if_true, if_false, Bool.false_eq_true, List.isEmpty_nil, List.isEmpty_cons, ite_self]
                rw [hde] at HC
                simp only [Bool.false_eq_true, if_false, if_true] at HC
                have HE := HC
                clear HC hde
                have j2 := hj2 (by trivial)
                have c1 := (h3.pur P5).c1
                have f1 := (h3.pur P5).f 1
                have wj : IntKind.i64.wrap ((j : Int) + 2) = (j : Int) + 2 := IntWalk.i64_in _ (by omega)
                have h9 := (h3.pur P5).seti (j + 2) ((j : Int) + 2) (by omega)
                simp only at c1
                go_wp2
                all_goals
                  refine bodyPost_end (results_none rfl _ _ _) rfl ?_
                  rw [HE.out]
                  exact ⟨rfl, j + 2, by rw [List.drop_drop], by omega, j2, h9, (G3.pur P5).setCell (.inl (by simp)) _⟩
      · obtain ⟨g2, hg2, x2a, x2b⟩ := RC _ 2 p4 c rfl
        simp only [Nat.reduceMul, Nat.reduceAdd] at x2a x2b
        cases hg2
        have hm4 : min (1 : Int) ((m.length : Int) + 1 + 1 + 1 + 1) = 1 := by omega
        have hm5 : min (1 : Int) ((m.length : Int) + 4) = 1 := by omega
        have hc2 : ¬ avc = 2 := by simp only [List.length_cons, List.length_nil] at hcap; omega
        have hc3 : ¬ avc - 1 = 1 := by simp only [List.length_cons, List.length_nil] at hcap; omega
        clear hcap
        rcases ok with _ | _
        · obtain ⟨bS, hbS⟩ : ∃ z, (narrow c.nm == [115, 116, 97, 110, 100, 97, 108, 111, 110, 101]) = z := ⟨_, rfl⟩
          rcases bS with _ | _
          · have hde : dE false ((a :: b :: c :: c2 :: m).drop 1) = false := by simp only [List.drop_succ_cons, List.drop_zero, List.drop_nil, dE, dS, hbE, hbS, Bool.and_true, Bool.true_and, Bool.false_and, Bool.and_false, Bool.or_true, Bool.true_or, Bool.or_false, Bool.false_or, if_true, if_false, Bool.false_eq_true, List.isEmpty_nil, List.isEmpty_cons, ite_self]
            rw [hde] at HC
            simp only [Bool.false_eq_true, if_false, if_true] at HC
            have HE := HC
            clear HC hde
            go_wp2_with fail
            all_goals
              refine (FL _ p4).mono ?_
              intro e w6 hf
              obtain ⟨b6, rfl, hf2⟩ := id hf
              go_wp2
              refine ⟨rfl, ?_⟩
              rw [HE.out]
              simp only [Gives]
              rw [Nat.sub_self]
              exact Flt.after (G3.pur p4) hf
          · have hde : dE false ((a :: b :: c :: c2 :: m).drop 1) = false := by simp only [List.drop_succ_cons, List.drop_zero, List.drop_nil, dE, dS, hbE, hbS, Bool.and_true, Bool.true_and, Bool.false_and, Bool.and_false, Bool.or_true, Bool.true_or, Bool.or_false, Bool.false_or, if_true, if_false, Bool.false_eq_true, List.isEmpty_nil, List.isEmpty_cons, ite_self]
            rw [hde] at HC
            simp only [Bool.false_eq_true, if_false, if_true] at HC
            have HE := HC
            clear HC hde
            go_wp2_with fail
            all_goals
              refine (FL _ p4).mono ?_
              intro e w6 hf
              obtain ⟨b6, rfl, hf2⟩ := id hf
              go_wp2
              refine ⟨rfl, ?_⟩
              rw [HE.out]
              simp only [Gives]
              rw [Nat.sub_self]
              exact Flt.after (G3.pur p4) hf
        · have FB := FO b (by simp)
          obtain ⟨bF, hbF⟩ : ∃ z, foldU b.val = z := ⟨_, rfl⟩
          rcases bF with _ | _
          · rw [hbF] at FB
            go_wp2_with fail
            refine (FB _ p4).mono ?_
            rintro e w5 ⟨rfl, p5⟩
            have P5 := p4.trans p5
            obtain ⟨g5, hg5, y2a, y2b⟩ := RC _ 2 P5 c rfl
            simp only [Nat.reduceMul, Nat.reduceAdd] at y2a y2b
            cases hg5
            obtain ⟨bS, hbS⟩ : ∃ z, (narrow c.nm == [115, 116, 97, 110, 100, 97, 108, 111, 110, 101]) = z := ⟨_, rfl⟩
            rcases bS with _ | _
            · have hde : dE true ((a :: b :: c :: c2 :: m).drop 1) = false := by simp only [List.drop_succ_cons, List.drop_zero, List.drop_nil, dE, dS, hbE, hbF, hbS, Bool.and_true, Bool.true_and, Bool.false_and, Bool.and_false, Bool.or_true, Bool.true_or, Bool.or_false, Bool.false_or, if_true, if_false, Bool.false_eq_true, List.isEmpty_nil, List.isEmpty_cons, ite_self]
              rw [hde] at HC
              simp only [Bool.false_eq_true, if_false, if_true] at HC
              have HE := HC
              clear HC hde
              go_wp2_with fail
              all_goals
                refine (FL _ P5).mono ?_
                intro e w6 hf
                obtain ⟨b6, rfl, hf2⟩ := id hf
                go_wp2
                refine ⟨rfl, ?_⟩
                rw [HE.out]
                simp only [Gives]
                rw [Nat.sub_self]
                exact Flt.after (G3.pur P5) hf
            · have hde : dE true ((a :: b :: c :: c2 :: m).drop 1) = false := by simp only [List.drop_succ_cons, List.drop_zero, List.drop_nil, dE, dS, hbE, hbF, hbS, Bool.and_true, Bool.true_and, Bool.false_and, Bool.and_false, Bool.or_true, Bool.true_or, Bool.or_false, Bool.false_or, if_true, if_false, Bool.false_eq_true, List.isEmpty_nil, List.isEmpty_cons, ite_self]
              rw [hde] at HC
              simp only [Bool.false_eq_true, if_false, if_true] at HC
              have HE := HC
              clear HC hde
              go_wp2_with fail
              all_goals
                refine (FL _ P5).mono ?_
                intro e w6 hf
                obtain ⟨b6, rfl, hf2⟩ := id hf
                go_wp2
                refine ⟨rfl, ?_⟩
                rw [HE.out]
                simp only [Gives]
                rw [Nat.sub_self]
                exact Flt.after (G3.pur P5) hf
          · rw [hbF] at FB
            go_wp2_with fail
            refine (FB _ p4).mono ?_
            rintro e w5 ⟨rfl, p5⟩
            have P5 := p4.trans p5
            obtain ⟨g5, hg5, y2a, y2b⟩ := RC _ 2 P5 c rfl
            simp only [Nat.reduceMul, Nat.reduceAdd] at y2a y2b
            cases hg5
            obtain ⟨bS, hbS⟩ : ∃ z, (narrow c.nm == [115, 116, 97, 110, 100, 97, 108, 111, 110, 101]) = z := ⟨_, rfl⟩
            rcases bS with _ | _
            · have hde : dE true ((a :: b :: c :: c2 :: m).drop 1) = false := by simp only [List.drop_succ_cons, List.drop_zero, List.drop_nil, dE, dS, hbE, hbF, hbS, Bool.and_true, Bool.true_and, Bool.false_and, Bool.and_false, Bool.or_true, Bool.true_or, Bool.or_false, Bool.false_or, if_true, if_false, Bool.false_eq_true, List.isEmpty_nil, List.isEmpty_cons, ite_self]
              rw [hde] at HC
              simp only [Bool.false_eq_true, if_false, if_true] at HC
              have HE := HC
              clear HC hde
              go_wp2_with fail
              all_goals
                refine (FL _ P5).mono ?_
                intro e w6 hf
                obtain ⟨b6, rfl, hf2⟩ := id hf
                go_wp2
                refine ⟨rfl, ?_⟩
                rw [HE.out]
                simp only [Gives]
                rw [Nat.sub_self]
                exact Flt.after (G3.pur P5) hf
            · obtain ⟨bY, hbY⟩ : ∃ z, (narrow c.val == [121, 101, 115]) = z := ⟨_, rfl⟩
              rcases bY with _ | _
              · obtain ⟨bN, hbN⟩ : ∃ z, (narrow c.val == [110, 111]) = z := ⟨_, rfl⟩
                rcases bN with _ | _
                · have hde : dE true ((a :: b :: c :: c2 :: m).drop 1) = false := by simp only [List.drop_succ_cons, List.drop_zero, List.drop_nil, dE, dS, hbE, hbF, hbS, hbY, hbN, Bool.and_true, Bool.true_and, Bool.false_and, Bool.and_false, Bool.or_true, Bool.true_or, Bool.or_false, Bool.false_or, if_true, if_false, Bool.false_eq_true, List.isEmpty_nil, List.isEmpty_cons, ite_self]
                  rw [hde] at HC
                  simp only [Bool.false_eq_true, if_false, if_true] at HC
                  have HE := HC
                  clear HC hde
                  go_wp2_with fail
                  all_goals
                    refine (FL _ P5).mono ?_
                    intro e w6 hf
                    obtain ⟨b6, rfl, hf2⟩ := id hf
                    go_wp2
                    refine ⟨rfl, ?_⟩
                    rw [HE.out]
                    simp only [Gives]
                    rw [Nat.sub_self]
                    exact Flt.after (G3.pur P5) hf
                · have hde : dE true ((a :: b :: c :: c2 :: m).drop 1) = false := by simp only [List.drop_succ_cons, List.drop_zero, List.drop_nil, dE, dS, hbE, hbF, hbS, hbY, hbN, Bool.and_true, Bool.true_and, Bool.false_and, Bool.and_false, Bool.or_true, Bool.true_or, Bool.or_false, Bool.false_or, if_true, if_false, Bool.false_eq_true, List.isEmpty_nil, List.isEmpty_cons, ite_self]
                  rw [hde] at HC
                  simp only [Bool.false_eq_true, if_false, if_true] at HC
                  have HE := HC
                  clear HC hde
                  go_wp2_with fail
                  all_goals
                    refine (FL _ P5).mono ?_
                    intro e w6 hf
                    obtain ⟨b6, rfl, hf2⟩ := id hf
                    go_wp2
                    refine ⟨rfl, ?_⟩
                    rw [HE.out]
                    simp only [Gives]
                    rw [Nat.sub_self]
                    exact Flt.after (G3.pur P5) hf
              · have hde : dE true ((a :: b :: c :: c2 :: m).drop 1) = false := by simp only [List.drop_succ_cons, List.drop_zero, List.drop_nil, dE, dS, hbE, hbF, hbS, hbY, Bool.and_true, Bool.true_and, Bool.false_and, Bool.and_false, Bool.or_true, Bool.true_or, Bool.or_false, Bool.false_or, if_true, if_false, Bool.false_eq_true, List.isEmpty_nil, List.isEmpty_cons, ite_self]
                rw [hde] at HC
                simp only [Bool.false_eq_true, if_false, if_true] at HC
                have HE := HC
                clear HC hde
                go_wp2_with fail
                all_goals
                  refine (FL _ P5).mono ?_
                  intro e w6 hf
                  obtain ⟨b6, rfl, hf2⟩ := id hf
                  go_wp2
                  refine ⟨rfl, ?_⟩
                  rw [HE.out]
                  simp only [Gives]
                  rw [Nat.sub_self]
                  exact Flt.after (G3.pur P5) hf
end Tk
end Go.Proofs.YtigfcchblfnnbaaGreatDoor
