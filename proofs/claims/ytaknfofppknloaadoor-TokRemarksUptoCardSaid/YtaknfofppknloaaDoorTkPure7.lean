/- Layer 2, in plain words: remarks ahead of tags, in a document's bytes. -/
import Derived.Test.YtaknfofppknloaaDoorTkPure6
namespace Go.Proofs.YtaknfofppknloaaDoor
open Go Go.RowKit
set_option linter.all false
namespace Tk
theorem declOk_bare (l l' : List Attr) (h : l.map Attr.bare = l'.map Attr.bare) : declOk l = declOk l' := by
  have hb : ∀ a b : Attr, a.bare = b.bare → a.nm = b.nm ∧ a.val = b.val := fun a b e => by
    unfold Attr.bare at e; exact ⟨(Prod.mk.inj e).1, (Prod.mk.inj e).2⟩
  match l, l', h with
  | [], [], _ => rfl
  | [a], [a'], h =>
    simp only [List.map_cons, List.map_nil, List.cons.injEq, and_true] at h
    obtain ⟨h1, h2⟩ := hb a a' h
    simp only [declOk, h1, h2]
  | [a], b :: c :: l', h => simp at h
  | [a, b], [a'], h => simp at h
  | [a, b], a' :: b' :: c' :: l', h => simp at h
  | a :: b :: c :: l, [a'], h => simp at h
  | a :: b :: c :: l, [a', b'], h => simp at h
  | [a, b], [a', b'], h =>
    simp only [List.map_cons, List.map_nil, List.cons.injEq, and_true] at h
    obtain ⟨h1, h2⟩ := hb a a' h.1
    obtain ⟨h3, h4⟩ := hb b b' h.2
    simp only [declOk, h1, h2, h3, h4]
    by_cases k : b'.nm = tEncoding
    · simp only [k, if_true]
    · simp only [k, if_false, h3, h4]
      by_cases k2 : b'.nm = tStandalone <;> simp [k2]
  | a :: b :: c :: l, a' :: b' :: c' :: l', h =>
    simp only [List.map_cons, List.cons.injEq] at h
    obtain ⟨h1, h2⟩ := hb a a' h.1
    obtain ⟨h3, h4⟩ := hb b b' h.2.1
    obtain ⟨h5, h6⟩ := hb c c' h.2.2.1
    have h7 : l.isEmpty = l'.isEmpty := by
      have := congrArg List.length h.2.2.2
      simp only [List.length_map] at this
      cases l <;> cases l' <;> simp_all
    simp only [declOk, h1, h2, h3, h4]
    by_cases k : b'.nm = tEncoding
    · simp only [k, if_true, h5, h6]
      by_cases k2 : c'.nm = tStandalone <;> simp [k2, h7]
    · simp only [k, if_false, h3, h4]
      by_cases k2 : b'.nm = tStandalone <;> simp [k2]
theorem ins_back {r y : Cs} {c : Nat} (h : ins true r = c :: y) (hc : c ≠ 62) : ∃ r', r = c :: r' ∧ y = ins true r' := by
  cases r with
  | nil => cases h
  | cons d r =>
    rw [ins, if_pos (by simp [isIn])] at h
    obtain ⟨rfl, h2⟩ := List.cons.inj h
    exact ⟨r, rfl, by rw [← h2, show (!(d == 62)) = true by simp [hc]]⟩
theorem fires_split {cs : Cs} (h : fires cs = true) : ∃ b r, cs = 60 :: 63 :: 120 :: 109 :: 108 :: b :: r ∧ blank b = true := by
  unfold fires at h
  simp only [Bool.and_eq_true] at h
  have h1 := pre_split h.1
  have h2 := h.2
  have h5 : tXml.length = 5 := rfl
  rw [h5] at h1
  cases hd : cs.drop 5 with
  | nil => rw [hd] at h2; cases h2
  | cons b r => rw [hd] at h1 h2; exact ⟨b, r, h1, h2⟩
theorem fires_mk (b : Nat) (r : Cs) (h : blank b = true) : fires (60 :: 63 :: 120 :: 109 :: 108 :: b :: r) = true := by
  unfold fires
  simp only [Bool.and_eq_true]
  exact ⟨by simp [pre, tXml], h⟩
theorem fires_ins {cs : Cs} (h : fires cs = false) : fires (ins false cs) = false := by
  rcases hf : fires (ins false cs) with _ | _
  · rfl
  exfalso
  obtain ⟨b, y, hy, hb⟩ := fires_split hf
  cases cs with
  | nil => cases hy
  | cons c r =>
    rw [ins] at hy
    split at hy
    · rename_i hi
      obtain ⟨rfl, h1⟩ := List.cons.inj hy
      rw [show (!(60 == 62)) = true from rfl] at h1
      obtain ⟨r1, rfl, h2⟩ := ins_back h1 (by omega)
      obtain ⟨r2, rfl, h3⟩ := ins_back h2.symm (by omega)
      obtain ⟨r3, rfl, h4⟩ := ins_back h3.symm (by omega)
      obtain ⟨r4, rfl, h5⟩ := ins_back h4.symm (by omega)
      obtain ⟨r5, rfl, h6⟩ := ins_back h5.symm (blank_ne hb).2.1
      rw [fires_mk b r5 hb] at h
      cases h
    · split at hy
      · have h1 := (List.cons.inj (List.cons.inj hy).2).1
        cases h1
      · rename_i hc
        exact hc (List.cons.inj hy).1
theorem decl_no {cs : Cs} (h : fires cs = false) : decl cs = .ok ((), cs) := by
  unfold fires at h
  unfold decl
  rw [h, if_neg (by simp)]
/-- a declaration: what it goes over -/
theorem decl_ext {cs z : Cs} {u : Unit} (hf : fires cs = true) (h : decl cs = .ok (u, z)) : ∃ p, cs = p ++ z ∧ 62 ∈ p ∧ (∃ q, p = 60 :: 63 :: q) ∧ ∀ y, decl (p ++ y) = .ok ((), y) := by
  obtain ⟨b, r, hcs, hb⟩ := fires_split hf
  unfold decl at h
  unfold fires at hf
  rw [hf, if_pos rfl] at h
  rcases h2 : attrs (cs.drop 5) with e | ⟨l, r2⟩
  · rw [h2] at h; cases h
  rw [h2, and_ok] at h
  split at h
  · rename_i hk
    simp only [Bool.and_eq_true] at hk
    cases h
    obtain ⟨p, i1, i2, i3, i4⟩ := attrs_ext h2
    have hr := pre_split hk.2
    simp only [List.length_cons, List.length_nil] at hr
    have hb2 : ∃ p', p = b :: p' := by
      cases p with
      | nil =>
        rw [hcs, List.nil_append, hr] at i1
        simp only [List.drop_succ_cons, List.drop_zero, List.cons_append] at i1
        have := (List.cons.inj i1).1
        subst this
        simp [blank] at hb
      | cons c p' =>
        rw [hcs] at i1
        simp only [List.drop_succ_cons, List.drop_zero, List.cons_append] at i1
        exact ⟨p', by rw [(List.cons.inj i1).1]⟩
    obtain ⟨p', rfl⟩ := hb2
    refine ⟨60 :: 63 :: 120 :: 109 :: 108 :: (b :: p' ++ [63, 62]), ?_, by simp, ⟨_, rfl⟩, fun y => ?_⟩
    · have h5 : cs = 60 :: 63 :: 120 :: 109 :: 108 :: cs.drop 5 := by rw [hcs]; rfl
      conv => lhs; rw [h5, i1, hr]
      simp
    · obtain ⟨l', k1, k2⟩ := i4 (63 :: 62 :: y) rfl rfl
      have hd5 : (60 :: 63 :: 120 :: 109 :: 108 :: (b :: p' ++ [63, 62]) ++ y).drop 5 = b :: p' ++ 63 :: 62 :: y := by simp
      have hf2 : (pre tXml (60 :: 63 :: 120 :: 109 :: 108 :: (b :: p' ++ [63, 62]) ++ y) && hd blank ((60 :: 63 :: 120 :: 109 :: 108 :: (b :: p' ++ [63, 62]) ++ y).drop 5)) = true := fires_mk b (p' ++ [63, 62] ++ y) hb
      unfold decl
      rw [hf2, if_pos rfl, hd5, k1, and_ok, declOk_bare l' l k2, if_pos (by simp [hk.1, pre])]
      rfl
  · cases h
/-- REMARKS AHEAD OF TAGS CHANGE NOTHING BUT PLACES: of the characters -/
theorem tokens_ins {cs : Cs} {ts : List Tok} (h : tokens cs = .ok ts) (hC : ChkC false [] cs) : ∃ ts2, tokens (ins false cs) = .ok ts2 ∧ ts2.map Tok.bare = ts.map Tok.bare := by
  rcases hf : fires cs with _ | _
  · have hd1 := decl_no hf
    have hd2 := decl_no (fires_ins hf)
    unfold tokens at h ⊢
    rw [hd1, and_ok] at h
    rw [hd2, and_ok]
    refine allGo_ins (fun l => fires l = false) (fun a b hab => ?_) _ [] cs _ _ ts _ h hC hf (fun y _ hy => ⟨y.length + 1, ⟨[], [], 0⟩, by omega, ?_⟩) ⟨rfl, rfl⟩ (by omega)
    · rcases ha : fires a with _ | _
      · rfl
      · rw [fires_mono b ha] at hab; cases hab
    · rw [List.nil_append] at hy ⊢
      unfold tokens
      rw [decl_no hy, and_ok]
  · unfold tokens at h
    rcases h1 : decl cs with e | ⟨u, z⟩
    · rw [h1] at h; cases h
    rw [h1, and_ok] at h
    obtain ⟨p, i1, i2, ⟨p0, i3⟩, i4⟩ := decl_ext hf h1
    obtain ⟨m, w, e1, e2⟩ := split62 p i2
    obtain ⟨b, r0, hcs, hb⟩ := fires_split hf
    have hcs2 : cs = m ++ 62 :: (w ++ z) := by rw [i1, e1]; simp
    obtain ⟨m1, rfl⟩ : ∃ m1, m = 60 :: 63 :: 120 :: 109 :: 108 :: b :: m1 := by
      rw [hcs] at hcs2
      have hbl := (blank_ne hb).2.1
      match m, hcs2 with
      | [], e => simp at e
      | [_], e => simp at e
      | [_, _], e => simp at e
      | [_, _, _], e => simp at e
      | [_, _, _, _], e => simp at e
      | [_, _, _, _, _], e => simp at e; exact absurd e.2.2.2.2.2.1 hbl
      | a1 :: a2 :: a3 :: a4 :: a5 :: a6 :: m1, e =>
        simp only [List.cons_append, List.cons.injEq] at e
        obtain ⟨rfl, rfl, rfl, rfl, rfl, rfl, -⟩ := e
        exact ⟨m1, rfl⟩
    have hC1 : ChkC true ([] ++ [60]) (63 :: 120 :: 109 :: 108 :: b :: m1 ++ 62 :: (w ++ z)) := by
      rw [hcs2] at hC
      simp only [List.cons_append] at hC
      rw [ChkC, if_pos (by simp [isIn, hd])] at hC
      exact hC.2
    obtain ⟨⟨us, hus⟩, -⟩ := chk_in _ _ _ (by intro hm; exact e2 (List.mem_cons_of_mem _ hm)) hC1
    have hfm : fires (60 :: 63 :: 120 :: 109 :: 108 :: b :: m1 ++ [62]) = true := fires_mk b (m1 ++ [62]) hb
    have hus' : tokens (60 :: 63 :: 120 :: 109 :: 108 :: b :: m1 ++ [62]) = .ok us := hus
    unfold tokens at hus'
    rcases h5 : decl (60 :: 63 :: 120 :: 109 :: 108 :: b :: m1 ++ [62]) with e | ⟨u', z'⟩
    · rw [h5] at hus'; cases hus'
    obtain ⟨p', j1, j2, -, j4⟩ := decl_ext hfm h5
    obtain ⟨rfl, rfl⟩ := only62 j1 e2 j2
    have hw : w = [] := by
      have g2 := j4 (w ++ z)
      rw [List.append_assoc, List.singleton_append, ← hcs2, h1] at g2
      have := congrArg List.length (Prod.mk.inj (Except.ok.inj g2)).2
      simp at this
      exact this
    subst hw
    rw [List.nil_append] at hcs2
    have e3 : ins false cs = 60 :: 63 :: 120 :: 109 :: 108 :: b :: m1 ++ [62] ++ ins false z := by
      rw [hcs2]
      have := ins_in (63 :: 120 :: 109 :: 108 :: b :: m1) z (by intro hm; exact e2 (List.mem_cons_of_mem _ hm))
      simp only [List.cons_append] at this ⊢
      rw [ins, if_pos (by simp [isIn, hd]), show (!(60 == 62)) = true from rfl, this]
      simp
    obtain ⟨-, hC2⟩ := chk_in _ _ _ (by intro hm; exact e2 (List.mem_cons_of_mem _ hm)) hC1
    rw [List.nil_append] at hC2
    have hC3 : ChkC false (60 :: 63 :: 120 :: 109 :: 108 :: b :: m1 ++ [62]) z := hC2
    have hdec : tokens (ins false cs) = allGo ((ins false z).length + 1) (ins false z) ⟨[], [], 0⟩ := by
      rw [e3]
      unfold tokens
      rw [j4, and_ok]
    rw [hdec]
    refine allGo_ins (fun _ => True) (fun _ _ _ => trivial) _ (60 :: 63 :: 120 :: 109 :: 108 :: b :: m1 ++ [62]) z _ _ ts _ h hC3 trivial (fun y _ _ => ⟨y.length + 1, ⟨[], [], 0⟩, by omega, ?_⟩) ⟨rfl, rfl⟩ (by omega)
    unfold tokens
    rw [j4, and_ok]
/-- the same of bytes -/
def remB : List UInt8 := narrow remA
def isInB (i : Bool) (b : UInt8) (r : List UInt8) : Bool := i || (b == 60 && (by8 r 0 == 33 || by8 r 0 == 63))
def insB : Bool → List UInt8 → List UInt8
  | _, [] => []
  | i, b :: r => if isInB i b r then b :: insB (!(b == 62)) r else (if b = 60 then remB else []) ++ b :: insB false r
def ChkB : Bool → List UInt8 → List UInt8 → Prop
  | _, _, [] => True
  | i, p, b :: r => if isInB i b r then (b = 62 → ∃ ts, whole (p ++ [62]) = .ok ts) ∧ ChkB (!(b == 62)) (p ++ [b]) r else ChkB false (p ++ [b]) r
/-- bytes that read as characters -/
inductive Rd : List UInt8 → Cs → Prop
  | nil : Rd [] []
  | chr (c : Nat) (t : List UInt8) (cs : Cs) : allowed c = true → Rd t cs → Rd (enc c ++ t) (c :: cs)
  | crlf (t : List UInt8) (cs : Cs) : Rd t cs → Rd (13 :: 10 :: t) (10 :: cs)
  | cr (t : List UInt8) (cs : Cs) : by8 t 0 ≠ 10 → Rd t cs → Rd (13 :: t) (10 :: cs)
theorem Rd.read {l : List UInt8} {cs : Cs} (h : Rd l cs) : rdA l = (cs, 0) := by
  induction h with
  | nil => rfl
  | chr c t cs hc _ ih => rw [rdA_char c t (allowed_okc' hc) (allowed_ne13 hc), if_pos hc, ih]
  | crlf t cs _ ih =>
    rw [rdA_cr]
    have e : (10 :: t).drop (if by8 (10 :: t) 0 = 10 then 1 else 0) = t := by rw [if_pos (by simp [by8])]; rfl
    rw [e, ih]
  | cr t cs h _ ih => rw [rdA_cr, if_neg h, List.drop_zero, ih]
theorem Rd.of : ∀ (n : Nat) (l : List UInt8), l.length ≤ n → (rdA l).2 = 0 → Rd l (rdA l).1
  | _, [], _, _ => .nil
  | 0, b :: l, h, _ => by simp at h
  | n + 1, b :: l, hn, h => by
    simp only [List.length_cons] at hn
    rcases first_char b l with h1 | ⟨c, t, h1, h2⟩
    · rw [rdA_bad h1] at h; cases h
    have hl : t.length ≤ n := by
      have := congrArg List.length h2
      have h3 := enc_pos c
      simp at this; omega
    by_cases hc : c = 13
    · subst hc
      have e13 : enc 13 = [13] := by decide
      rw [e13] at h2
      change b :: l = 13 :: t at h2
      rw [h2] at h ⊢
      rw [rdA_cr] at h ⊢
      by_cases h10 : by8 t 0 = 10
      · rw [if_pos h10] at h ⊢
        cases t with
        | nil => simp [by8] at h10
        | cons x t =>
          have hx : x = 10 := by
            have : x.toNat = 10 := by simpa [by8] using h10
            exact UInt8.toNat_inj.1 this
          subst hx
          simp only [List.drop_succ_cons, List.drop_zero] at h ⊢
          exact .crlf t _ (Rd.of n t (by simp at hl; omega) h)
      · rw [if_neg h10, List.drop_zero] at h ⊢
        exact .cr t _ h10 (Rd.of n t hl h)
    · rw [h2, rdA_char c t h1 hc] at h ⊢
      split at h
      · rename_i ha
        rw [if_pos ha]
        exact .chr c t _ ha (Rd.of n t hl h)
      · cases h
theorem by8_high {c : Nat} (t : List UInt8) (h : 128 ≤ c) (h2 : okc c) : 128 ≤ by8 (enc c ++ t) 0 := by
  obtain ⟨b, m, hb⟩ := enc_cons c
  have := enc_up h h2 b (by rw [hb]; simp)
  rw [hb]
  simpa [by8] using this
theorem by8_low {c : Nat} (t : List UInt8) (h : c < 128) : by8 (enc c ++ t) 0 = c := by
  rw [enc_dn h]
  show (UInt8.ofNat c).toNat = c
  rw [UInt8.toNat_ofNat']; omega
theorem Rd.head {l : List UInt8} {cs : Cs} (h : Rd l cs) (k : Nat) (hk : 13 < k) (hk2 : k < 128) : (by8 l 0 == k) = hd (fun d => d == k) cs := by
  cases h with
  | nil => simp [by8, hd]; omega
  | chr c t cs hc _ =>
    rcases Nat.lt_or_ge c 128 with h1 | h1
    · rw [by8_low t h1]; rfl
    · have := by8_high t h1 (allowed_okc' hc)
      have e1 : (by8 (enc c ++ t) 0 == k) = false := by rw [beq_eq_false_iff_ne]; omega
      have e2 : (c == k) = false := by rw [beq_eq_false_iff_ne]; omega
      rw [e1]; exact e2.symm
  | crlf t cs _ =>
    have e1 : by8 (13 :: 10 :: t) 0 = 13 := by simp [by8]
    rw [e1]
    have e2 : (13 == k) = false := by rw [beq_eq_false_iff_ne]; omega
    have e3 : (10 == k) = false := by rw [beq_eq_false_iff_ne]; omega
    rw [e2]; exact e3.symm
  | cr t cs _ _ =>
    have e1 : by8 (13 :: t) 0 = 13 := by simp [by8]
    rw [e1]
    have e2 : (13 == k) = false := by rw [beq_eq_false_iff_ne]; omega
    have e3 : (10 == k) = false := by rw [beq_eq_false_iff_ne]; omega
    rw [e2]; exact e3.symm
theorem hd_or (p q : Nat → Bool) (cs : Cs) : hd (fun d => p d || q d) cs = (hd p cs || hd q cs) := by cases cs <;> rfl
theorem Rd.isIn {t : List UInt8} {cs : Cs} (h : Rd t cs) (i : Bool) (c : Nat) (hc : c < 128) : isInB i (UInt8.ofNat c) t = isIn i c cs := by
  unfold isInB Tk.isIn
  rw [h.head 33 (by omega) (by omega), h.head 63 (by omega) (by omega), hd_or]
  congr 2
  rw [Bool.eq_iff_iff, beq_iff_eq, beq_iff_eq]
  constructor
  · intro e
    have := congrArg UInt8.toNat e
    rw [UInt8.toNat_ofNat'] at this
    have e60 : (60 : UInt8).toNat = 60 := rfl
    rw [e60] at this
    omega
  · rintro rfl; rfl
theorem ofNat_eq {c k : Nat} (hc : c < 128) (hk : k < 128) : (UInt8.ofNat c = UInt8.ofNat k) ↔ c = k := by
  constructor
  · intro e
    have := congrArg UInt8.toNat e
    rw [UInt8.toNat_ofNat', UInt8.toNat_ofNat'] at this
    omega
  · rintro rfl; rfl
theorem high_ne {b : UInt8} (h : 128 ≤ b.toNat) : b ≠ 60 ∧ b ≠ 62 := by
  constructor <;> (rintro rfl; exact absurd h (by decide))
theorem insB_high : ∀ (x t : List UInt8) (i : Bool), (∀ b ∈ x, 128 ≤ b.toNat) → insB i (x ++ t) = x ++ insB i t
  | [], t, i, _ => rfl
  | b :: x, t, i, h => by
    have hb := high_ne (h b (by simp))
    have ih := insB_high x t i fun y hy => h y (by simp [hy])
    rw [List.cons_append, insB]
    have e1 : isInB i b (x ++ t) = i := by unfold isInB; simp [hb.1]
    have e2 : (!(b == 62)) = true := by simp [hb.2]
    rw [e1, e2]
    cases i with
    | true => rw [if_pos rfl, ih]; rfl
    | false => rw [if_neg (by simp), if_neg hb.1, ih]; rfl
theorem chkB_high : ∀ (x t p : List UInt8) (i : Bool), (∀ b ∈ x, 128 ≤ b.toNat) → ChkB i p (x ++ t) → ChkB i (p ++ x) t
  | [], t, p, i, _, k => by simpa using k
  | b :: x, t, p, i, h, k => by
    have hb := high_ne (h b (by simp))
    rw [List.cons_append, ChkB] at k
    have e1 : isInB i b (x ++ t) = i := by unfold isInB; simp [hb.1]
    have e2 : (!(b == 62)) = true := by simp [hb.2]
    rw [e1, e2] at k
    have ih : ChkB i (p ++ [b]) (x ++ t) := by
      cases i with
      | true => rw [if_pos rfl] at k; exact k.2
      | false => rw [if_neg (by simp)] at k; exact k
    have := chkB_high x t (p ++ [b]) i (fun y hy => h y (by simp [hy])) ih
    simpa using this
/-- a byte that is neither < nor > -/
theorem insB_one (b : UInt8) (t : List UInt8) (i : Bool) (h1 : b ≠ 60) (h2 : b ≠ 62) : insB i (b :: t) = b :: insB i t := by
  rw [insB]
  have e1 : isInB i b t = i := by unfold isInB; simp [h1]
  have e2 : (!(b == 62)) = true := by simp [h2]
  rw [e1, e2]
  cases i with
  | true => rw [if_pos rfl]
  | false => rw [if_neg (by simp), if_neg h1]; rfl
theorem chkB_one (b : UInt8) (t p : List UInt8) (i : Bool) (h1 : b ≠ 60) (h2 : b ≠ 62) (k : ChkB i p (b :: t)) : ChkB i (p ++ [b]) t := by
  rw [ChkB] at k
  have e1 : isInB i b t = i := by unfold isInB; simp [h1]
  have e2 : (!(b == 62)) = true := by simp [h2]
  rw [e1, e2] at k
  cases i with
  | true => rw [if_pos rfl] at k; exact k.2
  | false => rw [if_neg (by simp)] at k; exact k
theorem ins_one (c : Nat) (cs : Cs) (i : Bool) (h1 : c ≠ 60) (h2 : c ≠ 62) : ins i (c :: cs) = c :: ins i cs := by
  rw [ins]
  have e1 : isIn i c cs = i := by unfold isIn; simp [h1]
  have e2 : (!(c == 62)) = true := by simp [h2]
  rw [e1, e2]
  cases i with
  | true => rw [if_pos rfl]
  | false => rw [if_neg (by simp), if_neg h1]; rfl
theorem chk_one (c : Nat) (cs pc : Cs) (i : Bool) (h1 : c ≠ 60) (h2 : c ≠ 62) (k : ChkC i (pc ++ [c]) cs) : ChkC i pc (c :: cs) := by
  rw [ChkC]
  have e1 : isIn i c cs = i := by unfold isIn; simp [h1]
  have e2 : (!(c == 62)) = true := by simp [h2]
  rw [e1, e2]
  cases i with
  | true => rw [if_pos rfl]; exact ⟨fun e => absurd e h2, k⟩
  | false => rw [if_neg (by simp)]; exact k
theorem by8_insB (i : Bool) (t : List UInt8) (h : by8 t 0 ≠ 10) : by8 (insB i t) 0 ≠ 10 := by
  cases t with
  | nil => exact h
  | cons b t =>
    rw [insB]
    split
    · exact h
    · split
      · have : by8 (remB ++ b :: insB false t) 0 = 60 := by rw [by8_append, if_pos (by decide)]; decide
        rw [this]; omega
      · exact h
theorem Rd.app {D : Cs} (hD : ∀ c ∈ D, allowed c = true) {t : List UInt8} {cs : Cs} (h : Rd t cs) : Rd (narrow D ++ t) (D ++ cs) := by
  induction D with
  | nil => exact h
  | cons c D ih =>
    have e : narrow (c :: D) ++ t = enc c ++ (narrow D ++ t) := by simp [narrow]
    rw [e]
    exact .chr c _ _ (hD c (by simp)) (ih fun x hx => hD x (by simp [hx]))
theorem Rd.ins {l : List UInt8} {cs : Cs} (h : Rd l cs) : ∀ i, Rd (insB i l) (ins i cs) := by
  induction h with
  | nil => intro i; cases i <;> exact .nil
  | chr c t cs hc hr ih =>
    intro i
    rcases Nat.lt_or_ge c 128 with h1 | h1
    · rw [enc_dn h1]
      show Rd (insB i (UInt8.ofNat c :: t)) (Tk.ins i (c :: cs))
      rw [insB, Tk.ins, hr.isIn i c h1]
      have e62 : (UInt8.ofNat c == 62) = (c == 62) := by rw [Bool.eq_iff_iff, beq_iff_eq, beq_iff_eq]; exact ofNat_eq (k := 62) h1 (by decide)
      have hcc : ∀ i, Rd (UInt8.ofNat c :: insB i t) (c :: Tk.ins i cs) := fun i => by
        have := Rd.chr c _ _ hc (ih i)
        rwa [enc_dn h1] at this
      split
      · rw [e62]; exact hcc _
      · by_cases h60 : c = 60
        · rw [if_pos (by rw [h60]; rfl), if_pos h60]
          exact Rd.app (by decide) (hcc false)
        · rw [if_neg (fun e : UInt8.ofNat c = 60 => h60 ((ofNat_eq (k := 60) h1 (by decide)).1 e)), if_neg h60]
          exact hcc false
    · rw [insB_high _ _ _ (enc_up h1 (allowed_okc' hc)), ins_one c cs i (by omega) (by omega)]
      exact .chr c _ _ hc (ih i)
  | crlf t cs hr ih =>
    intro i
    rw [insB_one _ _ _ (by decide) (by decide), insB_one _ _ _ (by decide) (by decide), ins_one _ _ _ (by omega) (by omega)]
    exact .crlf _ _ (ih i)
  | cr t cs h hr ih =>
    intro i
    rw [insB_one _ _ _ (by decide) (by decide), ins_one _ _ _ (by omega) (by omega)]
    exact .cr _ _ (by8_insB i t h) (ih i)
theorem whole_of_read {l : List UInt8} {cs : Cs} {ts : List TokV} (hr : rdA l = (cs, 0)) (h : whole l = .ok ts) : ∃ us, tokens cs = .ok us ∧ ts = us.map (Tok.fin cs) := by
  unfold whole at h
  rw [read_rdA, hr] at h
  split at h
  · cases h
  simp only [ne_eq, not_true_eq_false, if_false] at h
  rcases h1 : tokens cs with ⟨k, e⟩ | us
  · rw [h1] at h; cases h
  · rw [h1] at h; cases h; exact ⟨us, rfl, rfl⟩
theorem Rd.chk {l : List UInt8} {cs : Cs} (h : Rd l cs) : ∀ (i : Bool) (p : List UInt8) (pc : Cs),
    (∀ q x, Rd q x → (by8 q 0 = 10 → by8 l 0 = 10) → Rd (p ++ q) (pc ++ x)) → ChkB i p l → ChkC i pc cs := by
  have one : Rd [62] [62] := by
    have := Rd.chr 62 [] [] (by decide) .nil
    exact this
  induction h with
  | nil => intro i p pc _ _; cases i <;> trivial
  | chr c t cs hc hr ih =>
    intro i p pc H k
    have H2 : ∀ q x, Rd q x → (by8 q 0 = 10 → by8 t 0 = 10) → Rd (p ++ enc c ++ q) (pc ++ [c] ++ x) := fun q x hq _ => by
      have := H (enc c ++ q) (c :: x) (.chr c q x hc hq) (fun e => by
        obtain ⟨b, m, hb⟩ := enc_cons c
        rw [hb] at e ⊢
        exact e)
      simpa using this
    rcases Nat.lt_or_ge c 128 with h1 | h1
    · rw [enc_dn h1] at k H2
      change ChkB i p (UInt8.ofNat c :: t) at k
      rw [ChkB, hr.isIn i c h1] at k
      rw [ChkC]
      have e62 : (UInt8.ofNat c == 62) = (c == 62) := by rw [Bool.eq_iff_iff, beq_iff_eq, beq_iff_eq]; exact ofNat_eq (k := 62) h1 (by decide)
      split at k
      · rename_i hi
        rw [if_pos hi]
        refine ⟨fun e => ?_, ?_⟩
        · obtain ⟨ts, hts⟩ := k.1 (by rw [e]; rfl)
          have hR := H [62] [62] one (fun e => by simp [by8] at e)
          obtain ⟨us, hus, -⟩ := whole_of_read hR.read hts
          exact ⟨us, hus⟩
        · rw [← e62]
          exact ih _ _ _ H2 k.2
      · rename_i hi
        rw [if_neg hi]
        exact ih _ _ _ H2 k
    · refine chk_one c cs pc i (by omega) (by omega) (ih i _ _ H2 (chkB_high _ _ _ _ (enc_up h1 (allowed_okc' hc)) k))
  | crlf t cs hr ih =>
    intro i p pc H k
    refine chk_one 10 cs pc i (by omega) (by omega) (ih i (p ++ [13] ++ [10]) _ (fun q x hq _ => ?_) (chkB_one _ _ _ _ (by decide) (by decide) (chkB_one _ _ _ _ (by decide) (by decide) k)))
    have := H (13 :: 10 :: q) (10 :: x) (.crlf q x hq) (fun e => by simp [by8] at e)
    simpa using this
  | cr t cs h hr ih =>
    intro i p pc H k
    refine chk_one 10 cs pc i (by omega) (by omega) (ih i (p ++ [13]) _ (fun q x hq hqt => ?_) (chkB_one _ _ _ _ (by decide) (by decide) k))
    have := H (13 :: q) (10 :: x) (.cr q x (fun e => h (hqt e)) hq) (fun e => by simp [by8] at e)
    simpa using this
theorem insB_len : ∀ (l : List UInt8) (i : Bool), (insB i l).length ≤ 28 * l.length
  | [], i => by cases i <;> simp [insB]
  | b :: l, i => by
    have h27 : remB.length = 27 := by decide
    rw [insB]
    split
    · have := insB_len l (!(b == 62)); simp; omega
    · have := insB_len l false
      split
      · simp [h27]; omega
      · simp; omega
/-- a token, but for its place -/
def TokV.bare (t : TokV) : Nat × List UInt8 × List (List UInt8 × List UInt8) × List UInt8 × Bool := (t.kind, t.nm, t.attrs.map (fun a => (a.nm, a.val)), t.text, t.empty)
theorem fin_bare (cs : Cs) (t : Tok) : (t.fin cs).bare = (t.bare.1, narrow t.bare.2.1, t.bare.2.2.1.map (fun a => (narrow a.1, narrow a.2)), narrow t.bare.2.2.2.1, t.bare.2.2.2.2) := by
  simp [Tok.fin, TokV.bare, Tok.bare, Attr.fin, Attr.bare, List.map_map, Function.comp_def]
/-- REMARKS AHEAD OF TAGS CHANGE NOTHING BUT PLACES: of a document's bytes -/
theorem whole_ins {l : List UInt8} {ts : List TokV} (h : whole l = .ok ts) (hl : l.length ≤ 2000) (hC : ChkB false [] l) : ∃ ts2, whole (insB false l) = .ok ts2 ∧ ts2.map TokV.bare = ts.map TokV.bare := by
  have hr2 : (rdA l).2 = 0 := by
    unfold whole at h
    rw [read_rdA] at h
    split at h
    · cases h
    split at h
    · cases h
    · rename_i hx; simpa using hx
  have hR := Rd.of _ l (Nat.le_refl _) hr2
  generalize (rdA l).1 = cs at hR
  obtain ⟨us, h1, rfl⟩ := whole_of_read hR.read h
  have hCC := hR.chk false [] [] (fun q x hq _ => hq) hC
  obtain ⟨us2, h2, h3⟩ := tokens_ins h1 hCC
  have hlen := insB_len l false
  refine ⟨us2.map (Tok.fin (ins false cs)), ?_, ?_⟩
  · unfold whole
    rw [if_neg (by omega), read_rdA, (hR.ins false).read]
    simp only [ne_eq, not_true_eq_false, if_false]
    rw [h2]
  · rw [List.map_map, List.map_map]
    have e : ∀ (ds : Cs) (vs : List Tok), vs.map (TokV.bare ∘ Tok.fin ds) = (vs.map Tok.bare).map fun b => (b.1, narrow b.2.1, b.2.2.1.map (fun a => (narrow a.1, narrow a.2)), narrow b.2.2.2.1, b.2.2.2.2) := fun ds vs => by
      rw [List.map_map]
      exact List.map_congr_left fun t _ => fin_bare ds t
    rw [e, e, h3]
end Tk
end Go.Proofs.YtaknfofppknloaaDoor
