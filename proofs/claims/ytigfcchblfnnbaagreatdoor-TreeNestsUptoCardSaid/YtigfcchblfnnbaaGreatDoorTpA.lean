/- Layer 2, in plain words: a document's bytes as characters, characters as tokens, or the first fault and its place. Layer 2, in plain words: reading characters by what is left; line ends; what is written is read. Layer 2, in plain words: the places of the tokens rise. Layer 2, in plain words: what a part of the scanner has gone over, and that what stands behind it counts for nothing. -/
import Derived.Test.YtigfcchblfnnbaaGreatDoorUtfPure
import Derived.Test.YtigfcchblfnnbaaGreatDoorUtX
namespace Go.Proofs.YtigfcchblfnnbaaGreatDoor
open Go Go.RowKit
set_option linter.all false
namespace Tk
/-- characters -/
abbrev Cs := List Nat
/-- a part's answer, with what is left; or a fault: how many characters are left there, and its number -/
abbrev R (α : Type) := Except (Nat × Nat) (α × Cs)
def R.and {α β : Type} (r : R α) (k : α → Cs → Except (Nat × Nat) β) : Except (Nat × Nat) β := match r with | .ok (a, q) => k a q | .error e => .error e
@[simp] theorem and_ok {α β : Type} (a : α) (q : Cs) (k : α → Cs → Except (Nat × Nat) β) : R.and (.ok (a, q)) k = k a q := rfl
@[simp] theorem and_error {α β : Type} (e : Nat × Nat) (k : α → Cs → Except (Nat × Nat) β) : R.and (.error e) k = .error e := rfl
def allowed (c : Nat) : Bool := decide (c = 9 ∨ c = 10 ∨ (32 ≤ c ∧ c ≤ 55295) ∨ (57344 ≤ c ∧ c ≤ 65533) ∨ (65536 ≤ c ∧ c ≤ 1114111))
def blank (c : Nat) : Bool := decide (c = 9 ∨ c = 10 ∨ c = 32)
def begins (c : Nat) : Bool := decide ((97 ≤ c ∧ c ≤ 122) ∨ (65 ≤ c ∧ c ≤ 90) ∨ c = 95 ∨ c = 58 ∨ 127 < c)
def goesOn (c : Nat) : Bool := begins c || decide ((48 ≤ c ∧ c ≤ 57) ∨ c = 45 ∨ c = 46)
/-- does the first character say yes? -/
def hd (p : Nat → Bool) (xs : Cs) : Bool := match xs with | c :: _ => p c | [] => false
/-- a document's characters, up to the first that is refused, and why -/
def readGo (l : List UInt8) : Nat → Nat → Cs × Nat
  | 0, _ => ([], 0)
  | f + 1, i =>
    if i < l.length then
      if (chr l i).2 = 0 then ([], 10)
      else if (chr l i).1 = 13 then
        let r := readGo l f (if by8 l (i + 1) = 10 then i + 2 else i + 1)
        (10 :: r.1, r.2)
      else if allowed (chr l i).1 then
        let r := readGo l f (i + (chr l i).2)
        ((chr l i).1 :: r.1, r.2)
      else ([], 20)
    else ([], 0)
def read (l : List UInt8) : Cs × Nat := readGo l (l.length + 1) 0
/-- line and column of a place -/
def placeGo : Cs → Nat × Nat → Nat × Nat
  | [], p => p
  | c :: r, p => placeGo r (if c = 10 then (p.1 + 1, 1) else (p.1, p.2 + 1))
def place (cs : Cs) (i : Nat) : Nat × Nat := placeGo (cs.take i) (1, 1)
/-- does a text stand here? -/
def pre (t : List Nat) (xs : Cs) : Bool := decide (xs.take t.length = t)
def takeC (c : Nat) (xs : Cs) : R Unit := match xs with | d :: r => if d = c then .ok ((), r) else .error (xs.length, 21) | [] => .error (0, 21)
def blanks (xs : Cs) : Cs := xs.dropWhile blank
def name (xs : Cs) : R Cs :=
  if hd begins xs then (if 64 < (xs.takeWhile goesOn).length then .error (xs.length, 2) else .ok (xs.takeWhile goesOn, xs.dropWhile goesOn)) else .error (xs.length, 21)
def untilT (t : List Nat) : Cs → R Cs
  | [] => .error (0, 21)
  | x :: r => if pre t (x :: r) then .ok ([], (x :: r).drop t.length) else (untilT t r).and fun a q => .ok (x :: a, q)
/-- a digit's worth: at least the base where it is none -/
def dig (c : Nat) : Nat := if 48 ≤ c ∧ c ≤ 57 then c - 48 else if 97 ≤ c ∧ c ≤ 102 then c - 87 else if 65 ≤ c ∧ c ≤ 70 then c - 55 else 99
def numGo (base : Nat) : Nat → Cs → Option (Nat × Cs)
  | _, [] => none
  | v, c :: r => if c = 59 then some (v, r) else if dig c < base then numGo base (min (v * base + dig c) 1114112) r else none
def numOf (base : Nat) (ys : Cs) : Option (Nat × Cs) :=
  if hd (fun c => c == 59) ys then none else (numGo base 0 ys).bind fun x => if allowed x.1 || x.1 == 13 then some x else none
def number (xs : Cs) : Option (Nat × Cs) := match xs with | 120 :: r => numOf 16 r | _ => numOf 10 xs
def tLt : List Nat := [38, 108, 116, 59]
def tGt : List Nat := [38, 103, 116, 59]
def tAmp : List Nat := [38, 97, 109, 112, 59]
def tQuot : List Nat := [38, 113, 117, 111, 116, 59]
def tApos : List Nat := [38, 97, 112, 111, 115, 59]
def reference (xs : Cs) : R Nat :=
  if pre tLt xs then .ok (60, xs.drop 4)
  else if pre tGt xs then .ok (62, xs.drop 4)
  else if pre tAmp xs then .ok (38, xs.drop 5)
  else if pre tQuot xs then .ok (34, xs.drop 6)
  else if pre tApos xs then .ok (39, xs.drop 6)
  else if pre [38, 35] xs then (match number (xs.drop 2) with | some x => .ok x | none => .error (xs.length, 22))
  else .error (xs.length, 22)
def valGo (mark : Nat) : Nat → Cs → R Cs
  | 0, _ => .error (0, 0)
  | _ + 1, [] => .error (0, 21)
  | f + 1, c :: r =>
    if c = mark then .ok ([], r)
    else if c = 60 then .error ((c :: r).length, 21)
    else if c = 38 then (reference (c :: r)).and fun v q => (valGo mark f q).and fun a z => .ok (v :: a, z)
    else (valGo mark f r).and fun a z => .ok ((if blank c then 32 else c) :: a, z)
def value (xs : Cs) : R Cs := match xs with
  | c :: r => if c = 34 ∨ c = 39 then valGo c (r.length + 1) r else .error (xs.length, 21)
  | [] => .error (0, 21)
/-- an attribute: its place is told by how many characters are left there -/
structure Attr where
  nm : Cs
  val : Cs
  left : Nat
def attrsGo : Nat → Cs → R (List Attr)
  | 0, _ => .error (0, 0)
  | f + 1, xs =>
    if (blanks xs).length < xs.length ∧ hd begins (blanks xs) = true then
      (name (blanks xs)).and fun nm r1 => (takeC 61 (blanks r1)).and fun _ r2 => (value (blanks r2)).and fun v r3 =>
        (attrsGo f r3).and fun l z => .ok (⟨nm, v, (blanks xs).length⟩ :: l, z)
    else .ok ([], blanks xs)
def attrs (xs : Cs) : R (List Attr) := attrsGo (xs.length + 1) xs
structure Tok where
  kind : Nat
  nm : Cs
  attrs : List Attr
  text : Cs
  left : Nat
  empty : Bool
def tag (xs : Cs) : R Tok :=
  if hd (fun c => c == 47) (xs.drop 1) then
    (name (xs.drop 2)).and fun nm r1 => (takeC 62 (blanks r1)).and fun _ z => .ok (⟨2, nm, [], [], xs.length, false⟩, z)
  else
    (name (xs.drop 1)).and fun nm r1 => (attrs r1).and fun l r2 =>
      if hd (fun c => c == 47) r2 then (takeC 62 (r2.drop 1)).and fun _ z => .ok (⟨1, nm, l, [], xs.length, true⟩, z)
      else (takeC 62 r2).and fun _ z => .ok (⟨1, nm, l, [], xs.length, false⟩, z)
def small (c : Nat) : Nat := if 65 ≤ c ∧ c ≤ 90 then c + 32 else c
def instr (xs : Cs) : R Unit :=
  (name (xs.drop 2)).and fun nm r =>
    if nm.map small = [120, 109, 108] then .error (xs.length, 21)
    else if pre [63, 62] r then .ok ((), r.drop 2)
    else if hd blank r then (untilT [63, 62] r).and fun _ z => .ok ((), z)
    else .error (r.length, 21)
def comment (xs : Cs) : R Unit :=
  (untilT [45, 45] (xs.drop 4)).and fun _ q => match q with
    | [] => .error (0, 21)
    | c :: z => if c = 62 then .ok ((), z) else .error (q.length + 2, 21)
def chunkGo : Nat → Cs → R Cs
  | 0, _ => .error (0, 0)
  | _ + 1, [] => .ok ([], [])
  | f + 1, c :: r =>
    if c = 60 then .ok ([], c :: r)
    else if pre [93, 93, 62] (c :: r) then .error ((c :: r).length, 21)
    else if c = 38 then (reference (c :: r)).and fun v q => (chunkGo f q).and fun a z => .ok (v :: a, z)
    else (chunkGo f r).and fun a z => .ok (c :: a, z)
def chunk (xs : Cs) : R Cs := chunkGo (xs.length + 1) xs
def tVersion : List Nat := [118, 101, 114, 115, 105, 111, 110]
def tEncoding : List Nat := [101, 110, 99, 111, 100, 105, 110, 103]
def tStandalone : List Nat := [115, 116, 97, 110, 100, 97, 108, 111, 110, 101]
def declOk (l : List Attr) : Bool := match l with
  | [] => false
  | a :: r =>
    decide (a.nm = tVersion ∧ a.val = [49, 46, 48]) &&
    (let p := match r with
      | b :: q => if b.nm = tEncoding then (decide (b.val.map small = [117, 116, 102, 45, 56]), q) else (true, r)
      | [] => (true, r)
     p.1 &&
     (let s := match p.2 with
      | b :: q => if b.nm = tStandalone then (decide (b.val = [121, 101, 115] ∨ b.val = [110, 111]), q) else (true, p.2)
      | [] => (true, p.2)
      s.1 && s.2.isEmpty))
def tXml : List Nat := [60, 63, 120, 109, 108]
def decl (cs : Cs) : R Unit :=
  if pre tXml cs && hd blank (cs.drop 5) then
    (attrs (cs.drop 5)).and fun l r => if declOk l && pre [63, 62] r then .ok ((), r.drop 2) else .error (cs.length, 21)
  else .ok ((), cs)
/-- what is told so far: the tokens, the text under way, where that began -/
structure St where
  toks : List Tok
  text : Cs
  began : Nat
def St.flush (s : St) : St := if s.text = [] then s else ⟨s.toks ++ [⟨3, [], [], s.text, s.began, false⟩], [], s.began⟩
def St.begin (s : St) (left : Nat) : St := if s.text = [] then { s with began := left } else s
def St.say (s : St) (t : Cs) : St := { s with text := s.text ++ t }
def tCdata : List Nat := [60, 33, 91, 67, 68, 65, 84, 65, 91]
def tDoctype : List Nat := [60, 33, 68, 79, 67, 84, 89, 80, 69]
def allGo : Nat → Cs → St → Except (Nat × Nat) (List Tok)
  | 0, _, _ => .error (0, 0)
  | f + 1, xs, s =>
    if xs = [] then .ok s.flush.toks
    else if pre [60, 63] xs then (instr xs).and fun _ z => allGo f z s
    else if pre [60, 33, 45, 45] xs then (comment xs).and fun _ z => allGo f z s
    else if pre tCdata xs then (untilT [93, 93, 62] (xs.drop 9)).and fun t z => allGo f z ((s.begin xs.length).say t)
    else if pre tDoctype xs then .error (xs.length, 23)
    else if pre [60, 33] xs then .error (xs.length, 21)
    else if hd (fun c => c == 60) xs then (tag xs).and fun t z => allGo f z ⟨s.flush.toks ++ [t], [], s.began⟩
    else (chunk xs).and fun t z => allGo f z ((s.begin xs.length).say t)
def tokens (cs : Cs) : Except (Nat × Nat) (List Tok) := (decl cs).and fun _ xs => allGo (xs.length + 1) xs ⟨[], [], 0⟩
/-- characters as UTF-8 -/
def narrow (cs : Cs) : List UInt8 := cs.flatMap enc
structure AttrV where
  nm : List UInt8
  val : List UInt8
  at_ : Nat × Nat
structure TokV where
  kind : Nat
  nm : List UInt8
  attrs : List AttrV
  text : List UInt8
  at_ : Nat × Nat
  empty : Bool
def Attr.fin (cs : Cs) (a : Attr) : AttrV := ⟨narrow a.nm, narrow a.val, place cs (cs.length - a.left)⟩
def Tok.fin (cs : Cs) (t : Tok) : TokV := ⟨t.kind, narrow t.nm, t.attrs.map (Attr.fin cs), narrow t.text, place cs (cs.length - t.left), t.empty⟩
/-- the whole: tokens, or the place and number of the first fault -/
def whole (l : List UInt8) : Except ((Nat × Nat) × Nat) (List TokV) :=
  if 65536 < l.length then .error ((1, 1), 2)
  else if (read l).2 ≠ 0 then .error (place (read l).1 (read l).1.length, (read l).2)
  else match tokens (read l).1 with
    | .ok ts => .ok (ts.map (Tok.fin (read l).1))
    | .error (k, e) => .error (place (read l).1 ((read l).1.length - k), e)
end Tk
end Go.Proofs.YtigfcchblfnnbaaGreatDoor
namespace Go.Proofs.YtigfcchblfnnbaaGreatDoor
open Go Go.RowKit
set_option linter.all false
namespace Tk
/-- reading, by what is left -/
def rd : Nat → List UInt8 → Cs × Nat
  | 0, _ => ([], 0)
  | _ + 1, [] => ([], 0)
  | f + 1, b :: m =>
    if (chr (b :: m) 0).2 = 0 then ([], 10)
    else if (chr (b :: m) 0).1 = 13 then
      let r := rd f (m.drop (if by8 m 0 = 10 then 1 else 0))
      (10 :: r.1, r.2)
    else if allowed (chr (b :: m) 0).1 then
      let r := rd f ((b :: m).drop (chr (b :: m) 0).2)
      ((chr (b :: m) 0).1 :: r.1, r.2)
    else ([], 20)
theorem chr_drop (l : List UInt8) (i : Nat) (h : i ≤ l.length) : chr l i = chr (l.drop i) 0 := by
  have := chr_right (l.take i) (l.drop i) 0
  rw [List.take_append_drop, List.length_take, Nat.min_eq_left h] at this
  exact this
theorem by8_drop (l : List UInt8) (i k : Nat) : by8 (l.drop i) k = by8 l (i + k) := by
  simp [by8, List.getD_eq_getElem?_getD]
theorem readGo_rd (l : List UInt8) : ∀ (f i : Nat), readGo l f i = rd f (l.drop i)
  | 0, i => by rw [readGo, rd]
  | f + 1, i => by
    rw [readGo]
    by_cases h : i < l.length
    · rw [if_pos h]
      have e := chr_drop l i (by omega)
      rw [e]
      rcases hd : l.drop i with _ | ⟨b, m⟩
      · have := congrArg List.length hd; rw [List.length_drop] at this; simp at this; omega
      have hm : m = l.drop (i + 1) := by rw [← List.drop_drop, hd]; rfl
      rw [rd]
      by_cases h1 : (chr (b :: m) 0).2 = 0
      · rw [if_pos h1, if_pos h1]
      rw [if_neg h1, if_neg h1]
      by_cases h2 : (chr (b :: m) 0).1 = 13
      · rw [if_pos h2, if_pos h2]
        have e2 : by8 l (i + 1) = by8 m 0 := by rw [hm, by8_drop]
        simp only [readGo_rd l f, e2]
        by_cases h3 : by8 m 0 = 10
        · simp only [h3, if_true]
          rw [hm, List.drop_drop]
        · simp only [h3, if_false, List.drop_zero]
          rw [← hm]
      rw [if_neg h2, if_neg h2]
      by_cases h4 : allowed (chr (b :: m) 0).1 = true
      · rw [if_pos h4, if_pos h4]
        simp only [readGo_rd l f]
        rw [← hd, List.drop_drop]
      · rw [if_neg h4, if_neg h4]
    · rw [if_neg h, List.drop_of_length_le (by omega), rd]
theorem rd_fuel : ∀ (f g : Nat) (m : List UInt8), m.length ≤ f → m.length ≤ g → rd f m = rd g m
  | 0, g, m, h, _ => by
    obtain rfl : m = [] := List.length_eq_zero_iff.1 (by omega)
    cases g <;> rfl
  | f + 1, 0, m, _, h => by
    obtain rfl : m = [] := List.length_eq_zero_iff.1 (by omega)
    rfl
  | f + 1, g + 1, [], _, _ => rfl
  | f + 1, g + 1, b :: m, hf, hg => by
    simp only [List.length_cons] at hf hg
    rw [rd, rd]
    by_cases h1 : (chr (b :: m) 0).2 = 0
    · rw [if_pos h1, if_pos h1]
    · rw [if_neg h1, if_neg h1]
      rw [rd_fuel f g (m.drop (if by8 m 0 = 10 then 1 else 0)) (by rw [List.length_drop]; omega) (by rw [List.length_drop]; omega)]
      rw [rd_fuel f g ((b :: m).drop (chr (b :: m) 0).2) (by rw [List.length_drop, List.length_cons]; omega) (by rw [List.length_drop, List.length_cons]; omega)]
def rdA (m : List UInt8) : Cs × Nat := rd m.length m
theorem read_rdA (l : List UInt8) : read l = rdA l := by
  unfold read rdA
  rw [readGo_rd, List.drop_zero]
  exact rd_fuel _ _ _ (by omega) (Nat.le_refl _)
theorem rdA_nil : rdA [] = ([], 0) := rfl
theorem rdA_bad {b : UInt8} {m : List UInt8} (h : (chr (b :: m) 0).2 = 0) : rdA (b :: m) = ([], 10) := by
  unfold rdA; rw [List.length_cons, rd, if_pos h]
theorem chr_char (c : Nat) (t : List UInt8) (h : okc c) : chr (enc c ++ t) 0 = (c, (enc c).length) := by
  rw [chr_left _ _ _ (by rw [chr_enc c h]; exact enc_pos c), chr_enc c h]
theorem enc_cons (c : Nat) : ∃ b m, enc c = b :: m := by
  rcases h : enc c with _ | ⟨b, m⟩
  · exact absurd (by rw [h]; rfl) (enc_pos c)
  · exact ⟨b, m, rfl⟩
theorem rdA_char (c : Nat) (t : List UInt8) (h : okc c) (h1 : c ≠ 13) : rdA (enc c ++ t) = if allowed c then (c :: (rdA t).1, (rdA t).2) else ([], 20) := by
  have e := chr_char c t h
  obtain ⟨b, m, hb⟩ := enc_cons c
  have hp := enc_pos c
  unfold rdA
  rw [hb, List.cons_append] at e ⊢
  rw [List.length_cons, rd, e, if_neg (by simpa using hp), if_neg h1]
  by_cases ha : allowed c = true
  · rw [if_pos ha, if_pos ha]
    have e2 : (b :: (m ++ t)).drop (b :: m).length = t := by rw [← List.cons_append, List.drop_left]
    simp only [e2]
    rw [rd_fuel (m ++ t).length t.length t (by simp) (Nat.le_refl _)]
  · rw [if_neg ha, if_neg ha]
theorem rdA_cr (t : List UInt8) : rdA (13 :: t) = (10 :: (rdA (t.drop (if by8 t 0 = 10 then 1 else 0))).1, (rdA (t.drop (if by8 t 0 = 10 then 1 else 0))).2) := by
  have e := chr_char 13 t (by unfold okc; omega)
  have e13 : enc 13 = [13] := by decide
  rw [e13] at e
  unfold rdA
  change chr (13 :: t) 0 = (13, 1) at e
  rw [List.length_cons, rd, e]
  simp only [Nat.one_ne_zero, if_false, if_true]
  rw [rd_fuel t.length (t.drop (if by8 t 0 = 10 then 1 else 0)).length _ (by rw [List.length_drop]; omega) (Nat.le_refl _)]
theorem allowed_ne13 {c : Nat} (h : allowed c = true) : c ≠ 13 := by
  simp only [allowed, decide_eq_true_eq] at h; omega
theorem allowed_okc' {c : Nat} (h : allowed c = true) : okc c := by
  simp only [allowed, decide_eq_true_eq] at h; unfold okc; omega
/-- WHAT IS WRITTEN IS READ -/
theorem rdA_narrow : ∀ (D : Cs) (t : List UInt8), (∀ c ∈ D, allowed c = true) → rdA (narrow D ++ t) = (D ++ (rdA t).1, (rdA t).2)
  | [], t, _ => rfl
  | c :: D, t, h => by
    have hc := h c (by simp)
    have e : narrow (c :: D) ++ t = enc c ++ (narrow D ++ t) := by simp [narrow]
    rw [e, rdA_char c _ (allowed_okc' hc) (allowed_ne13 hc), if_pos hc, rdA_narrow D t fun x hx => h x (by simp [hx])]
    rfl
theorem read_narrow (D : Cs) (h : ∀ c ∈ D, allowed c = true) : read (narrow D) = (D, 0) := by
  have := rdA_narrow D [] h
  rw [List.append_nil] at this
  rw [read_rdA, this, rdA_nil, List.append_nil]
/-- a text's first character, or that it has none -/
theorem first_char (b : UInt8) (m : List UInt8) : (chr (b :: m) 0).2 = 0 ∨ ∃ c t, okc c ∧ b :: m = enc c ++ t := by
  by_cases h : (chr (b :: m) 0).2 = 0
  · exact .inl h
  · obtain ⟨h1, h2⟩ := enc_chr (b :: m) 0 h
    refine .inr ⟨_, (b :: m).drop (chr (b :: m) 0).2, h1, ?_⟩
    rw [← h2]
    unfold sub
    simp
theorem enc_dn {c : Nat} (h : c < 128) : enc c = [UInt8.ofNat c] := by unfold enc; rw [if_pos h]
theorem enc_up {c : Nat} (h : 128 ≤ c) (h2 : okc c) : ∀ b ∈ enc c, 128 ≤ b.toNat := by
  have h3 := okc_le h2
  unfold enc
  rw [if_neg (by omega)]
  intro b hb
  split at hb
  · simp only [List.mem_cons, List.not_mem_nil, or_false] at hb
    rcases hb with rfl | rfl <;> (rw [UInt8.toNat_ofNat']; omega)
  split at hb
  · simp only [List.mem_cons, List.not_mem_nil, or_false] at hb
    rcases hb with rfl | rfl | rfl <;> (rw [UInt8.toNat_ofNat']; omega)
  · simp only [List.mem_cons, List.not_mem_nil, or_false] at hb
    rcases hb with rfl | rfl | rfl | rfl <;> (rw [UInt8.toNat_ofNat']; omega)
/-- a change of single bytes below 128 -/
structure Low (g : UInt8 → List UInt8) : Prop where
  high : ∀ b : UInt8, 128 ≤ b.toNat → g b = [b]
  low : ∀ b : UInt8, b.toNat < 128 → ∃ x t, g b = x :: t ∧ x.toNat < 128
theorem Low.back {g : UInt8 → List UInt8} (G : Low g) : ∀ (x m t : List UInt8), (∀ b ∈ x, 128 ≤ b.toNat) → m.flatMap g = x ++ t → ∃ t', m = x ++ t' ∧ t = t'.flatMap g
  | [], m, t, _, h => ⟨m, rfl, h.symm⟩
  | b :: x, [], t, _, h => by simp at h
  | b :: x, a :: m, t, hx, h => by
    have hb := hx b (by simp)
    rw [List.flatMap_cons] at h
    rcases Nat.lt_or_ge a.toNat 128 with ha | ha
    · obtain ⟨y, s, e, hy⟩ := G.low a ha
      rw [e] at h
      have := (List.cons.inj h).1
      subst this
      omega
    · rw [G.high a ha] at h
      have h1 := List.cons.inj h
      obtain ⟨t', h2, h3⟩ := G.back x m t (fun y hy => hx y (by simp [hy])) h1.2
      exact ⟨t', by rw [h1.1, h2]; rfl, h3⟩
end Tk
end Go.Proofs.YtigfcchblfnnbaaGreatDoor
namespace Go.Proofs.YtigfcchblfnnbaaGreatDoor
open Go Go.RowKit
set_option linter.all false
namespace Tk
theorem dropWhile_le (p : Nat → Bool) : ∀ xs : Cs, (xs.dropWhile p).length ≤ xs.length
  | [] => by simp
  | c :: r => by
    rw [List.dropWhile_cons]
    split
    · have := dropWhile_le p r; simp; omega
    · simp
theorem name_len {xs nm r : Cs} (h : name xs = .ok (nm, r)) : nm ≠ [] ∧ r.length < xs.length := by
  unfold name at h
  split at h
  · rename_i hb
    split at h
    · cases h
    · have h1 := Except.ok.inj h
      have h2 := (Prod.mk.inj h1)
      obtain ⟨rfl, rfl⟩ := h2
      cases xs with
      | nil => simp [hd] at hb
      | cons c r =>
        have hg : goesOn c = true := by simp only [hd] at hb; simp [goesOn, hb]
        have := dropWhile_le goesOn r
        simp [List.takeWhile_cons, List.dropWhile_cons, hg]
        omega
  · cases h
theorem takeC_len {c : Nat} {xs r : Cs} {u : Unit} (h : takeC c xs = .ok (u, r)) : r.length < xs.length := by
  unfold takeC at h
  split at h
  · split at h
    · cases h; simp
    · cases h
  · cases h
theorem numGo_len (base : Nat) : ∀ (v : Nat) (xs : Cs) (a : Nat) (q : Cs), numGo base v xs = some (a, q) → q.length < xs.length
  | v, [], a, q, h => by rw [numGo] at h; cases h
  | v, c :: r, a, q, h => by
    rw [numGo] at h
    split at h
    · cases h; simp
    · split at h
      · have := numGo_len base _ r a q h; simp; omega
      · cases h
theorem numOf_len {base : Nat} {xs q : Cs} {a : Nat} (h : numOf base xs = some (a, q)) : q.length < xs.length := by
  unfold numOf at h
  split at h
  · cases h
  · rcases hg : numGo base 0 xs with _ | ⟨v, z⟩
    · rw [hg] at h; cases h
    · rw [hg] at h
      simp only [Option.bind_some] at h
      split at h
      · cases h; exact numGo_len base 0 xs _ _ hg
      · cases h
theorem number_len {xs q : Cs} {a : Nat} (h : number xs = some (a, q)) : q.length < xs.length := by
  unfold number at h
  split at h
  · have := numOf_len h; simp; omega
  · exact numOf_len h
theorem pre_le {t : List Nat} {xs : Cs} (h : pre t xs = true) : t.length ≤ xs.length := by
  unfold pre at h
  have h1 := congrArg List.length (of_decide_eq_true h)
  rw [List.length_take] at h1
  omega
theorem ref_len {xs q : Cs} {a : Nat} (h : reference xs = .ok (a, q)) : q.length < xs.length := by
  unfold reference at h
  have d : ∀ n : Nat, (xs.drop n).length = xs.length - n := fun n => List.length_drop
  split at h
  · rename_i hp; have := pre_le hp; cases h; rw [d]; simp [tLt] at this; omega
  split at h
  · rename_i hp; have := pre_le hp; cases h; rw [d]; simp [tGt] at this; omega
  split at h
  · rename_i hp; have := pre_le hp; cases h; rw [d]; simp [tAmp] at this; omega
  split at h
  · rename_i hp; have := pre_le hp; cases h; rw [d]; simp [tQuot] at this; omega
  split at h
  · rename_i hp; have := pre_le hp; cases h; rw [d]; simp [tApos] at this; omega
  split at h
  · rename_i hp
    have := pre_le hp
    simp only [List.length_cons, List.length_nil] at this
    rcases hn : number (xs.drop 2) with _ | ⟨b, z⟩
    · rw [hn] at h; cases h
    · rw [hn] at h
      cases h
      have := number_len hn
      rw [d] at this
      omega
  · cases h
theorem valGo_len (m : Nat) : ∀ (f : Nat) (xs a q : Cs), valGo m f xs = .ok (a, q) → q.length < xs.length
  | 0, xs, a, q, h => by rw [valGo] at h; cases h
  | f + 1, [], a, q, h => by rw [valGo] at h; cases h
  | f + 1, c :: r, a, q, h => by
    rw [valGo] at h
    split at h
    · cases h; simp
    split at h
    · cases h
    split at h
    · rcases hr : reference (c :: r) with e | ⟨v, z⟩
      · rw [hr] at h; cases h
      · rw [hr, and_ok] at h
        rcases hg : valGo m f z with e | ⟨b, y⟩
        · rw [hg] at h; cases h
        · rw [hg] at h
          cases h
          have := ref_len hr
          have := valGo_len m f z b q hg
          omega
    · rcases hg : valGo m f r with e | ⟨b, y⟩
      · rw [hg] at h; cases h
      · rw [hg] at h
        cases h
        have := valGo_len m f r b q hg
        simp; omega
theorem value_len {xs a q : Cs} (h : value xs = .ok (a, q)) : q.length < xs.length := by
  unfold value at h
  split at h
  · split at h
    · have := valGo_len _ _ _ _ _ h; simp; omega
    · cases h
  · cases h
theorem blanks_len (xs : Cs) : (blanks xs).length ≤ xs.length := dropWhile_le _ _
/-- the places of attributes fall, by how much is left -/
theorem attrsGo_desc : ∀ (f : Nat) (xs : Cs) (l : List Attr) (z : Cs), attrsGo f xs = .ok (l, z) →
    z.length ≤ xs.length ∧ l.Pairwise (fun a b => b.left < a.left) ∧ ∀ a ∈ l, a.left < xs.length ∧ z.length < a.left ∧ a.nm ≠ []
  | 0, xs, l, z, h => by rw [attrsGo] at h; cases h
  | f + 1, xs, l, z, h => by
    have hb := blanks_len xs
    rw [attrsGo] at h
    split at h
    · rename_i hc
      rcases h1 : name (blanks xs) with e | ⟨nm, r1⟩
      · rw [h1] at h; cases h
      rw [h1, and_ok] at h
      rcases h2 : takeC 61 (blanks r1) with e | ⟨u, r2⟩
      · rw [h2] at h; cases h
      rw [h2, and_ok] at h
      rcases h3 : value (blanks r2) with e | ⟨v, r3⟩
      · rw [h3] at h; cases h
      rw [h3, and_ok] at h
      rcases h4 : attrsGo f r3 with e | ⟨l', z'⟩
      · rw [h4] at h; cases h
      rw [h4, and_ok] at h
      cases h
      obtain ⟨i1, i2, i3⟩ := attrsGo_desc f r3 l' z h4
      obtain ⟨n1, n2⟩ := name_len h1
      have n3 := takeC_len h2
      have n4 := value_len h3
      have n5 := blanks_len r1
      have n6 := blanks_len r2
      refine ⟨by omega, List.pairwise_cons.2 ⟨fun a ha => ?_, i2⟩, fun a ha => ?_⟩
      · have := (i3 a ha).1; simp only; omega
      · rcases List.mem_cons.1 ha with rfl | ha
        · exact ⟨hc.1, by simp only; omega, n1⟩
        · obtain ⟨k1, k2, k3⟩ := i3 a ha
          exact ⟨by omega, k2, k3⟩
    · cases h
      exact ⟨hb, .nil, fun a ha => by cases ha⟩
/-- what is right of a token, where so many were left behind it -/
structure TokOk (n : Nat) (t : Tok) : Prop where
  kind : t.kind = 1 ∨ t.kind = 2 ∨ t.kind = 3
  text : t.kind = 3 ↔ t.text ≠ []
  nm : t.kind = 3 ↔ t.nm = []
  bare : t.kind ≠ 1 → t.attrs = [] ∧ t.empty = false
  desc : t.attrs.Pairwise (fun a b => b.left < a.left)
  att : ∀ a ∈ t.attrs, a.left < t.left ∧ a.nm ≠ []
  left : n < t.left
theorem TokOk.mono {n m : Nat} {t : Tok} (h : TokOk n t) (hm : m ≤ n) : TokOk m t := { h with left := by have := h.left; omega }
theorem tag_okT {xs z : Cs} {t : Tok} (h : tag xs = .ok (t, z)) : TokOk z.length t ∧ t.left = xs.length ∧ t.kind ≠ 3 := by
  unfold tag at h
  have d : ∀ n : Nat, (xs.drop n).length = xs.length - n := fun n => List.length_drop
  split at h
  · rcases h1 : name (xs.drop 2) with e | ⟨nm, r1⟩
    · rw [h1] at h; cases h
    rw [h1, and_ok] at h
    rcases h2 : takeC 62 (blanks r1) with e | ⟨u, r2⟩
    · rw [h2] at h; cases h
    rw [h2, and_ok] at h
    cases h
    obtain ⟨n1, n2⟩ := name_len h1
    have n3 := takeC_len h2
    have n4 := blanks_len r1
    rw [d] at n2
    exact ⟨⟨.inr (.inl rfl), by simp, by simp [n1], fun _ => ⟨rfl, rfl⟩, .nil, (fun a ha => by cases ha), by simp only; omega⟩, rfl, by simp⟩
  · rcases h1 : name (xs.drop 1) with e | ⟨nm, r1⟩
    · rw [h1] at h; cases h
    rw [h1, and_ok] at h
    rcases h2 : attrs r1 with e | ⟨l, r2⟩
    · rw [h2] at h; cases h
    rw [h2, and_ok] at h
    obtain ⟨n1, n2⟩ := name_len h1
    rw [d] at n2
    obtain ⟨k1, k2, k3⟩ := attrsGo_desc _ _ _ _ h2
    split at h
    · rcases h3 : takeC 62 (r2.drop 1) with e | ⟨u, r3⟩
      · rw [h3] at h; cases h
      rw [h3, and_ok] at h
      cases h
      have n3 := takeC_len h3
      rw [List.length_drop] at n3
      exact ⟨⟨.inl rfl, by simp, by simp [n1], fun e => absurd rfl e, k2, fun a ha => ⟨by have := (k3 a ha).1; simp only; omega, (k3 a ha).2.2⟩, by simp only; omega⟩, rfl, by simp⟩
    · rcases h3 : takeC 62 r2 with e | ⟨u, r3⟩
      · rw [h3] at h; cases h
      rw [h3, and_ok] at h
      cases h
      have n3 := takeC_len h3
      exact ⟨⟨.inl rfl, by simp, by simp [n1], fun e => absurd rfl e, k2, fun a ha => ⟨by have := (k3 a ha).1; simp only; omega, (k3 a ha).2.2⟩, by simp only; omega⟩, rfl, by simp⟩
theorem until_len (t : List Nat) : ∀ (xs : Cs) (x q : Cs), untilT t xs = .ok (x, q) → q.length ≤ xs.length
  | [], x, q, h => by unfold untilT at h; simp at h
  | c :: r, x, q, h => by
    unfold untilT at h
    split at h
    · simp at h; obtain ⟨-, rfl⟩ := h; simp
    · rcases hr : untilT t r with e | ⟨y, z⟩
      · rw [hr] at h; simp at h
      · rw [hr] at h; simp at h
        obtain ⟨-, rfl⟩ := h
        have := until_len t r y z hr
        simp; omega
theorem instr_len {xs q : Cs} {u : Unit} (h : instr xs = .ok (u, q)) : q.length < xs.length := by
  unfold instr at h
  rcases hn : name (xs.drop 2) with e | ⟨nm, r⟩
  · rw [hn] at h; simp at h
  rw [hn] at h
  have e2 := (name_len hn).2
  rw [List.length_drop] at e2
  simp only [and_ok] at h
  split at h
  · cases h
  split at h
  · cases h; rw [List.length_drop]; omega
  split at h
  · rcases hu : untilT [63, 62] r with e | ⟨y, z⟩
    · rw [hu] at h; cases h
    · rw [hu] at h; cases h
      have := until_len _ _ _ _ hu
      omega
  · cases h
theorem comment_len {xs q : Cs} {u : Unit} (h : comment xs = .ok (u, q)) : q.length < xs.length := by
  unfold comment at h
  rcases hu : untilT [45, 45] (xs.drop 4) with e | ⟨y, z⟩
  · rw [hu] at h; cases h
  rw [hu] at h
  have e1 := until_len _ _ _ _ hu
  rw [List.length_drop] at e1
  simp only [and_ok] at h
  split at h
  · cases h
  · split at h
    · cases h
      simp at e1; omega
    · cases h
theorem chunkGo_len : ∀ (f : Nat) (xs t q : Cs), chunkGo f xs = .ok (t, q) → q.length ≤ xs.length
  | 0, xs, t, q, h => by rw [chunkGo] at h; cases h
  | f + 1, [], t, q, h => by rw [chunkGo] at h; cases h; simp
  | f + 1, c :: r, t, q, h => by
    rw [chunkGo] at h
    split at h
    · cases h; simp
    split at h
    · cases h
    split at h
    · rcases hr : reference (c :: r) with e | ⟨v, y⟩
      · rw [hr] at h; cases h
      · rw [hr] at h
        have := ref_len hr
        simp only [and_ok] at h
        rcases hg : chunkGo f y with e | ⟨a, z⟩
        · rw [hg] at h; cases h
        · rw [hg] at h; cases h
          have := chunkGo_len f y a q hg
          omega
    · rcases hg : chunkGo f r with e | ⟨a, z⟩
      · rw [hg] at h; cases h
      · rw [hg] at h; cases h
        have := chunkGo_len f r a q hg
        simp; omega
theorem chunk_len {c : Nat} {r t q : Cs} (hc : c ≠ 60) (h : chunk (c :: r) = .ok (t, q)) : q.length < (c :: r).length := by
  unfold chunk at h
  rw [chunkGo, if_neg hc] at h
  split at h
  · cases h
  split at h
  · rcases hr : reference (c :: r) with e | ⟨v, y⟩
    · rw [hr] at h; cases h
    · rw [hr] at h
      have := ref_len hr
      simp only [and_ok] at h
      rcases hg : chunkGo (c :: r).length y with e | ⟨a, z⟩
      · rw [hg] at h; cases h
      · rw [hg] at h; cases h
        have := chunkGo_len _ y a q hg
        omega
  · rcases hg : chunkGo (c :: r).length r with e | ⟨a, z⟩
    · rw [hg] at h; cases h
    · rw [hg] at h; cases h
      have := chunkGo_len _ r a q hg
      simp; omega
/-- no text stands beside a text -/
def NoTwo (l : List Tok) : Prop := ∀ (i : Nat) a b, l[i]? = some a → l[i + 1]? = some b → ¬ (a.kind = 3 ∧ b.kind = 3)
theorem NoTwo.snoc {l : List Tok} (h : NoTwo l) (x : Tok) (hx : x.kind ≠ 3 ∨ ∀ a, l.getLast? = some a → a.kind ≠ 3) : NoTwo (l ++ [x]) := by
  intro i a b ha hb
  rcases Nat.lt_trichotomy (i + 1) l.length with h1 | h1 | h1
  · rw [List.getElem?_append_left (by omega)] at ha hb
    exact h i a b ha hb
  · rw [List.getElem?_append_left (by omega)] at ha
    rw [List.getElem?_append_right (by omega), h1, Nat.sub_self] at hb
    simp at hb
    subst hb
    rintro ⟨k1, k2⟩
    rcases hx with hx | hx
    · exact hx k2
    · refine hx a ?_ k1
      rw [List.getLast?_eq_getElem?, show l.length - 1 = i by omega]
      exact ha
  · have := (List.getElem?_eq_some_iff.1 hb).1
    simp at this
    omega
structure Rise (n : Nat) (l : List Tok) : Prop where
  ok : ∀ t ∈ l, TokOk n t
  desc : l.Pairwise (fun a b => b.left < a.left)
  two : NoTwo l
theorem Rise.mono {n m : Nat} {l : List Tok} (h : Rise n l) (hm : m ≤ n) : Rise m l := ⟨fun t ht => (h.ok t ht).mono hm, h.desc, h.two⟩
theorem Rise.snoc {n m : Nat} {l : List Tok} (h : Rise n l) (x : Tok) (hx : TokOk m x) (hm : m ≤ n) (hl : ∀ t ∈ l, x.left < t.left) (h2 : x.kind ≠ 3 ∨ ∀ a, l.getLast? = some a → a.kind ≠ 3) : Rise m (l ++ [x]) := by
  refine ⟨fun t ht => ?_, List.pairwise_append.2 ⟨h.desc, by simp, fun a ha b hb => ?_⟩, h.two.snoc x h2⟩
  · rcases List.mem_append.1 ht with ht | ht
    · exact (h.ok t ht).mono hm
    · simp at ht; subst ht; exact hx
  · simp at hb; subst hb; exact hl a ha
structure Inv (n : Nat) (st : St) : Prop where
  rise : Rise n st.toks
  last : ∀ a, st.toks.getLast? = some a → a.kind ≠ 3
  text : st.text ≠ [] → n < st.began ∧ ∀ t ∈ st.toks, st.began < t.left
theorem Inv.flush {n : Nat} {st : St} (h : Inv n st) : Rise n st.flush.toks ∧ ∀ t ∈ st.flush.toks, n < t.left := by
  unfold St.flush
  split
  · exact ⟨h.rise, fun t ht => (h.rise.ok t ht).left⟩
  · rename_i ht
    obtain ⟨h1, h2⟩ := h.text ht
    have hr := h.rise.snoc ⟨3, [], [], st.text, st.began, false⟩ (m := n) ⟨.inr (.inr rfl), by simp [ht], by simp, fun _ => ⟨rfl, rfl⟩, .nil, (fun a ha => by cases ha), h1⟩ (Nat.le_refl _) h2 (.inr h.last)
    exact ⟨hr, fun t ht => (hr.ok t ht).left⟩
theorem Inv.tag {n m : Nat} {st : St} (h : Inv n st) {t : Tok} (ht : TokOk m t) (hl : t.left = n) (hk : t.kind ≠ 3) (hm : m ≤ n) (b : Nat) : Inv m ⟨st.flush.toks ++ [t], [], b⟩ := by
  obtain ⟨h1, h2⟩ := h.flush
  refine ⟨h1.snoc t ht hm (fun x hx => by rw [hl]; exact h2 x hx) (.inl hk), fun a ha => ?_, fun e => absurd rfl e⟩
  simp at ha; subst ha; exact hk
theorem Inv.mono {n m : Nat} {st : St} (h : Inv n st) (hm : m ≤ n) : Inv m st := ⟨h.rise.mono hm, h.last, fun ht => ⟨by have := (h.text ht).1; omega, (h.text ht).2⟩⟩
theorem Inv.say {n m : Nat} {st : St} (h : Inv n st) (t : Cs) (hm : m < n) : Inv m ((st.begin n).say t) := by
  have e1 : ((st.begin n).say t).toks = st.toks := by unfold St.begin St.say; split <;> rfl
  refine ⟨by rw [e1]; exact h.rise.mono (by omega), by rw [e1]; exact h.last, fun _ => ?_⟩
  rw [e1]
  by_cases hx : st.text = []
  · have e2 : ((st.begin n).say t).began = n := by unfold St.begin St.say; rw [if_pos hx]
    rw [e2]
    exact ⟨hm, fun x hx => (h.rise.ok x hx).left⟩
  · have e2 : ((st.begin n).say t).began = st.began := by unfold St.begin St.say; rw [if_neg hx]
    rw [e2]
    obtain ⟨k1, k2⟩ := h.text hx
    exact ⟨by omega, k2⟩
theorem allGo_rise : ∀ (f : Nat) (xs : Cs) (st : St) (ts : List Tok), Inv xs.length st → allGo f xs st = .ok ts → Rise 0 ts
  | 0, xs, st, ts, _, h => by rw [allGo] at h; cases h
  | f + 1, xs, st, ts, hI, h => by
    rw [allGo] at h
    split at h
    · cases h
      exact hI.flush.1.mono (Nat.zero_le _)
    split at h
    · rcases h1 : instr xs with e | ⟨u, z⟩
      · rw [h1] at h; cases h
      rw [h1, and_ok] at h
      have := instr_len h1
      exact allGo_rise f z st ts (hI.mono (by omega)) h
    split at h
    · rcases h1 : comment xs with e | ⟨u, z⟩
      · rw [h1] at h; cases h
      rw [h1, and_ok] at h
      have := comment_len h1
      exact allGo_rise f z st ts (hI.mono (by omega)) h
    split at h
    · rename_i hp
      rcases h1 : untilT [93, 93, 62] (xs.drop 9) with e | ⟨u, z⟩
      · rw [h1] at h; cases h
      rw [h1, and_ok] at h
      have h2 := until_len _ _ _ _ h1
      have h3 := pre_le hp
      rw [List.length_drop] at h2
      simp [tCdata] at h3
      exact allGo_rise f z _ ts (hI.say u (by omega)) h
    split at h
    · cases h
    split at h
    · cases h
    split at h
    · rcases h1 : tag xs with e | ⟨t, z⟩
      · rw [h1] at h; cases h
      rw [h1, and_ok] at h
      obtain ⟨k1, k2, k3⟩ := tag_okT h1
      have k4 := k1.left
      exact allGo_rise f z _ ts (hI.tag k1 k2 k3 (by omega) _) h
    · rename_i hne _ _ _ _ _ hp
      rcases h1 : chunk xs with e | ⟨t, z⟩
      · rw [h1] at h; cases h
      rw [h1, and_ok] at h
      obtain ⟨c, r, rfl⟩ : ∃ c r, xs = c :: r := by cases xs with
        | nil => exact absurd rfl hne
        | cons c r => exact ⟨c, r, rfl⟩
      have hc : c ≠ 60 := by intro e; subst e; simp [hd] at hp
      have h2 := chunk_len hc h1
      exact allGo_rise f z _ ts (hI.say t (by omega)) h
theorem tokens_rise {cs : Cs} {ts : List Tok} (h : tokens cs = .ok ts) : Rise 0 ts := by
  unfold tokens at h
  rcases h1 : decl cs with e | ⟨u, z⟩
  · rw [h1] at h; cases h
  rw [h1, and_ok] at h
  exact allGo_rise _ z _ ts ⟨⟨(fun t ht => by cases ht), List.Pairwise.nil, (fun i a b ha _ => by simp at ha)⟩, (fun a ha => by simp at ha), fun e => absurd rfl e⟩ h
structure Lo (N : Nat) (st : St) : Prop where
  toks : ∀ t ∈ st.toks, t.left ≤ N
  began : st.text ≠ [] → st.began ≤ N
theorem Lo.flush {N : Nat} {st : St} (h : Lo N st) : ∀ t ∈ st.flush.toks, t.left ≤ N := by
  unfold St.flush
  split
  · exact h.toks
  · rename_i ht
    intro t hm
    rcases List.mem_append.1 hm with hm | hm
    · exact h.toks t hm
    · simp at hm; subst hm; exact h.began ht
theorem Lo.say {N n : Nat} {st : St} (h : Lo N st) (t : Cs) (hn : n ≤ N) : Lo N ((st.begin n).say t) := by
  have e1 : ((st.begin n).say t).toks = st.toks := by unfold St.begin St.say; split <;> rfl
  refine ⟨by rw [e1]; exact h.toks, fun _ => ?_⟩
  by_cases hx : st.text = []
  · have e2 : ((st.begin n).say t).began = n := by unfold St.begin St.say; rw [if_pos hx]
    rw [e2]; exact hn
  · have e2 : ((st.begin n).say t).began = st.began := by unfold St.begin St.say; rw [if_neg hx]
    rw [e2]; exact h.began hx
theorem allGo_lo (N : Nat) : ∀ (f : Nat) (xs : Cs) (st : St) (ts : List Tok), xs.length ≤ N → Lo N st → allGo f xs st = .ok ts → ∀ t ∈ ts, t.left ≤ N
  | 0, xs, st, ts, _, _, h => by rw [allGo] at h; cases h
  | f + 1, xs, st, ts, hN, hI, h => by
    rw [allGo] at h
    split at h
    · cases h
      exact hI.flush
    split at h
    · rcases h1 : instr xs with e | ⟨u, z⟩
      · rw [h1] at h; cases h
      rw [h1, and_ok] at h
      have := instr_len h1
      exact allGo_lo N f z st ts (by omega) hI h
    split at h
    · rcases h1 : comment xs with e | ⟨u, z⟩
      · rw [h1] at h; cases h
      rw [h1, and_ok] at h
      have := comment_len h1
      exact allGo_lo N f z st ts (by omega) hI h
    split at h
    · rcases h1 : untilT [93, 93, 62] (xs.drop 9) with e | ⟨u, z⟩
      · rw [h1] at h; cases h
      rw [h1, and_ok] at h
      have h2 := until_len _ _ _ _ h1
      rw [List.length_drop] at h2
      exact allGo_lo N f z _ ts (by omega) (hI.say u hN) h
    split at h
    · cases h
    split at h
    · cases h
    split at h
    · rcases h1 : tag xs with e | ⟨t, z⟩
      · rw [h1] at h; cases h
      rw [h1, and_ok] at h
      obtain ⟨k1, k2, k3⟩ := tag_okT h1
      have k4 := k1.left
      refine allGo_lo N f z _ ts (by omega) ⟨fun x hx => ?_, fun e => absurd rfl e⟩ h
      rcases List.mem_append.1 hx with hx | hx
      · exact hI.flush x hx
      · simp at hx; subst hx; omega
    · rcases h1 : chunk xs with e | ⟨t, z⟩
      · rw [h1] at h; cases h
      rw [h1, and_ok] at h
      have h2 := chunkGo_len _ _ _ _ h1
      exact allGo_lo N f z _ ts (by omega) (hI.say t hN) h
theorem decl_len {cs z : Cs} {u : Unit} (h : decl cs = .ok (u, z)) : z.length ≤ cs.length := by
  unfold decl at h
  split at h
  · rcases h2 : attrs (cs.drop 5) with e | ⟨l, r⟩
    · rw [h2] at h; cases h
    rw [h2, and_ok] at h
    have h3 := (attrsGo_desc _ _ _ _ h2).1
    rw [List.length_drop] at h3
    split at h
    · cases h; rw [List.length_drop]; omega
    · cases h
  · cases h; exact Nat.le_refl _
theorem tokens_lo {cs : Cs} {ts : List Tok} (h : tokens cs = .ok ts) : ∀ t ∈ ts, t.left ≤ cs.length := by
  unfold tokens at h
  rcases h1 : decl cs with e | ⟨u, z⟩
  · rw [h1] at h; cases h
  rw [h1, and_ok] at h
  exact allGo_lo _ _ z _ ts (decl_len h1) ⟨(fun t ht => by cases ht), fun e => absurd rfl e⟩ h
/-- a place behind another -/
def behind (a b : Nat × Nat) : Prop := b.1 < a.1 ∨ (a.1 = b.1 ∧ b.2 < a.2)
theorem behind_trans {a b c : Nat × Nat} (h : behind a b) (k : behind b c) : behind a c := by unfold behind at *; omega
theorem placeGo_behind : ∀ (b : Cs) (p : Nat × Nat), b ≠ [] → behind (placeGo b p) p
  | [c], p, _ => by
    show behind (if c = 10 then (p.1 + 1, 1) else (p.1, p.2 + 1)) p
    unfold behind
    split <;> simp
  | c :: d :: b, p, _ => by
    have h := placeGo_behind (d :: b) (if c = 10 then (p.1 + 1, 1) else (p.1, p.2 + 1)) (by simp)
    refine behind_trans h ?_
    unfold behind
    split <;> simp
theorem placeGo_append (a b : Cs) : ∀ p, placeGo (a ++ b) p = placeGo b (placeGo a p) := by
  induction a with
  | nil => intro p; rfl
  | cons c a ih => intro p; exact ih _
theorem place_behind (cs : Cs) {i j : Nat} (h : i < j) (hj : j ≤ cs.length) : behind (place cs j) (place cs i) := by
  unfold place
  have e : cs.take j = cs.take i ++ (cs.drop i).take (j - i) := by
    rw [show j = i + (j - i) by omega, List.take_add]
    simp
  rw [e, placeGo_append]
  refine placeGo_behind _ _ fun e2 => ?_
  have := congrArg List.length e2
  rw [List.length_take, List.length_drop] at this
  simp at this
  omega
/-- what is right of a list of tokens, as they are told -/
structure RiseV (ts : List TokV) : Prop where
  kind : ∀ t ∈ ts, t.kind = 1 ∨ t.kind = 2 ∨ t.kind = 3
  text : ∀ t ∈ ts, (t.kind = 3 ↔ t.text ≠ [])
  nm : ∀ t ∈ ts, (t.kind = 3 ↔ t.nm = [])
  bare : ∀ t ∈ ts, t.kind ≠ 1 → t.attrs = [] ∧ t.empty = false
  att0 : ∀ t ∈ ts, ∀ a ∈ t.attrs, a.nm ≠ [] ∧ behind a.at_ t.at_
  att : ∀ t ∈ ts, ∀ (i : Nat) a b, t.attrs[i]? = some a → t.attrs[i + 1]? = some b → behind b.at_ a.at_
  desc : ∀ (i : Nat) a b, ts[i]? = some a → ts[i + 1]? = some b → behind b.at_ a.at_ ∧ ¬ (a.kind = 3 ∧ b.kind = 3)
theorem narrow_nil {cs : Cs} : narrow cs = [] ↔ cs = [] := by
  cases cs with
  | nil => simp [narrow]
  | cons c cs =>
    have := enc_pos c
    have e : narrow (c :: cs) = enc c ++ narrow cs := rfl
    rw [e]
    simp only [List.append_eq_nil_iff, reduceCtorEq, iff_false, not_and]
    intro h
    rw [h] at this
    exact absurd rfl this
theorem pw_get {α : Type} {R : α → α → Prop} {l : List α} (h : l.Pairwise R) (i : Nat) (a b : α) (ha : l[i]? = some a) (hb : l[i + 1]? = some b) : R a b := by
  obtain ⟨h1, rfl⟩ := List.getElem?_eq_some_iff.1 ha
  obtain ⟨h2, rfl⟩ := List.getElem?_eq_some_iff.1 hb
  exact List.pairwise_iff_getElem.1 h i (i + 1) h1 h2 (by omega)
/-- how many are left is at most all -/
def Lefts (n : Nat) (l : List Tok) : Prop := ∀ t ∈ l, t.left ≤ n
theorem rise_fin (cs : Cs) (l : List Tok) (h : Rise 0 l) (hl : Lefts cs.length l) : RiseV (l.map (Tok.fin cs)) := by
  have hm : ∀ t ∈ l.map (Tok.fin cs), ∃ s ∈ l, t = Tok.fin cs s := fun t ht => by
    obtain ⟨s, hs, rfl⟩ := List.mem_map.1 ht; exact ⟨s, hs, rfl⟩
  refine ⟨?_, ?_, ?_, ?_, ?_, ?_, ?_⟩
  · intro t ht; obtain ⟨s, hs, rfl⟩ := hm t ht; exact (h.ok s hs).kind
  · intro t ht; obtain ⟨s, hs, rfl⟩ := hm t ht
    show s.kind = 3 ↔ narrow s.text ≠ []
    rw [(h.ok s hs).text, ne_eq, ne_eq, narrow_nil]
  · intro t ht; obtain ⟨s, hs, rfl⟩ := hm t ht
    show s.kind = 3 ↔ narrow s.nm = []
    rw [(h.ok s hs).nm, narrow_nil]
  · intro t ht hk; obtain ⟨s, hs, rfl⟩ := hm t ht
    obtain ⟨k1, k2⟩ := (h.ok s hs).bare hk
    exact ⟨by show s.attrs.map _ = []; rw [k1]; rfl, k2⟩
  · intro t ht a ha; obtain ⟨s, hs, rfl⟩ := hm t ht
    obtain ⟨b, hb, rfl⟩ := List.mem_map.1 ha
    obtain ⟨k1, k2⟩ := (h.ok s hs).att b hb
    have k3 := hl s hs
    exact ⟨fun e => k2 (narrow_nil.1 e), place_behind cs (by omega) (by omega)⟩
  · intro t ht i a b ha hb; obtain ⟨s, hs, rfl⟩ := hm t ht
    change (s.attrs.map _)[i]? = _ at ha
    change (s.attrs.map _)[i + 1]? = _ at hb
    rw [List.getElem?_map] at ha hb
    obtain ⟨a', ha', rfl⟩ := Option.map_eq_some_iff.1 ha
    obtain ⟨b', hb', rfl⟩ := Option.map_eq_some_iff.1 hb
    have k := pw_get (h.ok s hs).desc i a' b' ha' hb'
    have k1 := ((h.ok s hs).att a' (List.mem_of_getElem? ha')).1
    have k3 := hl s hs
    exact place_behind cs (by omega) (by omega)
  · intro i a b ha hb
    rw [List.getElem?_map] at ha hb
    obtain ⟨a', ha', rfl⟩ := Option.map_eq_some_iff.1 ha
    obtain ⟨b', hb', rfl⟩ := Option.map_eq_some_iff.1 hb
    have k := pw_get h.desc i a' b' ha' hb'
    have k3 := hl a' (List.mem_of_getElem? ha')
    exact ⟨place_behind cs (by omega) (by omega), h.two i a' b' ha' hb'⟩
/-- THE PLACES OF THE TOKENS RISE -/
theorem whole_rise {l : List UInt8} {ts : List TokV} (h : whole l = .ok ts) : RiseV ts := by
  unfold whole at h
  split at h
  · cases h
  split at h
  · cases h
  rcases h1 : tokens (read l).1 with ⟨k, e⟩ | us
  · rw [h1] at h; cases h
  rw [h1] at h
  cases h
  exact rise_fin _ us (tokens_rise h1) (tokens_lo h1)
end Tk
end Go.Proofs.YtigfcchblfnnbaaGreatDoor
namespace Go.Proofs.YtigfcchblfnnbaaGreatDoor
open Go Go.RowKit
set_option linter.all false
namespace Tk
/-- the first so many are the same, whatever is behind them -/
theorem pre_app {t : List Nat} {a : Cs} (b : Cs) (h : pre t a = true) : pre t (a ++ b) = true := by
  have h1 := pre_le h
  unfold pre at h ⊢
  rw [List.take_append_of_le_length h1]; exact h
theorem pre_same {t : List Nat} {a : Cs} (b c : Cs) (h : t.length ≤ a.length) : pre t (a ++ b) = pre t (a ++ c) := by
  unfold pre
  rw [List.take_append_of_le_length h, List.take_append_of_le_length h]
theorem pre_split {t : List Nat} {xs : Cs} (h : pre t xs = true) : xs = t ++ xs.drop t.length := by
  unfold pre at h
  have h1 := of_decide_eq_true h
  conv => lhs; rw [← List.take_append_drop t.length xs, h1]
theorem pre_self (t : List Nat) (y : Cs) : pre t (t ++ y) = true := by
  unfold pre; simp
theorem takeWhile_all (p : Nat → Bool) : ∀ xs : Cs, ∀ c ∈ xs.takeWhile p, p c = true
  | [], c, h => by cases h
  | x :: xs, c, h => by
    rw [List.takeWhile_cons] at h
    split at h
    · rename_i hp
      rcases List.mem_cons.1 h with rfl | h
      · exact hp
      · exact takeWhile_all p xs c h
    · cases h
theorem takeWhile_app (p : Nat → Bool) : ∀ (a y : Cs), (∀ c ∈ a, p c = true) → hd p y = false → (a ++ y).takeWhile p = a ∧ (a ++ y).dropWhile p = y
  | [], [], _, _ => ⟨rfl, rfl⟩
  | [], c :: y, _, h => by
    simp only [hd] at h
    simp [List.takeWhile_cons, List.dropWhile_cons, h]
  | c :: a, y, h, hy => by
    have hc := h c (by simp)
    obtain ⟨i1, i2⟩ := takeWhile_app p a y (fun x hx => h x (by simp [hx])) hy
    simp [List.takeWhile_cons, List.dropWhile_cons, hc, i1, i2]
theorem goesOn_ne {c : Nat} (h : goesOn c = true) : c ≠ 60 ∧ c ≠ 62 ∧ c ≠ 33 ∧ c ≠ 63 ∧ c ≠ 47 := by
  simp only [goesOn, begins, Bool.or_eq_true, decide_eq_true_eq] at h; omega
theorem name_ext {xs nm r : Cs} (h : name xs = .ok (nm, r)) : xs = nm ++ r ∧ (∀ c ∈ nm, goesOn c = true) ∧ hd begins nm = true ∧ ∀ y, hd goesOn y = false → name (nm ++ y) = .ok (nm, y) := by
  unfold name at h
  split at h
  · rename_i hb
    split at h
    · cases h
    · rename_i hl
      have h2 := (Prod.mk.inj (Except.ok.inj h))
      obtain ⟨rfl, rfl⟩ := h2
      have hbeg : hd begins (xs.takeWhile goesOn) = true := by
        cases xs with
        | nil => simp [hd] at hb
        | cons c r =>
          simp only [hd] at hb
          have hg : goesOn c = true := by simp [goesOn, hb]
          rw [List.takeWhile_cons, hg]
          exact hb
      refine ⟨(List.takeWhile_append_dropWhile).symm, takeWhile_all _ _, hbeg, fun y hy => ?_⟩
      obtain ⟨i1, i2⟩ := takeWhile_app goesOn (xs.takeWhile goesOn) y (takeWhile_all _ _) hy
      unfold name
      rw [i1, i2]
      have : hd begins (xs.takeWhile goesOn ++ y) = true := by
        cases hx : xs.takeWhile goesOn with
        | nil => rw [hx] at hbeg; simp [hd] at hbeg
        | cons c r => rw [hx] at hbeg; exact hbeg
      rw [if_pos this, if_neg hl]
  · cases h
theorem blanks_ext (xs : Cs) : ∃ b, xs = b ++ blanks xs ∧ (∀ c ∈ b, blank c = true) ∧ ∀ y, hd blank y = false → blanks (b ++ y) = y :=
  ⟨xs.takeWhile blank, (List.takeWhile_append_dropWhile).symm, takeWhile_all _ _, fun y hy => (takeWhile_app blank _ y (takeWhile_all _ _) hy).2⟩
theorem blank_ne {c : Nat} (h : blank c = true) : c ≠ 60 ∧ c ≠ 62 ∧ goesOn c = false := by
  simp only [blank, decide_eq_true_eq] at h
  refine ⟨by omega, by omega, ?_⟩
  simp only [goesOn, begins, Bool.or_eq_false_iff, decide_eq_false_iff_not]
  omega
theorem takeC_ext {c : Nat} {xs r : Cs} {u : Unit} (h : takeC c xs = .ok (u, r)) : xs = c :: r := by
  unfold takeC at h
  split at h
  · split at h
    · rename_i hd; cases h; rw [hd]
    · cases h
  · cases h
theorem takeC_self (c : Nat) (y : Cs) : takeC c (c :: y) = .ok ((), y) := by simp [takeC]
theorem dig_ne {base c : Nat} (hb : base ≤ 16) (h : dig c < base) : c ≠ 60 ∧ c ≠ 59 ∧ c ≠ 62 := by
  refine ⟨?_, ?_, ?_⟩ <;> (rintro rfl; simp [dig] at h; omega)
theorem numGo_ext (base : Nat) (hb : base ≤ 16) : ∀ (v : Nat) (xs : Cs) (a : Nat) (q : Cs), numGo base v xs = some (a, q) → ∃ p, xs = p ++ q ∧ (∀ c ∈ p, c ≠ 60 ∧ c ≠ 62) ∧ p ≠ [] ∧ ∀ y, numGo base v (p ++ y) = some (a, y)
  | v, [], a, q, h => by rw [numGo] at h; cases h
  | v, c :: r, a, q, h => by
    rw [numGo] at h
    split at h
    · rename_i hc
      cases h
      refine ⟨[c], rfl, fun x hx => by simp at hx; subst hx; omega, by simp, fun y => ?_⟩
      show numGo base _ (c :: y) = _
      rw [numGo, if_pos hc]
    · rename_i hc
      split at h
      · rename_i hg
        obtain ⟨p, h1, h2, -, h4⟩ := numGo_ext base hb _ r a q h
        refine ⟨c :: p, by rw [h1]; rfl, fun x hx => ?_, by simp, fun y => ?_⟩
        · rcases List.mem_cons.1 hx with rfl | hx
          · exact ⟨(dig_ne hb hg).1, (dig_ne hb hg).2.2⟩
          · exact h2 x hx
        · show numGo base v (c :: (p ++ y)) = _
          rw [numGo, if_neg hc, if_pos hg, h4]
      · cases h
theorem numOf_ext {base : Nat} (hb : base ≤ 16) {xs q : Cs} {a : Nat} (h : numOf base xs = some (a, q)) : ∃ p, xs = p ++ q ∧ (∀ c ∈ p, c ≠ 60 ∧ c ≠ 62) ∧ p ≠ [] ∧ ∀ y, numOf base (p ++ y) = some (a, y) := by
  unfold numOf at h
  split at h
  · cases h
  · rename_i hs
    rcases hg : numGo base 0 xs with _ | ⟨v, z⟩
    · rw [hg] at h; cases h
    · rw [hg] at h
      simp only [Option.bind_some] at h
      split at h
      · rename_i ha
        cases h
        obtain ⟨p, h1, h2, h3, h4⟩ := numGo_ext base hb 0 xs _ _ hg
        refine ⟨p, h1, h2, h3, fun y => ?_⟩
        have hh : hd (fun c => c == 59) (p ++ y) = false := by
          rw [h1] at hs
          cases p with
          | nil => exact absurd rfl h3
          | cons c p => simpa [hd] using hs
        unfold numOf
        rw [hh, h4]
        simp only [Bool.false_eq_true, if_false, Option.bind_some, ha, if_true]
      · cases h
theorem number_ext {xs q : Cs} {a : Nat} (h : number xs = some (a, q)) : ∃ p, xs = p ++ q ∧ (∀ c ∈ p, c ≠ 60 ∧ c ≠ 62) ∧ ∀ y, number (p ++ y) = some (a, y) := by
  unfold number at h
  split at h
  · obtain ⟨p, h1, h2, h3, h4⟩ := numOf_ext (by omega) h
    refine ⟨120 :: p, by rw [h1]; rfl, fun x hx => ?_, fun y => ?_⟩
    · rcases List.mem_cons.1 hx with rfl | hx
      · omega
      · exact h2 x hx
    · exact h4 y
  · rename_i hx
    obtain ⟨p, h1, h2, h3, h4⟩ := numOf_ext (by omega) h
    refine ⟨p, h1, h2, fun y => ?_⟩
    cases p with
    | nil => exact absurd rfl h3
    | cons c p =>
      unfold number
      split
      · rename_i e
        have := (List.cons.inj e).1
        subst this
        exact absurd (by rw [h1]; rfl) (hx (p ++ q))
      · exact h4 y
theorem ref_ext {xs q : Cs} {a : Nat} (h : reference xs = .ok (a, q)) : ∃ p, xs = 38 :: p ++ q ∧ (∀ c ∈ p, c ≠ 60 ∧ c ≠ 62) ∧ ∀ y, reference (38 :: p ++ y) = .ok (a, y) := by
  unfold reference at h
  split at h
  · rename_i hp
    cases h
    refine ⟨[108, 116, 59], pre_split hp, by decide, fun y => by simp [reference, pre, tLt]⟩
  split at h
  · rename_i hp
    cases h
    refine ⟨[103, 116, 59], pre_split hp, by decide, fun y => by simp [reference, pre, tLt, tGt]⟩
  split at h
  · rename_i hp
    cases h
    refine ⟨[97, 109, 112, 59], pre_split hp, by decide, fun y => by simp [reference, pre, tLt, tGt, tAmp]⟩
  split at h
  · rename_i hp
    cases h
    refine ⟨[113, 117, 111, 116, 59], pre_split hp, by decide, fun y => by simp [reference, pre, tLt, tGt, tAmp, tQuot]⟩
  split at h
  · rename_i hp
    cases h
    refine ⟨[97, 112, 111, 115, 59], pre_split hp, by decide, fun y => by simp [reference, pre, tLt, tGt, tAmp, tQuot, tApos]⟩
  split at h
  · rename_i hp
    rcases hn : number (xs.drop 2) with _ | ⟨b, z⟩
    · rw [hn] at h; cases h
    · rw [hn] at h
      cases h
      obtain ⟨p, h1, h2, h3⟩ := number_ext hn
      have h4 := pre_split hp
      simp only [List.length_cons, List.length_nil] at h4
      refine ⟨35 :: p, by rw [h4, h1]; rfl, fun x hx => ?_, fun y => ?_⟩
      · rcases List.mem_cons.1 hx with rfl | hx
        · omega
        · exact h2 x hx
      · have h5 := h3 y
        simp only [List.cons_append]
        unfold reference
        rw [if_neg (by simp [pre, tLt]), if_neg (by simp [pre, tGt]), if_neg (by simp [pre, tAmp]), if_neg (by simp [pre, tQuot]), if_neg (by simp [pre, tApos]), if_pos (by simp [pre])]
        simp only [List.drop_succ_cons, List.drop_zero]
        rw [h5]
  · cases h
theorem valGo_ext (m : Nat) (hm : m ≠ 60) : ∀ (f : Nat) (xs a q : Cs), valGo m f xs = .ok (a, q) → ∃ p, xs = p ++ q ∧ (∀ c ∈ p, c ≠ 60) ∧ ∀ (y : Cs) (g : Nat), p.length ≤ g → valGo m g (p ++ y) = .ok (a, y)
  | 0, xs, a, q, h => by rw [valGo] at h; cases h
  | f + 1, [], a, q, h => by rw [valGo] at h; cases h
  | f + 1, c :: r, a, q, h => by
    rw [valGo] at h
    split at h
    · rename_i hc
      cases h
      refine ⟨[c], rfl, fun x hx => by simp at hx; omega, fun y g hg => ?_⟩
      obtain ⟨g, rfl⟩ : ∃ k, g = k + 1 := ⟨g - 1, by simp at hg; omega⟩
      show valGo m (g + 1) (c :: y) = _
      rw [valGo, if_pos hc]
    rename_i hc
    split at h
    · cases h
    rename_i h60
    split at h
    · rename_i h38
      rcases hr : reference (c :: r) with e | ⟨v, z⟩
      · rw [hr] at h; cases h
      · rw [hr, and_ok] at h
        rcases hg : valGo m f z with e | ⟨b, w⟩
        · rw [hg] at h; cases h
        · rw [hg] at h
          cases h
          obtain ⟨p1, i1, i2, i3⟩ := ref_ext hr
          obtain ⟨p2, j1, j2, j3⟩ := valGo_ext m hm f z b q hg
          refine ⟨38 :: p1 ++ p2, by rw [i1, j1, List.append_assoc], fun x hx => ?_, fun y g hg => ?_⟩
          · rcases List.mem_append.1 hx with hx | hx
            · rcases List.mem_cons.1 hx with rfl | hx
              · omega
              · exact (i2 x hx).1
            · exact j2 x hx
          · simp only [List.length_append, List.length_cons] at hg
            obtain ⟨g, rfl⟩ : ∃ k, g = k + 1 := ⟨g - 1, by omega⟩
            have e := i3 (p2 ++ y)
            rw [List.append_assoc]
            rw [List.cons_append] at e ⊢
            rw [valGo, if_neg (by omega), if_neg (by omega), if_pos rfl, e, and_ok, j3 y g (by omega), and_ok]
    · rename_i h38
      rcases hg : valGo m f r with e | ⟨b, w⟩
      · rw [hg] at h; cases h
      · rw [hg] at h
        cases h
        obtain ⟨p2, j1, j2, j3⟩ := valGo_ext m hm f r b q hg
        refine ⟨c :: p2, by rw [j1]; rfl, fun x hx => ?_, fun y g hg => ?_⟩
        · rcases List.mem_cons.1 hx with rfl | hx
          · exact h60
          · exact j2 x hx
        · simp only [List.length_cons] at hg
          obtain ⟨g, rfl⟩ : ∃ k, g = k + 1 := ⟨g - 1, by omega⟩
          rw [List.cons_append, valGo, if_neg hc, if_neg h60, if_neg h38, j3 y g (by omega), and_ok]
theorem value_ext {xs a q : Cs} (h : value xs = .ok (a, q)) : ∃ p, xs = p ++ q ∧ (∀ c ∈ p, c ≠ 60) ∧ (∃ c r, p = c :: r ∧ (c = 34 ∨ c = 39)) ∧ ∀ y, value (p ++ y) = .ok (a, y) := by
  unfold value at h
  split at h
  · rename_i c r
    split at h
    · rename_i hc
      obtain ⟨p, h1, h2, h3⟩ := valGo_ext c (by omega) _ _ _ _ h
      refine ⟨c :: p, by rw [h1]; rfl, fun x hx => ?_, ⟨c, p, rfl, hc⟩, fun y => ?_⟩
      · rcases List.mem_cons.1 hx with rfl | hx
        · omega
        · exact h2 x hx
      · rw [List.cons_append]
        simp only [value]
        rw [if_pos hc]
        exact h3 y _ (by simp; omega)
    · cases h
  · cases h
/-- an attribute, a token, but for places -/
def Attr.bare (a : Attr) : Cs × Cs := (a.nm, a.val)
def Tok.bare (t : Tok) : Nat × Cs × List (Cs × Cs) × Cs × Bool := (t.kind, t.nm, t.attrs.map Attr.bare, t.text, t.empty)
theorem hd_app {p : Nat → Bool} {a : Cs} (h : a ≠ []) (b : Cs) : hd p (a ++ b) = hd p a := by
  cases a with
  | nil => exact absurd rfl h
  | cons c a => rfl
theorem hd_nil {p : Nat → Bool} {a : Cs} (h : hd p a = true) : a ≠ [] := by rintro rfl; cases h
theorem begins_ne {c : Nat} (h : begins c = true) : blank c = false ∧ c ≠ 60 ∧ goesOn c = true := by
  refine ⟨?_, ?_, by simp [goesOn, h]⟩
  · simp only [begins, decide_eq_true_eq] at h; simp only [blank, decide_eq_false_iff_not]; omega
  · simp only [begins, decide_eq_true_eq] at h; omega
theorem hd_imp {p q : Nat → Bool} (h : ∀ c, p c = true → q c = false) {a : Cs} (ha : hd p a = true) : hd q a = false := by
  cases a with
  | nil => rfl
  | cons c a => exact h c ha
theorem goes_blank {c : Nat} (h : blank c = true) : goesOn c = false := (blank_ne h).2.2
theorem hd_goes_eq (b y : Cs) (hb : ∀ c ∈ b, blank c = true) : hd goesOn (b ++ 61 :: y) = false := by
  cases b with
  | nil => rfl
  | cons c b => exact goes_blank (hb c (by simp))
theorem attrsGo_ext : ∀ (f : Nat) (xs : Cs) (l : List Attr) (q : Cs), attrsGo f xs = .ok (l, q) →
    ∃ p, xs = p ++ q ∧ (∀ c ∈ p, c ≠ 60) ∧ (∀ c, p.head? = some c → blank c = true) ∧ ∀ (y : Cs) (g : Nat), hd blank y = false → hd begins y = false → p.length < g → ∃ l', attrsGo g (p ++ y) = .ok (l', y) ∧ l'.map Attr.bare = l.map Attr.bare
  | 0, xs, l, q, h => by rw [attrsGo] at h; cases h
  | f + 1, xs, l, q, h => by
    obtain ⟨b, e0, b2, b3⟩ := blanks_ext xs
    rw [attrsGo] at h
    split at h
    · rename_i hc
      rcases h1 : name (blanks xs) with e | ⟨nm, r1⟩
      · rw [h1] at h; cases h
      rw [h1, and_ok] at h
      rcases h2 : takeC 61 (blanks r1) with e | ⟨u, r2⟩
      · rw [h2] at h; cases h
      rw [h2, and_ok] at h
      rcases h3 : value (blanks r2) with e | ⟨v, r3⟩
      · rw [h3] at h; cases h
      rw [h3, and_ok] at h
      rcases h4 : attrsGo f r3 with e | ⟨l', z'⟩
      · rw [h4] at h; cases h
      rw [h4, and_ok] at h
      cases h
      obtain ⟨e1, n2, n3, n4⟩ := name_ext h1
      obtain ⟨c1, e2, c2, c3⟩ := blanks_ext r1
      have e3 := takeC_ext h2
      obtain ⟨d1, e4, d2, d3⟩ := blanks_ext r2
      obtain ⟨p3, e5, v2, ⟨vc, vr, hv, hvq⟩, v4⟩ := value_ext h3
      obtain ⟨p4, e6, a2, -, a4⟩ := attrsGo_ext f r3 l' q h4
      have hb0 : b ≠ [] := by
        rintro rfl
        have := hc.1
        rw [List.nil_append] at e0
        rw [← e0] at this
        omega
      refine ⟨b ++ (nm ++ (c1 ++ (61 :: (d1 ++ (p3 ++ p4))))), ?_, fun x hx => ?_, fun x hx => ?_, fun y g hy1 hy2 hg => ?_⟩
      · rw [e0, e1, e2, e3, e4, e5, e6]; simp
      · simp only [List.mem_append, List.mem_cons] at hx
        rcases hx with hx | hx | hx | rfl | hx | hx | hx
        · exact (blank_ne (b2 x hx)).1
        · exact (goesOn_ne (n2 x hx)).1
        · exact (blank_ne (c2 x hx)).1
        · omega
        · exact (blank_ne (d2 x hx)).1
        · exact v2 x hx
        · exact a2 x hx
      · cases b with
        | nil => exact absurd rfl hb0
        | cons x0 b => simp at hx; subst hx; exact b2 _ (by simp)
      · simp only [List.length_append, List.length_cons] at hg
        obtain ⟨g, rfl⟩ : ∃ k, g = k + 1 := ⟨g - 1, by omega⟩
        obtain ⟨l2, k1, k2⟩ := a4 y g hy1 hy2 (by omega)
        have hne : nm ≠ [] := hd_nil n3
        have s0 : b ++ (nm ++ (c1 ++ (61 :: (d1 ++ (p3 ++ p4))))) ++ y = b ++ (nm ++ (c1 ++ (61 :: (d1 ++ (p3 ++ (p4 ++ y)))))) := by simp
        have s1 : blanks (b ++ (nm ++ (c1 ++ (61 :: (d1 ++ (p3 ++ (p4 ++ y))))))) = nm ++ (c1 ++ (61 :: (d1 ++ (p3 ++ (p4 ++ y))))) := b3 _ (by rw [hd_app hne]; exact hd_imp (fun c hc => (begins_ne hc).1) n3)
        have s2 : name (nm ++ (c1 ++ (61 :: (d1 ++ (p3 ++ (p4 ++ y)))))) = .ok (nm, c1 ++ (61 :: (d1 ++ (p3 ++ (p4 ++ y))))) := n4 _ (hd_goes_eq _ _ c2)
        have s3 : blanks (c1 ++ (61 :: (d1 ++ (p3 ++ (p4 ++ y))))) = 61 :: (d1 ++ (p3 ++ (p4 ++ y))) := c3 _ (by simp [hd, blank])
        have s4 : blanks (d1 ++ (p3 ++ (p4 ++ y))) = p3 ++ (p4 ++ y) := d3 _ (by rw [hv]; simp only [List.cons_append, hd, blank, decide_eq_false_iff_not]; omega)
        have s5 : value (p3 ++ (p4 ++ y)) = .ok (v, p4 ++ y) := v4 _
        refine ⟨⟨nm, v, (nm ++ (c1 ++ (61 :: (d1 ++ (p3 ++ (p4 ++ y)))))).length⟩ :: l2, ?_, ?_⟩
        rw [s0, attrsGo, s1, if_pos ⟨by
          have := List.length_pos_iff.2 hb0
          simp; omega, by rw [hd_app hne]; exact n3⟩, s2, and_ok, s3, takeC_self, and_ok, s4, s5, and_ok, k1, and_ok]
        simp [k2, Attr.bare]
    · rename_i hc
      cases h
      refine ⟨b, e0, fun x hx => (blank_ne (b2 x hx)).1, fun x hx => b2 x (by cases b with | nil => cases hx | cons c b => simp at hx; subst hx; simp), fun y g hy1 hy2 hg => ⟨[], ?_, rfl⟩⟩
      obtain ⟨g, rfl⟩ : ∃ k, g = k + 1 := ⟨g - 1, by omega⟩
      rw [attrsGo, b3 y hy1, if_neg (by rw [hy2]; simp)]
theorem attrs_ext {xs : Cs} {l : List Attr} {q : Cs} (h : attrs xs = .ok (l, q)) :
    ∃ p, xs = p ++ q ∧ (∀ c ∈ p, c ≠ 60) ∧ (∀ c, p.head? = some c → blank c = true) ∧ ∀ (y : Cs), hd blank y = false → hd begins y = false → ∃ l', attrs (p ++ y) = .ok (l', y) ∧ l'.map Attr.bare = l.map Attr.bare := by
  obtain ⟨p, h1, h2, h3, h4⟩ := attrsGo_ext _ _ _ _ h
  exact ⟨p, h1, h2, h3, fun y hy1 hy2 => h4 y _ hy1 hy2 (by simp; omega)⟩
/-- A TAG: what it goes over -/
theorem tag_ext {xs z : Cs} {t : Tok} (hx : hd (fun c => c == 60) xs = true) (h : tag xs = .ok (t, z)) :
    ∃ c r, xs = 60 :: c :: r ++ z ∧ c ≠ 33 ∧ c ≠ 63 ∧ c ≠ 60 ∧ (∀ c ∈ r, c ≠ 60) ∧ ∀ y, ∃ t', tag (60 :: c :: r ++ y) = .ok (t', y) ∧ t'.bare = t.bare := by
  obtain ⟨xs, rfl⟩ : ∃ ys, xs = 60 :: ys := by
    cases xs with
    | nil => cases hx
    | cons c ys => simp [hd] at hx; subst hx; exact ⟨ys, rfl⟩
  unfold tag at h
  split at h
  · rename_i h47
    obtain ⟨xs, rfl⟩ : ∃ ys, xs = 47 :: ys := by
      cases xs with
      | nil => cases h47
      | cons c ys => simp [hd] at h47; subst h47; exact ⟨ys, rfl⟩
    simp only [List.drop_succ_cons, List.drop_zero] at h
    rcases h1 : name xs with e | ⟨nm, r1⟩
    · rw [h1] at h; cases h
    rw [h1, and_ok] at h
    rcases h2 : takeC 62 (blanks r1) with e | ⟨u, r2⟩
    · rw [h2] at h; cases h
    rw [h2, and_ok] at h
    cases h
    obtain ⟨e1, n2, n3, n4⟩ := name_ext h1
    obtain ⟨c1, e2, c2, c3⟩ := blanks_ext r1
    have e3 := takeC_ext h2
    refine ⟨47, nm ++ (c1 ++ [62]), by rw [e1, e2, e3]; simp, by omega, by omega, by omega, fun x hx => ?_, fun y => ⟨⟨2, nm, [], [], (60 :: 47 :: (nm ++ (c1 ++ [62])) ++ y).length, false⟩, ?_, rfl⟩⟩
    · simp only [List.mem_append, List.mem_singleton] at hx
      rcases hx with hx | hx | rfl
      · exact (goesOn_ne (n2 x hx)).1
      · exact (blank_ne (c2 x hx)).1
      · omega
    · have s1 : name (nm ++ (c1 ++ 62 :: y)) = .ok (nm, c1 ++ 62 :: y) := n4 _ (by
        cases c1 with
        | nil => rfl
        | cons c b => exact goes_blank (c2 c (by simp)))
      have s2 : blanks (c1 ++ 62 :: y) = 62 :: y := c3 _ rfl
      unfold tag
      rw [if_pos (by simp [hd])]
      have s0 : (60 :: 47 :: (nm ++ (c1 ++ [62])) ++ y).drop 2 = nm ++ (c1 ++ 62 :: y) := by simp
      rw [s0, s1, and_ok, s2, takeC_self, and_ok]
  · rename_i h47
    simp only [List.drop_succ_cons, List.drop_zero] at h h47
    rcases h1 : name xs with e | ⟨nm, r1⟩
    · rw [h1] at h; cases h
    rw [h1, and_ok] at h
    rcases h2 : attrs r1 with e | ⟨l, r2⟩
    · rw [h2] at h; cases h
    rw [h2, and_ok] at h
    obtain ⟨e1, n2, n3, n4⟩ := name_ext h1
    obtain ⟨p2, e2, a2, a3, a4⟩ := attrs_ext h2
    obtain ⟨c, nr, rfl⟩ : ∃ c nr, nm = c :: nr := by
      cases nm with
      | nil => cases n3
      | cons c nr => exact ⟨c, nr, rfl⟩
    have hcg := n2 c (by simp)
    have hgo : ∀ (d : Nat) (y : Cs), goesOn d = false → hd goesOn (p2 ++ d :: y) = false := fun d y hd' => by
      cases p2 with
      | nil => exact hd'
      | cons c b => exact goes_blank (a3 c rfl)
    split at h
    · rename_i hs
      obtain ⟨r3, rfl⟩ : ∃ ys, r2 = 47 :: ys := by
        cases r2 with
        | nil => cases hs
        | cons c ys => simp [hd] at hs; subst hs; exact ⟨ys, rfl⟩
      simp only [List.drop_succ_cons, List.drop_zero] at h
      rcases h3 : takeC 62 r3 with e | ⟨u, r4⟩
      · rw [h3] at h; cases h
      rw [h3, and_ok] at h
      cases h
      have e3 := takeC_ext h3
      refine ⟨c, nr ++ (p2 ++ [47, 62]), by rw [e1, e2, e3]; simp, (goesOn_ne hcg).2.2.1, (goesOn_ne hcg).2.2.2.1, (goesOn_ne hcg).1, fun x hx => ?_, fun y => ?_⟩
      · simp only [List.mem_append, List.mem_cons, List.not_mem_nil, or_false] at hx
        rcases hx with hx | hx | rfl | rfl
        · exact (goesOn_ne (n2 x (by simp [hx]))).1
        · exact a2 x hx
        · omega
        · omega
      · obtain ⟨l', k1, k2⟩ := a4 (47 :: 62 :: y) rfl rfl
        have s1 := n4 (p2 ++ 47 :: 62 :: y) (hgo 47 _ rfl)
        refine ⟨⟨1, c :: nr, l', [], (60 :: c :: (nr ++ (p2 ++ [47, 62])) ++ y).length, true⟩, ?_, by simp [Tok.bare, k2]⟩
        unfold tag
        rw [if_neg (by simp [hd]; exact (goesOn_ne hcg).2.2.2.2)]
        have s0 : (60 :: c :: (nr ++ (p2 ++ [47, 62])) ++ y).drop 1 = (c :: nr) ++ (p2 ++ 47 :: 62 :: y) := by simp
        rw [s0, s1, and_ok, k1, and_ok, if_pos (by simp [hd])]
        simp only [List.drop_succ_cons, List.drop_zero]
        rw [takeC_self, and_ok]
    · rename_i hs
      rcases h3 : takeC 62 r2 with e | ⟨u, r4⟩
      · rw [h3] at h; cases h
      rw [h3, and_ok] at h
      cases h
      have e3 := takeC_ext h3
      refine ⟨c, nr ++ (p2 ++ [62]), by rw [e1, e2, e3]; simp, (goesOn_ne hcg).2.2.1, (goesOn_ne hcg).2.2.2.1, (goesOn_ne hcg).1, fun x hx => ?_, fun y => ?_⟩
      · simp only [List.mem_append, List.mem_cons, List.not_mem_nil, or_false] at hx
        rcases hx with hx | hx | rfl
        · exact (goesOn_ne (n2 x (by simp [hx]))).1
        · exact a2 x hx
        · omega
      · obtain ⟨l', k1, k2⟩ := a4 (62 :: y) rfl rfl
        have s1 := n4 (p2 ++ 62 :: y) (hgo 62 _ rfl)
        refine ⟨⟨1, c :: nr, l', [], (60 :: c :: (nr ++ (p2 ++ [62])) ++ y).length, false⟩, ?_, by simp [Tok.bare, k2]⟩
        unfold tag
        rw [if_neg (by simp [hd]; exact (goesOn_ne hcg).2.2.2.2)]
        have s0 : (60 :: c :: (nr ++ (p2 ++ [62])) ++ y).drop 1 = (c :: nr) ++ (p2 ++ 62 :: y) := by simp
        rw [s0, s1, and_ok, k1, and_ok, if_neg (by simp [hd]), takeC_self, and_ok]
/-- UP TO A TEXT -/
theorem until_ext (t : List Nat) (ht : t ≠ []) : ∀ (xs a q : Cs), untilT t xs = .ok (a, q) → xs = a ++ (t ++ q) ∧ ∀ y, untilT t (a ++ (t ++ y)) = .ok (a, y)
  | [], a, q, h => by unfold untilT at h; cases h
  | x :: r, a, q, h => by
    unfold untilT at h
    split at h
    · rename_i hp
      cases h
      refine ⟨by rw [List.nil_append]; exact pre_split hp, fun y => ?_⟩
      rw [List.nil_append]
      cases t with
      | nil => exact absurd rfl ht
      | cons c t =>
        show untilT (c :: t) (c :: (t ++ y)) = _
        unfold untilT
        have := pre_self (c :: t) y
        rw [List.cons_append] at this
        rw [if_pos this]
        congr 2
        rw [← List.cons_append, List.drop_left]
    · rename_i hp
      rcases hr : untilT t r with e | ⟨a', z⟩
      · rw [hr] at h; cases h
      rw [hr, and_ok] at h
      cases h
      obtain ⟨i1, i2⟩ := until_ext t ht r a' q hr
      refine ⟨by rw [i1]; rfl, fun y => ?_⟩
      rw [List.cons_append]
      unfold untilT
      have e : pre t (x :: (a' ++ (t ++ y))) = pre t (x :: r) := by
        rw [i1]
        have := pre_same (t := t) (a := x :: (a' ++ t)) y q (by simp; omega)
        simpa using this
      rw [e, if_neg hp, i2 y, and_ok]
theorem comment_ext {xs q : Cs} {u : Unit} (hx : pre [60, 33, 45, 45] xs = true) (h : comment xs = .ok (u, q)) : ∃ p, xs = p ++ q ∧ 62 ∈ p ∧ pre [60, 33, 45, 45] p = true ∧ ∀ y, comment (p ++ y) = .ok ((), y) := by
  have hs := pre_split hx
  simp only [List.length_cons, List.length_nil] at hs
  unfold comment at h
  rcases hu : untilT [45, 45] (xs.drop 4) with e | ⟨a, z⟩
  · rw [hu] at h; cases h
  rw [hu, and_ok] at h
  obtain ⟨i1, i2⟩ := until_ext _ (by simp) _ _ _ hu
  split at h
  · cases h
  · rename_i c z'
    split at h
    · rename_i hc
      subst hc
      cases h
      refine ⟨[60, 33, 45, 45] ++ (a ++ [45, 45, 62]), ?_, by simp, by simp [pre], fun y => ?_⟩
      · conv => lhs; rw [hs, i1]
        simp
      · unfold comment
        have s0 : ([60, 33, 45, 45] ++ (a ++ [45, 45, 62]) ++ y).drop 4 = a ++ ([45, 45] ++ (62 :: y)) := by simp
        rw [s0, i2 (62 :: y), and_ok]
        simp
    · cases h
theorem instr_ext {xs q : Cs} {u : Unit} (hx : pre [60, 63] xs = true) (h : instr xs = .ok (u, q)) : ∃ p, xs = p ++ q ∧ 62 ∈ p ∧ pre [60, 63] p = true ∧ ∀ y, instr (p ++ y) = .ok ((), y) := by
  have hs := pre_split hx
  simp only [List.length_cons, List.length_nil] at hs
  unfold instr at h
  rcases hn : name (xs.drop 2) with e | ⟨nm, r⟩
  · rw [hn] at h; cases h
  rw [hn, and_ok] at h
  obtain ⟨e1, n2, n3, n4⟩ := name_ext hn
  split at h
  · cases h
  rename_i hxml
  split at h
  · rename_i hp
    cases h
    have hr := pre_split hp
    simp only [List.length_cons, List.length_nil] at hr
    refine ⟨[60, 63] ++ (nm ++ [63, 62]), ?_, by simp, by simp [pre], fun y => ?_⟩
    · conv => lhs; rw [hs, e1, hr]
      simp
    · have s1 := n4 (63 :: 62 :: y) rfl
      unfold instr
      have s0 : ([60, 63] ++ (nm ++ [63, 62]) ++ y).drop 2 = nm ++ (63 :: 62 :: y) := by simp
      rw [s0, s1, and_ok, if_neg hxml, if_pos (by simp [pre])]
      rfl
  rename_i hp
  split at h
  · rename_i hb
    rcases hu : untilT [63, 62] r with e | ⟨a, z⟩
    · rw [hu] at h; cases h
    rw [hu, and_ok] at h
    cases h
    obtain ⟨i1, i2⟩ := until_ext _ (by simp) _ _ _ hu
    refine ⟨[60, 63] ++ (nm ++ (a ++ [63, 62])), ?_, by simp, by simp [pre], fun y => ?_⟩
    · conv => lhs; rw [hs, e1, i1]
      simp
    · have hb' : hd blank (a ++ (63 :: 62 :: y)) = true := by
        rw [i1] at hb
        cases a with
        | nil => simp [hd, blank] at hb
        | cons c a => exact hb
      have s1 := n4 (a ++ (63 :: 62 :: y)) (by
        cases a with
        | nil => rfl
        | cons c a => exact goes_blank hb')
      unfold instr
      have s0 : ([60, 63] ++ (nm ++ (a ++ [63, 62])) ++ y).drop 2 = nm ++ (a ++ (63 :: 62 :: y)) := by simp
      have hp' : pre [63, 62] (a ++ (63 :: 62 :: y)) = false := by
        cases a with
        | nil => simp [hd, blank] at hb'
        | cons c a =>
          have : c ≠ 63 := by
            intro e; subst e; simp [hd, blank] at hb'
          simp [pre, this]
      have s2 := i2 y
      simp only [List.cons_append, List.nil_append] at s2
      rw [s0, s1, and_ok, if_neg hxml, hp', if_neg (by simp), if_pos hb', s2, and_ok]
  · cases h
theorem chunkGo_ext : ∀ (f : Nat) (xs t q : Cs), chunkGo f xs = .ok (t, q) → ∃ p, xs = p ++ q ∧ (∀ c ∈ p, c ≠ 60) ∧ (q = [] ∨ hd (fun c => c == 60) q = true) ∧ ∀ (y : Cs) (g : Nat), (hd (fun c => c == 60) y = true ∨ y = q) → p.length < g → chunkGo g (p ++ y) = .ok (t, y)
  | 0, xs, t, q, h => by rw [chunkGo] at h; cases h
  | f + 1, [], t, q, h => by
    rw [chunkGo] at h; cases h
    refine ⟨[], rfl, (fun c hc => by cases hc), .inl rfl, fun y g hy hg => ?_⟩
    obtain ⟨g, rfl⟩ : ∃ k, g = k + 1 := ⟨g - 1, by omega⟩
    rcases hy with hy | rfl
    · cases y with
      | nil => cases hy
      | cons c y => simp [hd] at hy; subst hy; show chunkGo (g + 1) (60 :: y) = _; rw [chunkGo, if_pos rfl]
    · show chunkGo (g + 1) [] = _
      rw [chunkGo]
  | f + 1, c :: r, t, q, h => by
    rw [chunkGo] at h
    split at h
    · rename_i hc
      subst hc
      cases h
      refine ⟨[], rfl, (fun c hc => by cases hc), .inr rfl, fun y g hy hg => ?_⟩
      obtain ⟨g, rfl⟩ : ∃ k, g = k + 1 := ⟨g - 1, by omega⟩
      rcases hy with hy | rfl
      · cases y with
        | nil => cases hy
        | cons c y => simp [hd] at hy; subst hy; show chunkGo (g + 1) (60 :: y) = _; rw [chunkGo, if_pos rfl]
      · show chunkGo (g + 1) (60 :: r) = _
        rw [chunkGo, if_pos rfl]
    rename_i hc
    split at h
    · cases h
    rename_i hp
    have hpre : ∀ (p' y : Cs), c :: r = p' ++ q → p' ≠ [] → (hd (fun c => c == 60) y = true ∨ y = q) → pre [93, 93, 62] (p' ++ y) = false := by
      intro p' y e hne hy
      rcases hy with hy | rfl
      · rcases y with _ | ⟨y0, y⟩
        · cases hy
        simp [hd] at hy; subst hy
        rw [e] at hp
        match p', hne with
        | [a], _ => simp [pre]
        | [a, b], _ => simp [pre]
        | a :: b :: d :: p', _ => simpa [pre] using hp
      · rw [← e]; simpa using hp
    split at h
    · rename_i h38
      rcases hr : reference (c :: r) with e | ⟨v, z⟩
      · rw [hr] at h; cases h
      rw [hr, and_ok] at h
      rcases hg : chunkGo f z with e | ⟨a, w⟩
      · rw [hg] at h; cases h
      rw [hg, and_ok] at h
      cases h
      obtain ⟨p1, i1, i2, i3⟩ := ref_ext hr
      obtain ⟨p2, j1, j2, j3, j4⟩ := chunkGo_ext f z a q hg
      refine ⟨38 :: p1 ++ p2, by rw [i1, j1, List.append_assoc], fun x hx => ?_, j3, fun y g hy hg => ?_⟩
      · rcases List.mem_append.1 hx with hx | hx
        · rcases List.mem_cons.1 hx with rfl | hx
          · omega
          · exact (i2 x hx).1
        · exact j2 x hx
      · simp only [List.length_append, List.length_cons] at hg
        obtain ⟨g, rfl⟩ : ∃ k, g = k + 1 := ⟨g - 1, by omega⟩
        have hp2 := hpre (38 :: p1 ++ p2) y (by rw [i1, j1, List.append_assoc]) (by simp) hy
        have e := i3 (p2 ++ y)
        rw [List.append_assoc] at hp2 ⊢
        rw [List.cons_append] at e hp2 ⊢
        rw [chunkGo, if_neg (by omega), hp2, if_neg (by simp), if_pos rfl, e, and_ok, j4 y g hy (by omega), and_ok]
    · rename_i h38
      rcases hg : chunkGo f r with e | ⟨a, w⟩
      · rw [hg] at h; cases h
      rw [hg, and_ok] at h
      cases h
      obtain ⟨p2, j1, j2, j3, j4⟩ := chunkGo_ext f r a q hg
      refine ⟨c :: p2, by rw [j1]; rfl, fun x hx => ?_, j3, fun y g hy hg => ?_⟩
      · rcases List.mem_cons.1 hx with rfl | hx
        · exact hc
        · exact j2 x hx
      · simp only [List.length_cons] at hg
        obtain ⟨g, rfl⟩ : ∃ k, g = k + 1 := ⟨g - 1, by omega⟩
        have hp2 := hpre (c :: p2) y (by rw [j1]; rfl) (by simp) hy
        rw [List.cons_append] at hp2 ⊢
        rw [chunkGo, if_neg hc, hp2, if_neg (by simp), if_neg h38, j4 y g hy (by omega), and_ok]
end Tk
end Go.Proofs.YtigfcchblfnnbaaGreatDoor
