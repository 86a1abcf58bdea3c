/- Layer 2, in plain words: a document's bytes as characters, characters as tokens, or the first fault and its place. -/
import Derived.Test.YtaknfofppknloaaGreatDoorUtfPure
import Derived.Test.YtaknfofppknloaaGreatDoorUtfPure2
namespace Go.Proofs.YtaknfofppknloaaGreatDoor
open Go Go.RowKit
set_option linter.all false
namespace Tk
/-- characters -/
abbrev Cs := List Nat
/-- a part's answer, with what is left; or a fault: how many characters are left there, and its number -/
abbrev R (α : Type) := Except (Nat × Nat) (α × Cs)
def R.and {α β : Type} (r : R α) (k : α → Cs → Except (Nat × Nat) β) : Except (Nat × Nat) β := match r with | .ok (a, q) => k a q | .error e => .error e
@[simp] theorem and_ok {α β : Type} (a : α) (q : Cs) (k : α → Cs → Except (Nat × Nat) β) : R.and (.ok (a, q)) k = k a q := rfl
@[simp] theorem and_error {α β : Type} (e : Nat × Nat) (k : α → Cs → Except (Nat × Nat) β) : R.and (.error e) k = .error e := rfl
def allowed (c : Nat) : Bool := decide (c = 9 ∨ c = 10 ∨ (32 ≤ c ∧ c ≤ 55295) ∨ (57344 ≤ c ∧ c ≤ 65533) ∨ (65536 ≤ c ∧ c ≤ 1114111))
def blank (c : Nat) : Bool := decide (c = 9 ∨ c = 10 ∨ c = 32)
def begins (c : Nat) : Bool := decide ((97 ≤ c ∧ c ≤ 122) ∨ (65 ≤ c ∧ c ≤ 90) ∨ c = 95 ∨ c = 58 ∨ 127 < c)
def goesOn (c : Nat) : Bool := begins c || decide ((48 ≤ c ∧ c ≤ 57) ∨ c = 45 ∨ c = 46)
/-- does the first character say yes? -/
def hd (p : Nat → Bool) (xs : Cs) : Bool := match xs with | c :: _ => p c | [] => false
/-- a document's characters, up to the first that is refused, and why -/
def readGo (l : List UInt8) : Nat → Nat → Cs × Nat
  | 0, _ => ([], 0)
  | f + 1, i =>
    if i < l.length then
      if (chr l i).2 = 0 then ([], 10)
      else if (chr l i).1 = 13 then
        let r := readGo l f (if by8 l (i + 1) = 10 then i + 2 else i + 1)
        (10 :: r.1, r.2)
      else if allowed (chr l i).1 then
        let r := readGo l f (i + (chr l i).2)
        ((chr l i).1 :: r.1, r.2)
      else ([], 20)
    else ([], 0)
def read (l : List UInt8) : Cs × Nat := readGo l (l.length + 1) 0
/-- line and column of a place -/
def placeGo : Cs → Nat × Nat → Nat × Nat
  | [], p => p
  | c :: r, p => placeGo r (if c = 10 then (p.1 + 1, 1) else (p.1, p.2 + 1))
def place (cs : Cs) (i : Nat) : Nat × Nat := placeGo (cs.take i) (1, 1)
/-- does a text stand here? -/
def pre (t : List Nat) (xs : Cs) : Bool := decide (xs.take t.length = t)
def takeC (c : Nat) (xs : Cs) : R Unit := match xs with | d :: r => if d = c then .ok ((), r) else .error (xs.length, 21) | [] => .error (0, 21)
def blanks (xs : Cs) : Cs := xs.dropWhile blank
def name (xs : Cs) : R Cs :=
  if hd begins xs then (if 64 < (xs.takeWhile goesOn).length then .error (xs.length, 2) else .ok (xs.takeWhile goesOn, xs.dropWhile goesOn)) else .error (xs.length, 21)
def untilT (t : List Nat) : Cs → R Cs
  | [] => .error (0, 21)
  | x :: r => if pre t (x :: r) then .ok ([], (x :: r).drop t.length) else (untilT t r).and fun a q => .ok (x :: a, q)
/-- a digit's worth: at least the base where it is none -/
def dig (c : Nat) : Nat := if 48 ≤ c ∧ c ≤ 57 then c - 48 else if 97 ≤ c ∧ c ≤ 102 then c - 87 else if 65 ≤ c ∧ c ≤ 70 then c - 55 else 99
def numGo (base : Nat) : Nat → Cs → Option (Nat × Cs)
  | _, [] => none
  | v, c :: r => if c = 59 then some (v, r) else if dig c < base then numGo base (min (v * base + dig c) 1114112) r else none
def numOf (base : Nat) (ys : Cs) : Option (Nat × Cs) :=
  if hd (fun c => c == 59) ys then none else (numGo base 0 ys).bind fun x => if allowed x.1 || x.1 == 13 then some x else none
def number (xs : Cs) : Option (Nat × Cs) := match xs with | 120 :: r => numOf 16 r | _ => numOf 10 xs
def tLt : List Nat := [38, 108, 116, 59]
def tGt : List Nat := [38, 103, 116, 59]
def tAmp : List Nat := [38, 97, 109, 112, 59]
def tQuot : List Nat := [38, 113, 117, 111, 116, 59]
def tApos : List Nat := [38, 97, 112, 111, 115, 59]
def reference (xs : Cs) : R Nat :=
  if pre tLt xs then .ok (60, xs.drop 4)
  else if pre tGt xs then .ok (62, xs.drop 4)
  else if pre tAmp xs then .ok (38, xs.drop 5)
  else if pre tQuot xs then .ok (34, xs.drop 6)
  else if pre tApos xs then .ok (39, xs.drop 6)
  else if pre [38, 35] xs then (match number (xs.drop 2) with | some x => .ok x | none => .error (xs.length, 22))
  else .error (xs.length, 22)
def valGo (mark : Nat) : Nat → Cs → R Cs
  | 0, _ => .error (0, 0)
  | _ + 1, [] => .error (0, 21)
  | f + 1, c :: r =>
    if c = mark then .ok ([], r)
    else if c = 60 then .error ((c :: r).length, 21)
    else if c = 38 then (reference (c :: r)).and fun v q => (valGo mark f q).and fun a z => .ok (v :: a, z)
    else (valGo mark f r).and fun a z => .ok ((if blank c then 32 else c) :: a, z)
def value (xs : Cs) : R Cs := match xs with
  | c :: r => if c = 34 ∨ c = 39 then valGo c (r.length + 1) r else .error (xs.length, 21)
  | [] => .error (0, 21)
/-- an attribute: its place is told by how many characters are left there -/
structure Attr where
  nm : Cs
  val : Cs
  left : Nat
def attrsGo : Nat → Cs → R (List Attr)
  | 0, _ => .error (0, 0)
  | f + 1, xs =>
    if (blanks xs).length < xs.length ∧ hd begins (blanks xs) = true then
      (name (blanks xs)).and fun nm r1 => (takeC 61 (blanks r1)).and fun _ r2 => (value (blanks r2)).and fun v r3 =>
        (attrsGo f r3).and fun l z => .ok (⟨nm, v, (blanks xs).length⟩ :: l, z)
    else .ok ([], blanks xs)
def attrs (xs : Cs) : R (List Attr) := attrsGo (xs.length + 1) xs
structure Tok where
  kind : Nat
  nm : Cs
  attrs : List Attr
  text : Cs
  left : Nat
  empty : Bool
def tag (xs : Cs) : R Tok :=
  if hd (fun c => c == 47) (xs.drop 1) then
    (name (xs.drop 2)).and fun nm r1 => (takeC 62 (blanks r1)).and fun _ z => .ok (⟨2, nm, [], [], xs.length, false⟩, z)
  else
    (name (xs.drop 1)).and fun nm r1 => (attrs r1).and fun l r2 =>
      if hd (fun c => c == 47) r2 then (takeC 62 (r2.drop 1)).and fun _ z => .ok (⟨1, nm, l, [], xs.length, true⟩, z)
      else (takeC 62 r2).and fun _ z => .ok (⟨1, nm, l, [], xs.length, false⟩, z)
def small (c : Nat) : Nat := if 65 ≤ c ∧ c ≤ 90 then c + 32 else c
def instr (xs : Cs) : R Unit :=
  (name (xs.drop 2)).and fun nm r =>
    if nm.map small = [120, 109, 108] then .error (xs.length, 21)
    else if pre [63, 62] r then .ok ((), r.drop 2)
    else if hd blank r then (untilT [63, 62] r).and fun _ z => .ok ((), z)
    else .error (r.length, 21)
def comment (xs : Cs) : R Unit :=
  (untilT [45, 45] (xs.drop 4)).and fun _ q => match q with
    | [] => .error (0, 21)
    | c :: z => if c = 62 then .ok ((), z) else .error (q.length + 2, 21)
def chunkGo : Nat → Cs → R Cs
  | 0, _ => .error (0, 0)
  | _ + 1, [] => .ok ([], [])
  | f + 1, c :: r =>
    if c = 60 then .ok ([], c :: r)
    else if pre [93, 93, 62] (c :: r) then .error ((c :: r).length, 21)
    else if c = 38 then (reference (c :: r)).and fun v q => (chunkGo f q).and fun a z => .ok (v :: a, z)
    else (chunkGo f r).and fun a z => .ok (c :: a, z)
def chunk (xs : Cs) : R Cs := chunkGo (xs.length + 1) xs
def tVersion : List Nat := [118, 101, 114, 115, 105, 111, 110]
def tEncoding : List Nat := [101, 110, 99, 111, 100, 105, 110, 103]
def tStandalone : List Nat := [115, 116, 97, 110, 100, 97, 108, 111, 110, 101]
def declOk (l : List Attr) : Bool := match l with
  | [] => false
  | a :: r =>
    decide (a.nm = tVersion ∧ a.val = [49, 46, 48]) &&
    (let p := match r with
      | b :: q => if b.nm = tEncoding then (decide (b.val.map small = [117, 116, 102, 45, 56]), q) else (true, r)
      | [] => (true, r)
     p.1 &&
     (let s := match p.2 with
      | b :: q => if b.nm = tStandalone then (decide (b.val = [121, 101, 115] ∨ b.val = [110, 111]), q) else (true, p.2)
      | [] => (true, p.2)
      s.1 && s.2.isEmpty))
def tXml : List Nat := [60, 63, 120, 109, 108]
def decl (cs : Cs) : R Unit :=
  if pre tXml cs && hd blank (cs.drop 5) then
    (attrs (cs.drop 5)).and fun l r => if declOk l && pre [63, 62] r then .ok ((), r.drop 2) else .error (cs.length, 21)
  else .ok ((), cs)
/-- what is told so far: the tokens, the text under way, where that began -/
structure St where
  toks : List Tok
  text : Cs
  began : Nat
def St.flush (s : St) : St := if s.text = [] then s else ⟨s.toks ++ [⟨3, [], [], s.text, s.began, false⟩], [], s.began⟩
def St.begin (s : St) (left : Nat) : St := if s.text = [] then { s with began := left } else s
def St.say (s : St) (t : Cs) : St := { s with text := s.text ++ t }
def tCdata : List Nat := [60, 33, 91, 67, 68, 65, 84, 65, 91]
def tDoctype : List Nat := [60, 33, 68, 79, 67, 84, 89, 80, 69]
def allGo : Nat → Cs → St → Except (Nat × Nat) (List Tok)
  | 0, _, _ => .error (0, 0)
  | f + 1, xs, s =>
    if xs = [] then .ok s.flush.toks
    else if pre [60, 63] xs then (instr xs).and fun _ z => allGo f z s
    else if pre [60, 33, 45, 45] xs then (comment xs).and fun _ z => allGo f z s
    else if pre tCdata xs then (untilT [93, 93, 62] (xs.drop 9)).and fun t z => allGo f z ((s.begin xs.length).say t)
    else if pre tDoctype xs then .error (xs.length, 23)
    else if pre [60, 33] xs then .error (xs.length, 21)
    else if hd (fun c => c == 60) xs then (tag xs).and fun t z => allGo f z ⟨s.flush.toks ++ [t], [], s.began⟩
    else (chunk xs).and fun t z => allGo f z ((s.begin xs.length).say t)
def tokens (cs : Cs) : Except (Nat × Nat) (List Tok) := (decl cs).and fun _ xs => allGo (xs.length + 1) xs ⟨[], [], 0⟩
/-- characters as UTF-8 -/
def narrow (cs : Cs) : List UInt8 := cs.flatMap enc
structure AttrV where
  nm : List UInt8
  val : List UInt8
  at_ : Nat × Nat
structure TokV where
  kind : Nat
  nm : List UInt8
  attrs : List AttrV
  text : List UInt8
  at_ : Nat × Nat
  empty : Bool
def Attr.fin (cs : Cs) (a : Attr) : AttrV := ⟨narrow a.nm, narrow a.val, place cs (cs.length - a.left)⟩
def Tok.fin (cs : Cs) (t : Tok) : TokV := ⟨t.kind, narrow t.nm, t.attrs.map (Attr.fin cs), narrow t.text, place cs (cs.length - t.left), t.empty⟩
/-- the whole: tokens, or the place and number of the first fault -/
def whole (l : List UInt8) : Except ((Nat × Nat) × Nat) (List TokV) :=
  if 65536 < l.length then .error ((1, 1), 2)
  else if (read l).2 ≠ 0 then .error (place (read l).1 (read l).1.length, (read l).2)
  else match tokens (read l).1 with
    | .ok ts => .ok (ts.map (Tok.fin (read l).1))
    | .error (k, e) => .error (place (read l).1 ((read l).1.length - k), e)
end Tk
end Go.Proofs.YtaknfofppknloaaGreatDoor
