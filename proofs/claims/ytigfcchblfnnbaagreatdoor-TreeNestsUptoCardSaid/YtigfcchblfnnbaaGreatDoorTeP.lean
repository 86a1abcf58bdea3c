/- Layer 3, in plain words: tokens as a tree, or the first fault and its place. Layer 2, in plain words: tags as they are written (names, attributes, values however escaped) are told as they are. Layer 3, in plain words: how prefixes are named, and in which order attributes stand, makes no difference. Layer 3, in plain words: the two documents of TreePrefixes have the same tree. -/
import Derived.Test.YtigfcchblfnnbaaGreatDoorTpA
import Derived.Test.YtigfcchblfnnbaaGreatDoorTpB
namespace Go.Proofs.YtigfcchblfnnbaaGreatDoor
open Go Go.RowKit
set_option linter.all false
namespace Te
open Tk (AttrV TokV)
abbrev Bs := List UInt8
abbrev Ps := Nat × Nat
def tXmlns : Bs := [120, 109, 108, 110, 115]
def tXml : Bs := [120, 109, 108]
def tMarks : Bs := [45, 46, 48, 49, 50, 51, 52, 53, 54, 55, 56, 57]
def xmlS : Bs := [104, 116, 116, 112, 58, 47, 47, 119, 119, 119, 46, 119, 51, 46, 111, 114, 103, 47, 88, 77, 76, 47, 49, 57, 57, 56, 47, 110, 97, 109, 101, 115, 112, 97, 99, 101]
def xmlnsS : Bs := [104, 116, 116, 112, 58, 47, 47, 119, 119, 119, 46, 119, 51, 46, 111, 114, 103, 47, 50, 48, 48, 48, 47, 120, 109, 108, 110, 115, 47]
/-- a name's prefix and local part -/
def pfx (nm : Bs) : Bs := if 58 ∈ nm then nm.takeWhile (· != 58) else []
def loc (nm : Bs) : Bs := if 58 ∈ nm then (nm.dropWhile (· != 58)).drop 1 else nm
/-- may a local part behind a colon begin so? -/
def badHead (l : Bs) : Bool := match l with | c :: _ => tMarks.contains c | [] => false
/-- has a name a right form? -/
def formed (nm : Bs) : Bool := !decide (58 ∈ nm) || (decide (pfx nm ≠ []) && (decide (loc nm ≠ []) && (!decide (58 ∈ loc nm) && !badHead (loc nm))))
/-- is an attribute's name a declaration's? -/
def isDecl (nm : Bs) : Bool := decide (nm = tXmlns) || decide ((tXmlns ++ [58]) <+: nm)
def declPfx (nm : Bs) : Bs := if nm = tXmlns then [] else loc nm
def declOk (nm val : Bs) : Bool :=
  if nm = tXmlns then decide (val ≠ xmlS ∧ val ≠ xmlnsS)
  else formed nm && (decide (loc nm ≠ tXmlns) && (decide (val ≠ []) && (decide (val ≠ xmlnsS) && (decide (loc nm = tXml) == decide (val = xmlS)))))
/-- what prefixes mean, the innermost first -/
abbrev Sc := List (Bs × Bs)
def find (s : Sc) (p : Bs) : Option Bs := (s.find? fun x => x.1 == p).map (·.2)
/-- how many characters, from place i on -/
def runesGo (l : Bs) : Nat → Nat → Nat
  | 0, _ => 0
  | f + 1, i => if i < l.length then runesGo l f (i + max (chr l i).2 1) + 1 else 0
def runes (l : Bs) : Nat := runesGo l l.length 0
/-- a name by its space; or the error -/
def expand (s : Sc) (nm : Bs) (el : Bool) : Except Nat (Bs × Bs) :=
  if (formed nm && (decide (pfx nm = []) || (find s (pfx nm)).isSome)) = false then .error 32
  else if 48 < runes (loc nm) then .error 2
  else .ok (if pfx nm = [] ∧ el = false then [] else (find s (pfx nm)).getD [], loc nm)
structure ExV where
  sp : Bs
  lo : Bs
  val : Bs
  at_ : Ps
  deriving DecidableEq
structure NodeV where
  sp : Bs
  lo : Bs
  ex : List ExV
  text : Bs
  par : Int
  at_ : Ps
  deriving DecidableEq
/-- the first that is like one ahead of it -/
def firstDup {α : Type} (same : α → α → Bool) : List α → List α → Option α
  | _, [] => none
  | seen, a :: r => if seen.any (fun o => same o a) then some a else firstDup same (seen ++ [a]) r
/-- the scope behind the declarations; or the place of one that isn't right -/
def declsGo : List AttrV → Sc → Except Ps Sc
  | [], s => .ok s
  | a :: r, s => if isDecl a.nm then (if declOk a.nm a.val then declsGo r ((declPfx a.nm, a.val) :: s) else .error a.at_) else declsGo r s
/-- the other attributes, by their expanded names -/
def extrasGo (s : Sc) : List AttrV → Except (Ps × Nat) (List ExV)
  | [] => .ok []
  | a :: r => if isDecl a.nm then extrasGo s r else match expand s a.nm false with
    | .error e => .error (a.at_, e)
    | .ok x => match extrasGo s r with
      | .error e => .error e
      | .ok l => .ok (⟨x.1, x.2, a.val, a.at_⟩ :: l)
def exLt (a b : ExV) : Bool := decide (a.sp < b.sp) || (decide (a.sp = b.sp) && decide (a.lo < b.lo))
def put (x : ExV) : List ExV → List ExV
  | [] => [x]
  | y :: r => if exLt x y then x :: y :: r else y :: put x r
def sortEx (l : List ExV) : List ExV := l.foldl (fun acc x => put x acc) []
def sameName (a b : AttrV) : Bool := decide (a.nm = b.nm)
def sameEx (a b : ExV) : Bool := decide (a.sp = b.sp) && decide (a.lo = b.lo)
/-- a tag's scope, space, local name and attributes; or the fault -/
def tagOf (t : TokV) (s : Sc) : Except (Ps × Nat) (Sc × (Bs × Bs) × List ExV) :=
  match firstDup sameName [] t.attrs with
  | some a => .error (a.at_, 31)
  | none => match declsGo t.attrs s with
    | .error p => .error (p, 32)
    | .ok s' => match expand s' t.nm true with
      | .error e => .error (t.at_, e)
      | .ok x => match extrasGo s' t.attrs with
        | .error e => .error e
        | .ok l => match firstDup sameEx [] l with
          | some y => .error (y.at_, 31)
          | none => .ok (s', x, sortEx l)
/-- an element that has begun and not ended -/
structure Opn where
  node : Nat
  nm : Bs
  sc : Sc
  at_ : Ps
/-- a tree under way: the open elements, the last one innermost -/
structure Bd where
  nodes : List NodeV
  stack : List Opn
  begun : Bool
def Bd.parent (b : Bd) : Int := match b.stack.getLast? with | some o => (o.node : Int) | none => -1
def Bd.scope (b : Bd) : Sc := match b.stack.getLast? with | some o => o.sc | none => [(tXml, xmlS)]
def start (b : Bd) (t : TokV) : Except (Ps × Nat) Bd :=
  if b.stack = [] ∧ b.begun = true then .error (t.at_, 33)
  else if 32 ≤ b.stack.length then .error (t.at_, 34)
  else if 2048 ≤ b.nodes.length then .error (t.at_, 4)
  else match tagOf t b.scope with
    | .error e => .error e
    | .ok (s, x, l) => .ok ⟨b.nodes ++ [⟨x.1, x.2, l, [], b.parent, t.at_⟩], if t.empty then b.stack else b.stack ++ [⟨b.nodes.length, t.nm, s, t.at_⟩], true⟩
def blankT (c : UInt8) : Bool := c == 9 || c == 10 || c == 13 || c == 32
def token (b : Bd) (t : TokV) : Except (Ps × Nat) Bd :=
  if t.kind = 1 then start b t
  else if t.kind = 2 then (match b.stack.getLast? with
    | some o => if o.nm = t.nm then .ok { b with stack := b.stack.dropLast } else .error (t.at_, 30)
    | none => .error (t.at_, 30))
  else if b.stack = [] then (if t.text.all blankT then .ok b else .error (t.at_, 33))
  else if 2048 ≤ b.nodes.length then .error (t.at_, 4)
  else .ok { b with nodes := b.nodes ++ [⟨[], [], [], t.text, b.parent, t.at_⟩] }
def tokensGo : List TokV → Bd → Except (Ps × Nat) Bd
  | [], b => .ok b
  | t :: r, b => match token b t with
    | .error e => .error e
    | .ok b' => tokensGo r b'
/-- the tree of tokens -/
def build (ts : List TokV) : Except (Ps × Nat) (List NodeV) := match tokensGo ts ⟨[], [], false⟩ with
  | .error e => .error e
  | .ok b => match b.stack.getLast? with
    | some o => .error (o.at_, 30)
    | none => if b.begun then .ok b.nodes else .error ((1, 1), 33)
/-- a document's tree -/
def parse (l : Bs) : Except (Ps × Nat) (List NodeV) := match Tk.whole l with
  | .error e => .error e
  | .ok ts => build ts
end Te
end Go.Proofs.YtigfcchblfnnbaaGreatDoor
namespace Go.Proofs.YtigfcchblfnnbaaGreatDoor
open Go Go.RowKit
set_option linter.all false
namespace Te
open Tk
/-- characters that make a name -/
structure NmOk (nm : Cs) : Prop where
  all : ∀ c ∈ nm, goesOn c = true
  hd : hd begins nm = true
  len : nm.length ≤ 64
theorem name_app {nm y : Cs} (h : NmOk nm) (hy : hd goesOn y = false) : name (nm ++ y) = .ok (nm, y) := by
  obtain ⟨i1, i2⟩ := takeWhile_app goesOn nm y h.all hy
  unfold name
  rw [i1, i2, if_pos (hd_mono y h.hd), if_neg (by have := h.len; omega)]
theorem blanks_id {y : Cs} (h : hd Tk.blank y = false) : blanks y = y := by
  cases y with
  | nil => rfl
  | cons c r => simp only [hd] at h; simp [blanks, h]
theorem NmOk.cons {nm : Cs} (h : NmOk nm) : ∃ c r, nm = c :: r ∧ begins c = true := by
  have := h.hd
  cases nm with
  | nil => simp [Tk.hd] at this
  | cons c r => exact ⟨c, r, rfl, this⟩
/-- the characters e, between marks, are told as the value v -/
def VEnc (v e : Cs) : Prop := (∀ c ∈ e, allowed c = true) ∧ ∀ (f : Nat) (rest : Cs), e.length < f → valGo 34 f (e ++ 34 :: rest) = .ok (v, rest)
/-- an attribute: its name, value, and how that is written -/
structure AtT where
  nm : Cs
  val : Cs
  enc : Cs
def AtT.txt (a : AtT) : Cs := 32 :: (a.nm ++ 61 :: 34 :: (a.enc ++ [34]))
def AtT.Ok (a : AtT) : Prop := NmOk a.nm ∧ VEnc a.val a.enc
theorem attrs_list : ∀ (as : List AtT) (f : Nat) (rest : Cs), (∀ a ∈ as, a.Ok) → hd Tk.blank rest = false → hd begins rest = false → as.length < f →
    ∃ l, attrsGo f (as.flatMap AtT.txt ++ rest) = .ok (l, rest) ∧ l.map Attr.bare = as.map fun a => (a.nm, a.val)
  | [], f, rest, _, h1, h2, hf => by
    obtain ⟨g, rfl⟩ : ∃ g, f = g + 1 := ⟨f - 1, by simp at hf; omega⟩
    refine ⟨[], ?_, rfl⟩
    rw [List.flatMap_nil, List.nil_append, attrsGo, blanks_id h1, if_neg (by simp)]
  | a :: as, f, rest, h, h1, h2, hf => by
    obtain ⟨g, rfl⟩ : ∃ g, f = g + 1 := ⟨f - 1, by simp at hf; omega⟩
    obtain ⟨hn, hv⟩ := h a (by simp)
    obtain ⟨l, e1, e2⟩ := attrs_list as g rest (fun x hx => h x (by simp [hx])) h1 h2 (by simp at hf; omega)
    obtain ⟨c, r, hc, hb⟩ := hn.cons
    have e0 : (a :: as).flatMap AtT.txt ++ rest = 32 :: (a.nm ++ 61 :: 34 :: (a.enc ++ 34 :: (as.flatMap AtT.txt ++ rest))) := by
      simp [AtT.txt, List.flatMap_cons]
    have hbl : ∀ y, blanks (32 :: (a.nm ++ y)) = a.nm ++ y := fun y => by
      have : hd Tk.blank (a.nm ++ y) = false := by rw [hc]; exact (begins_ne hb).1
      have h2 := blanks_id this
      simp only [blanks] at h2 ⊢
      rw [List.dropWhile_cons, if_pos (by decide), h2]
    have hbe : ∀ y, hd begins (a.nm ++ y) = true := fun y => hd_mono y hn.hd
    have hlen : ∀ y : Cs, (a.nm ++ y).length < (32 :: (a.nm ++ y)).length := fun y => by simp
    refine ⟨⟨a.nm, a.val, (a.nm ++ 61 :: 34 :: (a.enc ++ 34 :: (as.flatMap AtT.txt ++ rest))).length⟩ :: l, ?_, by simp [Attr.bare, e2]⟩
    rw [e0, attrsGo, hbl, if_pos ⟨hlen _, hbe _⟩, name_app hn (by simp [hd, goesOn, begins]), and_ok, blanks_id (by simp [hd, Tk.blank]), takeC_self, and_ok, blanks_id (by simp [hd, Tk.blank])]
    have hval : value (34 :: (a.enc ++ 34 :: (as.flatMap AtT.txt ++ rest))) = .ok (a.val, as.flatMap AtT.txt ++ rest) := by
      simp only [value, true_or, if_true]
      exact hv.2 _ _ (by simp; omega)
    rw [hval, and_ok, e1, and_ok]
theorem len_flat (as : List AtT) : as.length ≤ (as.flatMap AtT.txt).length := by
  induction as with
  | nil => simp
  | cons a as ih =>
    have : 1 ≤ a.txt.length := by simp [AtT.txt]
    rw [List.flatMap_cons, List.length_append, List.length_cons]; omega
theorem hd_flat (as : List AtT) (y : Cs) (p : Nat → Bool) (h1 : p 32 = false) (h2 : hd p y = false) : hd p (as.flatMap AtT.txt ++ y) = false := by
  cases as with
  | nil => simpa using h2
  | cons a as => simp [List.flatMap_cons, AtT.txt, hd, h1]
/-- a start tag -/
def openT (nm : Cs) (as : List AtT) : Cs := 60 :: (nm ++ as.flatMap AtT.txt)
theorem tag_open {nm : Cs} {as : List AtT} (hn : NmOk nm) (h : ∀ a ∈ as, a.Ok) (rest : Cs) : ∃ l n, tag (openT nm as ++ 62 :: rest) = .ok (⟨1, nm, l, [], n, false⟩, rest) ∧ l.map Attr.bare = as.map fun a => (a.nm, a.val) := by
  obtain ⟨c, r, hc, hb⟩ := hn.cons
  obtain ⟨l, e1, e2⟩ := attrs_list as ((as.flatMap AtT.txt ++ 62 :: rest).length + 1) (62 :: rest) h (by simp [hd, Tk.blank]) (by simp [hd, begins]) (by have := len_flat as; rw [List.length_append]; omega)
  refine ⟨l, (openT nm as ++ 62 :: rest).length, ?_, e2⟩
  have e0 : (openT nm as ++ 62 :: rest).drop 1 = nm ++ (as.flatMap AtT.txt ++ 62 :: rest) := by simp [openT]
  unfold tag
  rw [e0, if_neg (by
    have : hd (fun c => c == 47) (nm ++ (as.flatMap AtT.txt ++ 62 :: rest)) = false := by
      rw [hc]; have := goesOn_ne (begins_ne hb).2.2; simp [hd]; omega
    rw [this]; simp), name_app hn (hd_flat as _ _ (by decide) (by simp [hd, goesOn, begins])), and_ok]
  unfold attrs
  rw [e1, and_ok, if_neg (by simp [hd]), takeC_self, and_ok]
theorem tag_empty {nm : Cs} {as : List AtT} (hn : NmOk nm) (h : ∀ a ∈ as, a.Ok) (rest : Cs) : ∃ l n, tag (openT nm as ++ 47 :: 62 :: rest) = .ok (⟨1, nm, l, [], n, true⟩, rest) ∧ l.map Attr.bare = as.map fun a => (a.nm, a.val) := by
  obtain ⟨c, r, hc, hb⟩ := hn.cons
  obtain ⟨l, e1, e2⟩ := attrs_list as ((as.flatMap AtT.txt ++ 47 :: 62 :: rest).length + 1) (47 :: 62 :: rest) h (by simp [hd, Tk.blank]) (by simp [hd, begins]) (by have := len_flat as; rw [List.length_append]; omega)
  refine ⟨l, (openT nm as ++ 47 :: 62 :: rest).length, ?_, e2⟩
  have e0 : (openT nm as ++ 47 :: 62 :: rest).drop 1 = nm ++ (as.flatMap AtT.txt ++ 47 :: 62 :: rest) := by simp [openT]
  unfold tag
  rw [e0, if_neg (by
    have : hd (fun c => c == 47) (nm ++ (as.flatMap AtT.txt ++ 47 :: 62 :: rest)) = false := by
      rw [hc]; have := goesOn_ne (begins_ne hb).2.2; simp [hd]; omega
    rw [this]; simp), name_app hn (hd_flat as _ _ (by decide) (by simp [hd, goesOn, begins])), and_ok]
  unfold attrs
  rw [e1, and_ok, if_pos (by simp [hd])]
  show (takeC 62 (62 :: rest)).and _ = _
  rw [takeC_self, and_ok]
def endT (nm : Cs) : Cs := 60 :: 47 :: (nm ++ [62])
theorem tag_end {nm : Cs} (hn : NmOk nm) (rest : Cs) : ∃ n, tag (endT nm ++ rest) = .ok (⟨2, nm, [], [], n, false⟩, rest) := by
  refine ⟨(endT nm ++ rest).length, ?_⟩
  have e0 : (endT nm ++ rest).drop 2 = nm ++ 62 :: rest := by simp [endT]
  unfold tag
  rw [if_pos (by simp [endT, hd]), e0, name_app hn (by simp [hd, goesOn, begins]), and_ok, blanks_id (by simp [hd, Tk.blank]), takeC_self, and_ok]
end Te
end Go.Proofs.YtigfcchblfnnbaaGreatDoor
namespace Go.Proofs.YtigfcchblfnnbaaGreatDoor
open Go Go.RowKit
set_option linter.all false
namespace Te
open Tk
/-- the characters of a right local name -/
structure LocC (cs : Cs) : Prop where
  all : ∀ c ∈ cs, goesOn c = true
  hd : hd begins cs = true
  len : cs.length ≤ 48
  no : (58 : Nat) ∉ cs
  ok : ∀ c ∈ cs, allowed c = true
theorem mem_narrow {b : UInt8} {cs : Cs} (hok : ∀ c ∈ cs, okc c) (hb : b.toNat < 128) (h : b ∈ narrow cs) : b.toNat ∈ cs := by
  obtain ⟨c, hc, h2⟩ := List.mem_flatMap.1 h
  rcases Nat.lt_or_ge c 128 with h1 | h1
  · rw [enc_dn h1, List.mem_singleton] at h2
    subst h2
    rw [UInt8.toNat_ofNat', Nat.mod_eq_of_lt (by omega)]
    exact hc
  · have := enc_up h1 (hok c hc) b h2
    omega
theorem LocC.no58 {cs : Cs} (h : LocC cs) : (58 : UInt8) ∉ narrow cs := fun k => h.no (mem_narrow (fun c hc => allowed_okc' (h.ok c hc)) (by decide) k)
theorem LocC.cons {cs : Cs} (h : LocC cs) : ∃ c r, cs = c :: r ∧ begins c = true := by
  have := h.hd
  cases cs with
  | nil => simp [Tk.hd] at this
  | cons c r => exact ⟨c, r, rfl, this⟩
theorem LocC.ne {cs : Cs} (h : LocC cs) : narrow cs ≠ [] := by
  obtain ⟨c, r, rfl, -⟩ := h.cons
  obtain ⟨b, m, hb⟩ := enc_cons c
  simp [narrow, hb]
theorem marks_lt : ∀ b : UInt8, tMarks.contains b = true → b.toNat < 58 := by
  have H : ∀ b : Fin 256, tMarks.contains (UInt8.ofNat b.val) = true → (UInt8.ofNat b.val).toNat < 58 := by decide +kernel
  intro b hb
  have := H ⟨b.toNat, UInt8.toNat_lt b⟩
  simp only [UInt8.ofNat_toNat] at this
  exact this hb
theorem LocC.head {cs : Cs} (h : LocC cs) : badHead (narrow cs) = false := by
  obtain ⟨c, r, hc, hb⟩ := h.cons
  have hok := h.ok c (by simp [hc])
  obtain ⟨b, m, he⟩ := enc_cons c
  have e : narrow cs = b :: (m ++ narrow r) := by rw [hc]; simp [narrow, he]
  rw [e]
  show tMarks.contains b = false
  cases hm : tMarks.contains b with
  | false => rfl
  | true =>
    exfalso
    have hlt := marks_lt b hm
    rcases Nat.lt_or_ge c 128 with h1 | h1
    · rw [enc_dn h1] at he
      have : b = UInt8.ofNat c := (List.cons.inj he).1.symm
      rw [this, UInt8.toNat_ofNat', Nat.mod_eq_of_lt (by omega)] at hlt
      have h58 : c ≠ 58 := fun e => h.no (by rw [hc, e]; simp)
      simp only [begins, decide_eq_true_eq] at hb
      omega
    · have := enc_up h1 (allowed_okc' hok) b (by rw [he]; simp)
      omega
theorem runesGo_drop (l : Bs) : ∀ (f i : Nat), i ≤ l.length → runesGo l f i = runesGo (l.drop i) f 0
  | 0, _, _ => rfl
  | f + 1, i, h => by
    rw [runesGo, runesGo]
    by_cases hi : i < l.length
    · rw [if_pos hi, if_pos (by rw [List.length_drop]; omega), Nat.zero_add, ← chr_drop l i (by omega)]
      rcases Nat.lt_or_ge l.length (i + max (chr l i).2 1) with h2 | h2
      · have z : ∀ (g : Nat) (m : Bs) (k : Nat), m.length ≤ k → runesGo m g k = 0 := by
          intro g m k hk
          cases g with
          | zero => rfl
          | succ g => rw [runesGo, if_neg (by omega)]
        rw [z f l _ (by omega), z f (l.drop i) _ (by rw [List.length_drop]; omega)]
      · rw [runesGo_drop l f _ h2, runesGo_drop (l.drop i) f _ (by rw [List.length_drop]; omega), List.drop_drop]
    · rw [if_neg hi, if_neg (by rw [List.length_drop]; omega)]
theorem runesGo_narrow : ∀ (cs : Cs) (f : Nat), (∀ c ∈ cs, okc c) → cs.length ≤ f → runesGo (narrow cs) f 0 = cs.length
  | [], f, _, _ => by cases f <;> rfl
  | c :: cs, f, h, hf => by
    obtain ⟨g, rfl⟩ : ∃ g, f = g + 1 := ⟨f - 1, by simp at hf; omega⟩
    have e : narrow (c :: cs) = enc c ++ narrow cs := rfl
    have hp := enc_pos c
    have hk := chr_char c (narrow cs) (h c (by simp))
    rw [runesGo, e, if_pos (by rw [List.length_append]; omega), hk, Nat.zero_add, Nat.max_eq_left (by omega), runesGo_drop _ g _ (by rw [List.length_append]; omega), List.drop_left, runesGo_narrow cs g (fun x hx => h x (by simp [hx])) (by simp at hf; omega), List.length_cons]
theorem narrow_len_le (cs : Cs) : cs.length ≤ (narrow cs).length := by
  induction cs with
  | nil => simp
  | cons c cs ih =>
    have e : narrow (c :: cs) = enc c ++ narrow cs := rfl
    have := enc_pos c
    rw [e, List.length_append, List.length_cons]; omega
theorem runes_narrow (cs : Cs) (h : ∀ c ∈ cs, okc c) : runes (narrow cs) = cs.length := runesGo_narrow cs _ h (narrow_len_le cs)
theorem LocC.runes {cs : Cs} (h : LocC cs) : runes (narrow cs) ≤ 48 := by
  rw [runes_narrow cs fun c hc => allowed_okc' (h.ok c hc)]; exact h.len
/-- a name with a prefix of one letter -/
theorem two_parts (p : UInt8) (hp : p ≠ 58) {l : Bs} (h : (58 : UInt8) ∉ l) : pfx (p :: 58 :: l) = [p] ∧ loc (p :: 58 :: l) = l := by
  unfold pfx loc
  have hm : (58 : UInt8) ∈ p :: 58 :: l := by simp
  rw [if_pos hm, if_pos hm]
  simp [List.takeWhile_cons, List.dropWhile_cons, hp]
theorem two_formed (p : UInt8) (hp : p ≠ 58) {cs : Cs} (h : LocC cs) : formed (p :: 58 :: narrow cs) = true := by
  unfold formed
  obtain ⟨h1, h2⟩ := two_parts p hp h.no58
  rw [h1, h2, h.head]
  simp [h.ne, h.no58]
theorem one_parts {l : Bs} (h : (58 : UInt8) ∉ l) : pfx l = [] ∧ loc l = l ∧ formed l = true := by
  unfold pfx loc formed
  simp [h]
theorem expand_two (s : Sc) (p : UInt8) (hp : p ≠ 58) {cs : Cs} (h : LocC cs) (u : Bs) (hs : find s [p] = some u) (el : Bool) : expand s (p :: 58 :: narrow cs) el = .ok (u, narrow cs) := by
  unfold expand
  obtain ⟨h1, h2⟩ := two_parts p hp h.no58
  have hr := h.runes
  rw [h1, h2, two_formed p hp h, hs]
  simp
  omega
theorem expand_one (s : Sc) {cs : Cs} (h : LocC cs) (u : Bs) (hs : find s [] = some u) : expand s (narrow cs) true = .ok (u, narrow cs) := by
  unfold expand
  obtain ⟨h1, h2, h3⟩ := one_parts h.no58
  have hr := h.runes
  rw [h1, h2, h3, hs]
  simp
  omega
/-- a character of a plain value -/
def plainC (c : Nat) : Prop := 32 ≤ c ∧ c ≤ 126 ∧ c ≠ 60 ∧ c ≠ 38 ∧ c ≠ 34
theorem venc_plain (v : Cs) (h : ∀ c ∈ v, plainC c) : VEnc v v := by
  refine ⟨fun c hc => by have := h c hc; unfold plainC at this; simp [allowed]; omega, ?_⟩
  induction v with
  | nil =>
    intro f rest hf
    obtain ⟨g, rfl⟩ : ∃ g, f = g + 1 := ⟨f - 1, by simp at hf; omega⟩
    simp [valGo]
  | cons c v ih =>
    intro f rest hf
    obtain ⟨g, rfl⟩ : ∃ g, f = g + 1 := ⟨f - 1, by simp at hf; omega⟩
    have hc := h c (by simp)
    unfold plainC at hc
    rw [List.cons_append, valGo, if_neg (by omega), if_neg (by omega), if_neg (by omega), ih (fun x hx => h x (by simp [hx])) g rest (by simp at hf; omega), and_ok]
    by_cases h32 : c = 32
    · subst h32; rfl
    · rw [if_neg (by simp [Tk.blank]; omega)]
theorem NmOk.two {cs : Cs} (h : LocC cs) (p : Nat) (hp : begins p = true) : NmOk (p :: 58 :: cs) := by
  refine ⟨fun c hc => ?_, hp, by have := h.len; simp; omega⟩
  simp only [List.mem_cons] at hc
  rcases hc with rfl | rfl | hc
  · exact (begins_ne hp).2.2
  · decide
  · exact h.all c hc
theorem NmOk.one {cs : Cs} (h : LocC cs) : NmOk cs := ⟨h.all, h.hd, by have := h.len; omega⟩
def tP : Cs := [120, 109, 108, 110, 115, 58, 112]
def tQ : Cs := [120, 109, 108, 110, 115, 58, 113]
def tX : Cs := [120, 109, 108, 110, 115]
theorem okP : NmOk tP := ⟨by decide, by decide, by decide⟩
theorem okQ : NmOk tQ := ⟨by decide, by decide, by decide⟩
theorem okX : NmOk tX := ⟨by decide, by decide, by decide⟩
theorem venc_u : VEnc [117] [117] := venc_plain [117] (by unfold plainC; simp)
/-- the first document -/
def docP (L O T a b : Cs) : Cs := openT (112 :: 58 :: L) [⟨tP, [117], [117]⟩, ⟨112 :: 58 :: O, a, a⟩, ⟨112 :: 58 :: T, b, b⟩] ++ [47, 62]
/-- the second one -/
def docQ (L O T a b : Cs) : Cs := openT L [⟨tX, [117], [117]⟩, ⟨113 :: 58 :: T, b, b⟩, ⟨tQ, [117], [117]⟩, ⟨113 :: 58 :: O, a, a⟩] ++ 62 :: endT L
theorem openT_hd {nm : Cs} (hn : NmOk nm) (as : List AtT) : ∃ c r, openT nm as = 60 :: c :: r ∧ c ≠ 33 ∧ c ≠ 63 := by
  obtain ⟨c, r, hc, hb⟩ := hn.cons
  have := goesOn_ne (begins_ne hb).2.2
  exact ⟨c, r ++ as.flatMap AtT.txt, by rw [openT, hc]; rfl, by omega, by omega⟩
theorem decl_open {nm : Cs} (hn : NmOk nm) (as : List AtT) (y : Cs) : decl (openT nm as ++ y) = .ok ((), openT nm as ++ y) := by
  obtain ⟨c, r, e, h1, h2⟩ := openT_hd hn as
  refine decl_no ?_
  rw [e]
  simp [fires, pre, Tk.tXml, h2]
theorem allGo_open (f : Nat) {nm : Cs} (hn : NmOk nm) (as : List AtT) (y : Cs) (st : St) : allGo (f + 1) (openT nm as ++ y) st = (tag (openT nm as ++ y)).and fun t z => allGo f z ⟨st.flush.toks ++ [t], [], st.began⟩ := by
  obtain ⟨c, r, e, h1, h2⟩ := openT_hd hn as
  rw [e]
  exact allGo_tag f _ st (by simp [hd, h1, h2])
theorem allGo_end (f : Nat) (nm y : Cs) (st : St) : allGo (f + 1) (endT nm ++ y) st = (tag (endT nm ++ y)).and fun t z => allGo f z ⟨st.flush.toks ++ [t], [], st.began⟩ :=
  allGo_tag f _ st (by simp [hd])
theorem allGo_nil (f : Nat) (st : St) : allGo (f + 1) [] st = .ok st.flush.toks := by rw [allGo, if_pos rfl]
theorem tokens_P {L O T a b : Cs} (hL : LocC L) (hO : LocC O) (hT : LocC T) (ha : ∀ c ∈ a, plainC c) (hb : ∀ c ∈ b, plainC c) :
    ∃ l n, tokens (docP L O T a b) = .ok [⟨1, 112 :: 58 :: L, l, [], n, true⟩] ∧ l.map Attr.bare = [(tP, [117]), (112 :: 58 :: O, a), (112 :: 58 :: T, b)] := by
  have hn := NmOk.two hL 112 (by decide)
  obtain ⟨l, n, e1, e2⟩ := tag_empty (as := [⟨tP, [117], [117]⟩, ⟨112 :: 58 :: O, a, a⟩, ⟨112 :: 58 :: T, b, b⟩]) hn (by
    intro x hx
    simp only [List.mem_cons, List.not_mem_nil, or_false] at hx
    rcases hx with rfl | rfl | rfl
    · exact ⟨okP, venc_u⟩
    · exact ⟨NmOk.two hO 112 (by decide), venc_plain a ha⟩
    · exact ⟨NmOk.two hT 112 (by decide), venc_plain b hb⟩) []
  refine ⟨l, n, ?_, e2⟩
  unfold tokens docP
  rw [decl_open hn, and_ok, allGo_open _ hn, e1, and_ok]
  obtain ⟨g, hg⟩ : ∃ g, (openT (112 :: 58 :: L) [⟨tP, [117], [117]⟩, ⟨112 :: 58 :: O, a, a⟩, ⟨112 :: 58 :: T, b, b⟩] ++ [47, 62]).length = g + 1 := ⟨_, Nat.succ_pred_eq_of_pos (by simp) |>.symm⟩
  rw [hg, allGo_nil]
  rfl
theorem tokens_Q {L O T a b : Cs} (hL : LocC L) (hO : LocC O) (hT : LocC T) (ha : ∀ c ∈ a, plainC c) (hb : ∀ c ∈ b, plainC c) :
    ∃ l n m, tokens (docQ L O T a b) = .ok [⟨1, L, l, [], n, false⟩, ⟨2, L, [], [], m, false⟩] ∧ l.map Attr.bare = [(tX, [117]), (113 :: 58 :: T, b), (tQ, [117]), (113 :: 58 :: O, a)] := by
  have hn := NmOk.one hL
  obtain ⟨l, n, e1, e2⟩ := tag_open (as := [⟨tX, [117], [117]⟩, ⟨113 :: 58 :: T, b, b⟩, ⟨tQ, [117], [117]⟩, ⟨113 :: 58 :: O, a, a⟩]) hn (by
    intro x hx
    simp only [List.mem_cons, List.not_mem_nil, or_false] at hx
    rcases hx with rfl | rfl | rfl | rfl
    · exact ⟨okX, venc_u⟩
    · exact ⟨NmOk.two hT 113 (by decide), venc_plain b hb⟩
    · exact ⟨okQ, venc_u⟩
    · exact ⟨NmOk.two hO 113 (by decide), venc_plain a ha⟩) (endT L)
  obtain ⟨m, e3⟩ := tag_end hn []
  rw [List.append_nil] at e3
  refine ⟨l, n, m, ?_, e2⟩
  unfold tokens docQ
  rw [decl_open hn, and_ok, allGo_open _ hn, e1, and_ok]
  obtain ⟨g, hg⟩ : ∃ g, (openT L [⟨tX, [117], [117]⟩, ⟨113 :: 58 :: T, b, b⟩, ⟨tQ, [117], [117]⟩, ⟨113 :: 58 :: O, a, a⟩] ++ 62 :: endT L).length = g + 1 + 1 :=
    ⟨(openT L [⟨tX, [117], [117]⟩, ⟨113 :: 58 :: T, b, b⟩, ⟨tQ, [117], [117]⟩, ⟨113 :: 58 :: O, a, a⟩] ++ endT L).length - 1, by simp [endT]; omega⟩
  have e4 := allGo_end (g + 1) L [] ⟨([] : List Tok) ++ [⟨1, L, l, [], n, false⟩], [], 0⟩
  rw [List.append_nil, e3, and_ok, allGo_nil] at e4
  rw [hg]
  exact e4
end Te
end Go.Proofs.YtigfcchblfnnbaaGreatDoor
namespace Go.Proofs.YtigfcchblfnnbaaGreatDoor
open Go Go.RowKit
set_option linter.all false
namespace Te
open Tk
def ExV.bare (x : ExV) : Bs × Bs × Bs := (x.sp, x.lo, x.val)
def NodeV.bare (n : NodeV) : Bs × Bs × List (Bs × Bs × Bs) × Bs × Int := (n.sp, n.lo, n.ex.map ExV.bare, n.text, n.par)
theorem put_len (x : ExV) : ∀ l : List ExV, (put x l).length = l.length + 1
  | [] => rfl
  | y :: r => by rw [put]; split <;> simp [put_len x r]
theorem sort_len (l : List ExV) : (sortEx l).length = l.length := by
  have : ∀ (l acc : List ExV), (l.foldl (fun acc x => put x acc) acc).length = acc.length + l.length := by
    intro l
    induction l with
    | nil => intro acc; simp
    | cons x l ih => intro acc; rw [List.foldl_cons, ih, put_len, List.length_cons]; omega
  have := this l []
  simpa [sortEx] using this
theorem bs_trich (a b : Bs) (h : a ≠ b) : a < b ∨ b < a := by
  by_cases h1 : a < b
  · exact .inl h1
  · by_cases h2 : b < a
    · exact .inr h2
    · exact absurd (List.le_antisymm (List.not_lt.1 h2) (List.not_lt.1 h1)) h
theorem bs_asym (a b : Bs) (h : a < b) : ¬ b < a := fun k => List.lt_irrefl a (List.lt_trans h k)
theorem sort_two (u O T a b : Bs) (p q p' q' : Ps) (h : O ≠ T) : (sortEx [⟨u, O, a, p⟩, ⟨u, T, b, q⟩]).map ExV.bare = (sortEx [⟨u, T, b, q'⟩, ⟨u, O, a, p'⟩]).map ExV.bare := by
  have hu : ¬ u < u := List.lt_irrefl u
  rcases bs_trich O T h with h1 | h1
  · have h2 := bs_asym O T h1
    simp [sortEx, put, exLt, hu, h1, h2, ExV.bare]
  · have h2 := bs_asym T O h1
    simp [sortEx, put, exLt, hu, h1, h2, ExV.bare]
theorem not_decl (p : UInt8) (h : p ≠ 120) (l : Bs) : isDecl (p :: 58 :: l) = false := by
  simp [isDecl, tXmlns, List.cons_prefix_cons, Ne.symm h, h]
theorem build_P {L O T : Cs} (hL : LocC L) (hO : LocC O) (hT : LocC T) (hOT : narrow O ≠ narrow T) (va vb : Bs) (q1 q2 q3 q : Ps) :
    build [⟨1, 112 :: 58 :: narrow L, [⟨[120, 109, 108, 110, 115, 58, 112], [117], q1⟩, ⟨112 :: 58 :: narrow O, va, q2⟩, ⟨112 :: 58 :: narrow T, vb, q3⟩], [], q, true⟩] =
      .ok [⟨[117], narrow L, sortEx [⟨[117], narrow O, va, q2⟩, ⟨[117], narrow T, vb, q3⟩], [], -1, q⟩] := by
  have d1 : isDecl [120, 109, 108, 110, 115, 58, 112] = true := by decide
  have d2 : declOk [120, 109, 108, 110, 115, 58, 112] [117] = true := by decide
  have d3 : declPfx [120, 109, 108, 110, 115, 58, 112] = [112] := by decide
  have n1 := fun l => not_decl 112 (by decide) l
  have hf : find [([112], [117]), (tXml, xmlS)] [112] = some [117] := by rfl
  have x0 := fun el => expand_two [([112], [117]), (tXml, xmlS)] 112 (by decide) hL [117] hf el
  have x1 := fun el => expand_two [([112], [117]), (tXml, xmlS)] 112 (by decide) hO [117] hf el
  have x2 := fun el => expand_two [([112], [117]), (tXml, xmlS)] 112 (by decide) hT [117] hf el
  have hTO : ¬ narrow T = narrow O := fun e => hOT e.symm
  simp [build, tokensGo, token, start, tagOf, Bd.scope, Bd.parent, firstDup, sameName, sameEx, declsGo, extrasGo, d1, d2, d3, n1, x0, x1, x2, hOT, hTO]
theorem build_Q {L O T : Cs} (hL : LocC L) (hO : LocC O) (hT : LocC T) (hOT : narrow O ≠ narrow T) (va vb : Bs) (q1 q2 q3 q4 q q' : Ps) :
    build [⟨1, narrow L, [⟨[120, 109, 108, 110, 115], [117], q1⟩, ⟨113 :: 58 :: narrow T, vb, q2⟩, ⟨[120, 109, 108, 110, 115, 58, 113], [117], q3⟩, ⟨113 :: 58 :: narrow O, va, q4⟩], [], q, false⟩, ⟨2, narrow L, [], [], q', false⟩] =
      .ok [⟨[117], narrow L, sortEx [⟨[117], narrow T, vb, q2⟩, ⟨[117], narrow O, va, q4⟩], [], -1, q⟩] := by
  have d1 : isDecl [120, 109, 108, 110, 115, 58, 113] = true := by decide
  have d2 : declOk [120, 109, 108, 110, 115, 58, 113] [117] = true := by decide
  have d3 : declPfx [120, 109, 108, 110, 115, 58, 113] = [113] := by decide
  have d4 : isDecl [120, 109, 108, 110, 115] = true := by decide
  have d5 : declOk [120, 109, 108, 110, 115] [117] = true := by decide
  have d6 : declPfx [120, 109, 108, 110, 115] = [] := by decide
  have n1 := fun l => not_decl 113 (by decide) l
  have hf : find [([113], [117]), ([], [117]), (tXml, xmlS)] [113] = some [117] := by rfl
  have hf0 : find [([113], [117]), ([], [117]), (tXml, xmlS)] [] = some [117] := by rfl
  have x0 := expand_one [([113], [117]), ([], [117]), (tXml, xmlS)] hL [117] hf0
  have x1 := fun el => expand_two [([113], [117]), ([], [117]), (tXml, xmlS)] 113 (by decide) hO [117] hf el
  have x2 := fun el => expand_two [([113], [117]), ([], [117]), (tXml, xmlS)] 113 (by decide) hT [117] hf el
  have hTO : ¬ narrow T = narrow O := fun e => hOT e.symm
  simp [build, tokensGo, token, start, tagOf, Bd.scope, Bd.parent, firstDup, sameName, sameEx, declsGo, extrasGo, d1, d2, d3, d4, d5, d6, n1, x0, x1, x2, hOT, hTO]
def AtT.Al (a : AtT) : Prop := (∀ c ∈ a.nm, allowed c = true) ∧ ∀ c ∈ a.enc, allowed c = true
theorem open_al {nm : Cs} {as : List AtT} (hn : ∀ c ∈ nm, allowed c = true) (h : ∀ a ∈ as, a.Al) : ∀ c ∈ openT nm as, allowed c = true := by
  intro c hc
  unfold openT at hc
  rcases List.mem_cons.1 hc with rfl | hc
  · decide
  rcases List.mem_append.1 hc with hc | hc
  · exact hn c hc
  obtain ⟨a, ha, hc⟩ := List.mem_flatMap.1 hc
  obtain ⟨k1, k2⟩ := h a ha
  unfold AtT.txt at hc
  rcases List.mem_cons.1 hc with rfl | hc
  · decide
  rcases List.mem_append.1 hc with hc | hc
  · exact k1 c hc
  rcases List.mem_cons.1 hc with rfl | hc
  · decide
  rcases List.mem_cons.1 hc with rfl | hc
  · decide
  rcases List.mem_append.1 hc with hc | hc
  · exact k2 c hc
  · rw [List.mem_singleton.1 hc]; decide
theorem end_al {nm : Cs} (hn : ∀ c ∈ nm, allowed c = true) : ∀ c ∈ endT nm, allowed c = true := by
  intro c hc
  unfold endT at hc
  rcases List.mem_cons.1 hc with rfl | hc
  · decide
  rcases List.mem_cons.1 hc with rfl | hc
  · decide
  rcases List.mem_append.1 hc with hc | hc
  · exact hn c hc
  · rw [List.mem_singleton.1 hc]; decide
theorem plain_al {v : Cs} (h : ∀ c ∈ v, plainC c) : ∀ c ∈ v, allowed c = true := (venc_plain v h).1
theorem two_al {cs : Cs} (h : ∀ c ∈ cs, allowed c = true) (p : Nat) (hp : allowed p = true) : ∀ c ∈ p :: 58 :: cs, allowed c = true := by
  intro c hc
  rcases List.mem_cons.1 hc with rfl | hc
  · exact hp
  rcases List.mem_cons.1 hc with rfl | hc
  · decide
  · exact h c hc
theorem docP_ok {L O T a b : Cs} (hL : LocC L) (hO : LocC O) (hT : LocC T) (ha : ∀ c ∈ a, plainC c) (hb : ∀ c ∈ b, plainC c) : ∀ c ∈ docP L O T a b, allowed c = true := by
  intro c hc
  rcases List.mem_append.1 hc with hc | hc
  · refine open_al (two_al hL.ok 112 (by decide)) ?_ c hc
    intro x hx
    simp only [List.mem_cons, List.not_mem_nil, or_false] at hx
    rcases hx with rfl | rfl | rfl
    · exact ⟨by decide, by decide⟩
    · exact ⟨two_al hO.ok 112 (by decide), plain_al ha⟩
    · exact ⟨two_al hT.ok 112 (by decide), plain_al hb⟩
  · exact (show ∀ c ∈ ([47, 62] : Cs), allowed c = true by decide) c hc
theorem docQ_ok {L O T a b : Cs} (hL : LocC L) (hO : LocC O) (hT : LocC T) (ha : ∀ c ∈ a, plainC c) (hb : ∀ c ∈ b, plainC c) : ∀ c ∈ docQ L O T a b, allowed c = true := by
  intro c hc
  rcases List.mem_append.1 hc with hc | hc
  · refine open_al hL.ok ?_ c hc
    intro x hx
    simp only [List.mem_cons, List.not_mem_nil, or_false] at hx
    rcases hx with rfl | rfl | rfl | rfl
    · exact ⟨by decide, by decide⟩
    · exact ⟨two_al hT.ok 113 (by decide), plain_al hb⟩
    · exact ⟨by decide, by decide⟩
    · exact ⟨two_al hO.ok 113 (by decide), plain_al ha⟩
  · rcases List.mem_cons.1 hc with rfl | hc
    · decide
    · exact end_al hL.ok c hc
theorem list3 {α β : Type} {f : α → β} {l : List α} {x y z : β} (h : l.map f = [x, y, z]) : ∃ a b c, l = [a, b, c] ∧ f a = x ∧ f b = y ∧ f c = z := by
  match l, h with
  | [a, b, c], h => simp at h; exact ⟨a, b, c, rfl, h.1, h.2.1, h.2.2⟩
theorem list4 {α β : Type} {f : α → β} {l : List α} {x y z t : β} (h : l.map f = [x, y, z, t]) : ∃ a b c d, l = [a, b, c, d] ∧ f a = x ∧ f b = y ∧ f c = z ∧ f d = t := by
  match l, h with
  | [a, b, c, d], h => simp at h; exact ⟨a, b, c, d, rfl, h.1, h.2.1, h.2.2.1, h.2.2.2⟩
theorem narrow_two (p : Nat) (h : p < 128) (cs : Cs) : narrow (p :: 58 :: cs) = UInt8.ofNat p :: 58 :: narrow cs := by
  show enc p ++ (enc 58 ++ narrow cs) = _
  rw [enc_dn h, enc_dn (by decide)]
  rfl
/-- THE FIRST DOCUMENT'S TREE -/
theorem parse_P {L O T a b : Cs} (hL : LocC L) (hO : LocC O) (hT : LocC T) (ha : ∀ c ∈ a, plainC c) (hb : ∀ c ∈ b, plainC c) (hOT : narrow O ≠ narrow T) (hl : (narrow (docP L O T a b)).length ≤ 65536) :
    ∃ q2 q3 q, parse (narrow (docP L O T a b)) = .ok [⟨[117], narrow L, sortEx [⟨[117], narrow O, narrow a, q2⟩, ⟨[117], narrow T, narrow b, q3⟩], [], -1, q⟩] := by
  obtain ⟨l, n, e1, e2⟩ := tokens_P hL hO hT ha hb
  obtain ⟨x, y, z, rfl, hx, hy, hz⟩ := list3 e2
  obtain ⟨xn, xv, xl⟩ := x
  obtain ⟨yn, yv, yl⟩ := y
  obtain ⟨zn, zv, zl⟩ := z
  simp only [Attr.bare, Prod.mk.injEq] at hx hy hz
  obtain ⟨rfl, rfl⟩ := hx
  obtain ⟨rfl, rfl⟩ := hy
  obtain ⟨rfl, rfl⟩ := hz
  have hr := read_narrow _ (docP_ok hL hO hT ha hb)
  unfold parse whole
  rw [if_neg (by omega), hr]
  simp only [ne_eq, not_true_eq_false, if_false]
  rw [e1]
  have B := build_P hL hO hT hOT
  have f1 : narrow tP = [120, 109, 108, 110, 115, 58, 112] := by rfl
  have f2 : narrow [117] = [117] := by rfl
  simp only [List.map_cons, List.map_nil, Tok.fin, Attr.fin, narrow_two 112 (by decide), f1, f2]
  exact ⟨_, _, _, B _ _ _ _ _ _⟩
theorem parse_Q {L O T a b : Cs} (hL : LocC L) (hO : LocC O) (hT : LocC T) (ha : ∀ c ∈ a, plainC c) (hb : ∀ c ∈ b, plainC c) (hOT : narrow O ≠ narrow T) (hl : (narrow (docQ L O T a b)).length ≤ 65536) :
    ∃ q2 q3 q, parse (narrow (docQ L O T a b)) = .ok [⟨[117], narrow L, sortEx [⟨[117], narrow T, narrow b, q2⟩, ⟨[117], narrow O, narrow a, q3⟩], [], -1, q⟩] := by
  obtain ⟨l, n, m, e1, e2⟩ := tokens_Q hL hO hT ha hb
  obtain ⟨x, y, z, t, rfl, hx, hy, hz, ht⟩ := list4 e2
  obtain ⟨xn, xv, xl⟩ := x
  obtain ⟨yn, yv, yl⟩ := y
  obtain ⟨zn, zv, zl⟩ := z
  obtain ⟨tn, tv, tl⟩ := t
  simp only [Attr.bare, Prod.mk.injEq] at hx hy hz ht
  obtain ⟨rfl, rfl⟩ := hx
  obtain ⟨rfl, rfl⟩ := hy
  obtain ⟨rfl, rfl⟩ := hz
  obtain ⟨rfl, rfl⟩ := ht
  have hr := read_narrow _ (docQ_ok hL hO hT ha hb)
  unfold parse whole
  rw [if_neg (by omega), hr]
  simp only [ne_eq, not_true_eq_false, if_false]
  rw [e1]
  have B := build_Q hL hO hT hOT
  have f1 : narrow tX = [120, 109, 108, 110, 115] := by rfl
  have f3 : narrow tQ = [120, 109, 108, 110, 115, 58, 113] := by rfl
  have f2 : narrow [117] = [117] := by rfl
  have f4 : narrow [] = [] := rfl
  simp only [List.map_cons, List.map_nil, Tok.fin, Attr.fin, narrow_two 113 (by decide), f1, f2, f3, f4]
  exact ⟨_, _, _, B _ _ _ _ _ _ _ _⟩
end Te
end Go.Proofs.YtigfcchblfnnbaaGreatDoor
