/- Where a send goes: the plain functions that both the program and the document's answer compute. No program in sight. -/
import Derived.Test.YtlgdkaeiadhiaaaGreatDoorNumPure
import Derived.Test.YtlgdkaeiadhiaaaGreatDoorFldPure2
namespace Go.Proofs.YtlgdkaeiadhiaaaGreatDoor
open Go Go.RowKit
set_option linter.all false
/-- an address -/
structure Adr where
  kind : Int
  id : Bytes
  host : Bytes
  port : Int
  path : Bytes
  deriving DecidableEq
def Adr.zero : Adr := ⟨0, [], [], 0, []⟩
def tScxml : Bytes := [104, 116, 116, 112, 58, 47, 47, 119, 119, 119, 46, 119, 51, 46, 111, 114, 103, 47, 84, 82, 47, 115, 99, 120, 109, 108, 47, 35, 83, 67, 88, 77, 76, 69, 118, 101, 110, 116, 80, 114, 111, 99, 101, 115, 115, 111, 114]
def tHttp : Bytes := [104, 116, 116, 112, 58, 47, 47, 119, 119, 119, 46, 119, 51, 46, 111, 114, 103, 47, 84, 82, 47, 115, 99, 120, 109, 108, 47, 35, 66, 97, 115, 105, 99, 72, 84, 84, 80, 69, 118, 101, 110, 116, 80, 114, 111, 99, 101, 115, 115, 111, 114]
def nScxml : Bytes := [115, 99, 120, 109, 108]
def nHttp : Bytes := [98, 97, 115, 105, 99, 104, 116, 116, 112]
def processor (typ : Bytes) : Int := if typ = [] ∨ typ = nScxml ∨ typ = tScxml then 1 else if typ = nHttp ∨ typ = tHttp then 2 else 0
def alnumB (b : Nat) : Bool := (97 ≤ b && b ≤ 122) || (65 ≤ b && b ≤ 90) || (48 ≤ b && b ≤ 57)
def idB (b : Nat) : Bool := alnumB b || b == 95 || b == 45 || b == 46 || b == 35 || 128 ≤ b
def hostB (b : Nat) : Bool := alnumB b || b == 45 || b == 46
def pathB (b : Nat) : Bool := 33 ≤ b && b ≤ 126 && !(b == 35)
def okId (s : Bytes) : Bool := s.all (fun c => idB c.toNat) && decide (0 < s.length) && decide (s.length ≤ 64)
def okHost (s : Bytes) : Bool := s.all (fun c => hostB c.toNat) && decide (0 < s.length) && decide (s.length ≤ 64)
def okPath (s : Bytes) : Bool := s.all (fun c => pathB c.toNat) && decide (s.head? = some 47)
def headH : Bytes := [104, 116, 116, 112, 58, 47, 47]
def headS : Bytes := [35, 95, 115, 99, 120, 109, 108, 95]
def headI : Bytes := [35, 95]
def tInternal : Bytes := [35, 95, 105, 110, 116, 101, 114, 110, 97, 108]
def tParent : Bytes := [35, 95, 112, 97, 114, 101, 110, 116]
/-- a target of the internal processor -/
def internal (t : Bytes) : Option Adr :=
  if t = [] then some ⟨1, [], [], 0, []⟩
  else if t = tInternal then some ⟨2, [], [], 0, []⟩
  else if t = tParent then some ⟨3, [], [], 0, []⟩
  else if headS <+: t ∧ okId (t.drop 8) = true then some ⟨4, t.drop 8, [], 0, []⟩
  else if headI <+: t ∧ okId (t.drop 2) = true then some ⟨5, t.drop 2, [], 0, []⟩
  else none
/-- host, port and path of what stands behind the head -/
def hp (s : Bytes) : Bytes := s.takeWhile (· != 47)
def pathOf (s : Bytes) : Bytes := if s.dropWhile (· != 47) = [] then [47] else s.dropWhile (· != 47)
def hostOf (h : Bytes) : Bytes := h.takeWhile (· != 58)
def portIn (h : Bytes) : Option Int := if h.dropWhile (· != 58) = [] then some 80 else portOf ((h.dropWhile (· != 58)).drop 1)
def url (t : Bytes) : Option Adr :=
  if headH <+: t ∧ t.length ≤ 256 then
    match portIn (hp (t.drop 7)) with
    | none => none
    | some n => if okHost (hostOf (hp (t.drop 7))) = true ∧ okPath (pathOf (t.drop 7)) = true then some ⟨6, [], hostOf (hp (t.drop 7)), n, pathOf (t.drop 7)⟩ else none
  else none
def said190 (o : Option Adr) : Adr × Int := match o with
  | some a => (a, 0)
  | none => (Adr.zero, 190)
def rtFind (t typ : Bytes) : Adr × Int := if processor typ = 1 then said190 (internal t) else if processor typ = 2 then said190 (url t) else (Adr.zero, 1)
def portText (n : Int) : Bytes := if n = 80 then [] else 58 :: Lib.itoa n
/-- an address' text, and the type by which it is looked up -/
def adrText (a : Adr) : Option (Bytes × Bytes) :=
  if a.kind = 1 then some ([], []) else if a.kind = 2 then some (tInternal, []) else if a.kind = 3 then some (tParent, [])
  else if a.kind = 4 then some (headS ++ a.id, []) else if a.kind = 5 then some (headI ++ a.id, [])
  else if a.kind = 6 then some (headH ++ a.host ++ portText a.port ++ a.path, nHttp) else none
def rtWrite (a : Adr) : Bytes × Int := match adrText a with
  | none => ([], 190)
  | some (s, typ) => if rtFind s typ = (a, 0) then (s, 0) else ([], 190)
/-! ### what is found is written to be found again -/
theorem url_shape {t : Bytes} {a : Adr} (h : url t = some a) : a.kind = 6 ∧ a.id = [] ∧ headH <+: t ∧ okHost a.host = true ∧ okPath a.path = true ∧ 1 ≤ a.port ∧ a.port ≤ 65535 ∧
    a.host = hostOf (hp (t.drop 7)) ∧ a.path = pathOf (t.drop 7) ∧ portIn (hp (t.drop 7)) = some a.port ∧ t.length ≤ 256 := by
  unfold url at h
  split at h
  · rename_i hc
    split at h
    · cases h
    · rename_i n hn
      split at h
      · rename_i ho
        obtain rfl := Option.some.inj h
        refine ⟨rfl, rfl, hc.1, ho.1, ho.2, ?_, ?_, rfl, rfl, hn, hc.2⟩
        · unfold portIn at hn
          split at hn
          · obtain rfl := Option.some.inj hn; show (1 : Int) ≤ 80; omega
          · exact (portOf_some.1 hn).2.2.1
        · unfold portIn at hn
          split at hn
          · obtain rfl := Option.some.inj hn; show (80 : Int) ≤ 65535; omega
          · exact (portOf_some.1 hn).2.2.2
      · cases h
  · cases h
theorem okHost_free {s : Bytes} (h : okHost s = true) : ∀ x ∈ s, x ≠ 47 ∧ x ≠ 58 := by
  intro x hx
  simp only [okHost, Bool.and_eq_true] at h
  have := List.all_eq_true.1 h.1.1 x hx
  constructor <;> (rintro rfl; revert this; decide)
theorem dec_free (u : Nat) : ∀ x ∈ Lib.decDigits u, x ≠ 47 ∧ x ≠ 58 := by
  intro x hx
  have := List.all_eq_true.1 (decDigits_facts u).2.1 x hx
  constructor <;> (rintro rfl; revert this; decide)
theorem take_stop (p : UInt8) (a b : Bytes) (ha : ∀ x ∈ a, x ≠ p) (hb : b = [] ∨ b.head? = some p) : (a ++ b).takeWhile (· != p) = a ∧ (a ++ b).dropWhile (· != p) = b := by
  have h1 : ∀ x ∈ a, (x != p) = true := fun x hx => by simpa using ha x hx
  rw [List.takeWhile_append_of_pos h1, List.dropWhile_append_of_pos h1]
  rcases hb with rfl | hb
  · simp
  · cases b with
    | nil => simp at hb
    | cons c r =>
      obtain rfl : c = p := by simpa using hb
      simp
/-- the text of an address of the web is told as that address -/
theorem url_text {host path : Bytes} {n : Int} (hh : okHost host = true) (hpth : okPath path = true) (h1 : 1 ≤ n) (h2 : n ≤ 65535) (hlen : (headH ++ host ++ portText n ++ path).length ≤ 256) :
    url (headH ++ host ++ portText n ++ path) = some ⟨6, [], host, n, path⟩ := by
  have hd : (headH ++ host ++ portText n ++ path).drop 7 = (host ++ portText n) ++ path := by simp [headH]
  have hpre : headH <+: headH ++ host ++ portText n ++ path := ⟨host ++ portText n ++ path, by simp⟩
  have hp47 : path.head? = some 47 := by
    simp only [okPath, Bool.and_eq_true, decide_eq_true_eq] at hpth
    exact hpth.2
  have hfree : ∀ x ∈ host ++ portText n, x ≠ 47 := by
    intro x hx
    rcases List.mem_append.1 hx with hx | hx
    · exact (okHost_free hh x hx).1
    · unfold portText at hx
      split at hx
      · cases hx
      · rcases List.mem_cons.1 hx with rfl | hx
        · decide
        · rw [itoa_pos h1] at hx
          exact (dec_free _ x hx).1
  obtain ⟨t1, t2⟩ := take_stop 47 (host ++ portText n) path hfree (.inr hp47)
  have e1 : hp ((host ++ portText n) ++ path) = host ++ portText n := t1
  have e2 : pathOf ((host ++ portText n) ++ path) = path := by
    unfold pathOf
    rw [t2, if_neg]
    rintro rfl
    simp at hp47
  have hstop : portText n = [] ∨ (portText n).head? = some 58 := by
    unfold portText
    split
    · exact .inl rfl
    · exact .inr rfl
  obtain ⟨u1, u2⟩ := take_stop 58 host (portText n) (fun x hx => (okHost_free hh x hx).2) hstop
  have e3 : hostOf (host ++ portText n) = host := u1
  have e4 : portIn (host ++ portText n) = some n := by
    unfold portIn
    rw [u2]
    unfold portText
    by_cases h80 : n = 80
    · rw [if_pos h80, if_pos rfl, h80]
    · rw [if_neg h80, if_neg (by simp)]
      show portOf (Lib.itoa n) = some n
      have hi := itoa_pos h1
      obtain ⟨f1, f2, c, r, f3, f4⟩ := decDigits_facts n.toNat
      unfold portOf
      rw [hi, if_pos ⟨by rw [f3]; simp, f2, by rw [f3]; simpa using f4 (by omega), by omega⟩, f1]
      congr 1
      omega
  unfold url
  rw [if_pos ⟨hpre, hlen⟩, hd, e1, e2, e3, e4]
  simp [hh, hpth]
end Go.Proofs.YtlgdkaeiadhiaaaGreatDoor
