/- Layer 2, in plain words: a tree's one text. Layer 2, in plain words: single bytes replaced by texts. Layer 3, in plain words: the prefixes' map. -/
import Derived.Test.YtigfcchblfnnbaaGreatDoorTeP
import Derived.Lib.ItoaLen
import Derived.Maps.Views
namespace Go.Proofs.YtigfcchblfnnbaaGreatDoor
open Go Go.RowKit
set_option linter.all false
namespace Te
open Tk (Cs)
/-- a character that a document may hold -/
def xok (c : Nat) : Bool := decide (c = 9 ∨ c = 10 ∨ c = 13 ∨ (32 ≤ c ∧ c ≤ 55295) ∨ (57344 ≤ c ∧ c ≤ 65533) ∨ 65536 ≤ c)
def charsGo (l : Bs) : Nat → Nat → Option Cs
  | 0, _ => none
  | f + 1, i => if i < l.length then (if (chr l i).2 = 0 then none else if xok (chr l i).1 then (charsGo l f (i + (chr l i).2)).map ((chr l i).1 :: ·) else none) else some []
/-- a text's characters; none: it has others -/
def chars (l : Bs) : Option Cs := charsGo l (l.length + 1) 0
def letC (c : Nat) : Bool := decide ((97 ≤ c ∧ c ≤ 122) ∨ (65 ≤ c ∧ c ≤ 90) ∨ c = 95 ∨ 127 < c)
def digC (c : Nat) : Bool := decide ((48 ≤ c ∧ c ≤ 57) ∨ c = 45 ∨ c = 46)
def locGo : Nat → Cs → Bool
  | _, [] => true
  | i, c :: r => (letC c || (decide (i ≠ 0) && digC c)) && locGo (i + 1) r
def localR (l : Bs) : Bool := match chars l with
  | none => false
  | some cs => decide (1 ≤ cs.length) && (decide (cs.length ≤ 48) && locGo 0 cs)
def spaceR (l : Bs) : Bool := (chars l).isSome && decide (l ≠ xmlnsS)
def exGo : Option ExV → List ExV → Bool
  | _, [] => true
  | p, x :: r => (chars x.val).isSome && (spaceR x.sp && (localR x.lo && (!(decide (x.sp = []) && decide (x.lo = tXmlns)) && ((match p with | none => true | some q => exLt q x) && exGo (some x) r))))
def elemR (n : NodeV) : Bool := localR n.lo && (decide (n.text = []) && (spaceR n.sp && exGo none n.ex))
def textR (ns : List NodeV) (i : Nat) (n : NodeV) : Bool :=
  (chars n.text).isSome && (decide (n.text ≠ []) && (decide (n.sp = []) && (decide (n.ex = []) && (decide (i = 0) || !(match ns[i - 1]? with | some q => decide (q.lo = []) && decide (q.par = n.par) | none => false)))))
/-- up to the element in which a node stands -/
def climbI (ns : List NodeV) : Nat → Int → Int → Option Nat
  | 0, _, _ => none
  | f + 1, p, t => if p < 0 then none else if p = t then some p.toNat else climbI ns f (match ns[p.toNat]? with | some q => q.par | none => -1) t
def rightGo (ns : List NodeV) : Nat → Nat → List Nat → Int → Bool
  | 0, _, _, _ => false
  | f + 1, i, d, last => match ns[i]? with
    | none => true
    | some n => (if n.lo = [] then textR ns i n else elemR n) &&
      (match (if i = 0 then some d else (climbI ns (i + 1) last n.par).map fun p => d.set i (d.getD p 0 + 1)) with
       | none => false
       | some d' => !(decide (32 ≤ d'.getD i 0) && decide (n.lo ≠ [])) && rightGo ns f (i + 1) d' (if n.lo ≠ [] then (i : Int) else n.par))
/-- could a document say this? -/
def right (ns : List NodeV) : Bool := match ns with
  | [] => false
  | n :: _ => decide (ns.length ≤ 2048) && (decide (n.par = -1) && (decide (n.lo ≠ []) && rightGo ns (ns.length + 1) 0 (List.replicate ns.length 0) 0))
def kidsGo (i : Int) : List NodeV → Nat → List Nat
  | [], _ => []
  | n :: r, k => if n.par = i then k :: kidsGo i r (k + 1) else kidsGo i r (k + 1)
def kids (ns : List NodeV) (i : Int) : List Nat := kidsGo i ns 0
/-- a mark's stand-in -/
def markV (c : UInt8) : Option Bs :=
  if c = 38 then some [38, 97, 109, 112, 59] else if c = 60 then some [38, 108, 116, 59] else if c = 34 then some [38, 113, 117, 111, 116, 59] else if c = 9 then some [38, 35, 57, 59]
  else if c = 10 then some [38, 35, 49, 48, 59] else if c = 13 then some [38, 35, 49, 51, 59] else none
def markT (c : UInt8) : Option Bs :=
  if c = 38 then some [38, 97, 109, 112, 59] else if c = 60 then some [38, 108, 116, 59] else if c = 62 then some [38, 103, 116, 59] else if c = 13 then some [38, 35, 49, 51, 59] else none
def escB (m : UInt8 → Option Bs) (l : Bs) : Bs := l.flatMap fun c => (m c).getD [c]
def digs (n : Nat) : Bs := Lib.itoa (n : Int)
def putB (nm v : Bs) : Bs := [32] ++ nm ++ [61, 34] ++ escB markV v ++ [34]
/-- the spaces that want a prefix, in their order -/
def pfxGo : List Bs → List ExV → List Bs
  | ss, [] => ss
  | ss, x :: r => if x.sp = [] ∨ x.sp = xmlS ∨ x.sp ∈ ss then pfxGo ss r else pfxGo (ss ++ [x.sp]) r
def attrB (ss : List Bs) (x : ExV) : Bs :=
  if x.sp = [] then putB x.lo x.val else if x.sp = xmlS then putB ([120, 109, 108, 58] ++ x.lo) x.val
  else putB ([110] ++ digs (ss.idxOf x.sp + 1) ++ [58] ++ x.lo) x.val
def nameB (n : NodeV) : Bs := if n.sp = xmlS then [120, 109, 108, 58] ++ n.lo else n.lo
/-- a start tag, but for its end -/
def headB (n : NodeV) (sp : Bs) : Bs :=
  let ss := pfxGo [] n.ex
  [60] ++ nameB n ++ (if n.sp ≠ sp ∧ n.sp ≠ xmlS then putB tXmlns n.sp else []) ++
    (ss.zipIdx.flatMap fun x => putB ([120, 109, 108, 110, 115, 58, 110] ++ digs (x.2 + 1)) x.1) ++ n.ex.flatMap (attrB ss)
def spaceB (n : NodeV) (sp : Bs) : Bs := if n.sp ≠ sp ∧ n.sp ≠ xmlS then n.sp else sp
/-- a node's text -/
def writeB (ns : List NodeV) : Nat → Nat → Bs → Bs
  | 0, _, _ => []
  | f + 1, i, sp => match ns[i]? with
    | none => []
    | some n => if n.lo = [] then escB markT n.text
      else headB n sp ++ (if kids ns i = [] then [47, 62] else [62] ++ (kids ns i).flatMap (fun k => writeB ns f k (spaceB n sp)) ++ [60, 47] ++ nameB n ++ [62])
def canon (ns : List NodeV) : Option Bs := if right ns then some (writeB ns ns.length 0 []) else none
def attrOf (ns : List NodeV) (i : Int) (sp lo : Bs) : Option Bs := if i < 0 then none else match ns[i.toNat]? with
  | none => none
  | some n => (n.ex.find? fun x => decide (x.sp = sp) && decide (x.lo = lo)).map (·.val)
end Te
end Go.Proofs.YtigfcchblfnnbaaGreatDoor
namespace Go.Proofs.YtigfcchblfnnbaaGreatDoor
open Go Go.RowKit
set_option linter.all false
namespace Te
/-- how much longer a byte grows -/
def grow1 (m : UInt8 → Option Bs) (c : UInt8) : Nat := match m c with | some n => n.length - 1 | none => 0
def grows (m : UInt8 → Option Bs) (l : Bs) : Nat := (l.map (grow1 m)).sum
theorem grows_cons (m : UInt8 → Option Bs) (c : UInt8) (l : Bs) : grows m (c :: l) = grow1 m c + grows m l := by simp [grows]
theorem grows_snoc (m : UInt8 → Option Bs) (c : UInt8) (l : Bs) : grows m (l ++ [c]) = grows m l + grow1 m c := by simp [grows]
theorem escB_len (m : UInt8 → Option Bs) (hm : ∀ c n, m c = some n → 1 ≤ n.length) (l : Bs) : (escB m l).length = l.length + grows m l := by
  induction l with
  | nil => rfl
  | cons c l ih =>
    have e : escB m (c :: l) = (m c).getD [c] ++ escB m l := by simp [escB]
    rw [e, List.length_append, ih, grows_cons, List.length_cons]
    unfold grow1
    cases h : m c with
    | none => simp; omega
    | some n => have := hm c n h; simp; omega
theorem escB_snoc (m : UInt8 → Option Bs) (c : UInt8) (l : Bs) : escB m (l ++ [c]) = escB m l ++ (m c).getD [c] := by simp [escB]
theorem escB_none (m : UInt8 → Option Bs) (l : Bs) (h : ∀ c ∈ l, m c = none) : escB m l = l := by
  induction l with
  | nil => rfl
  | cons c l ih =>
    have e : escB m (c :: l) = (m c).getD [c] ++ escB m l := by simp [escB]
    rw [e, h c (by simp), ih fun x hx => h x (by simp [hx])]
    rfl
/-- counted by bytes of the text, or by marks -/
theorem grows_counts (m : UInt8 → Option Bs) (os : Bs) (hn : os.Nodup) (hm : ∀ c, m c ≠ none → c ∈ os) (l : Bs) : grows m l = (os.map fun o => l.count o * grow1 m o).sum := by
  induction l with
  | nil =>
    have : ∀ os : Bs, (os.map fun o => ([] : Bs).count o * grow1 m o).sum = 0 := by intro os; induction os with | nil => rfl | cons o os ih => simp at *; exact ih
    rw [this]; rfl
  | cons c l ih =>
    rw [grows_cons, ih]
    have key : ∀ os : Bs, os.Nodup → (os.map fun o => (c :: l).count o * grow1 m o).sum = (if c ∈ os then grow1 m c else 0) + (os.map fun o => l.count o * grow1 m o).sum := by
      intro os
      induction os with
      | nil => simp
      | cons o os ih2 =>
        intro h
        rw [List.nodup_cons] at h
        have h2 := ih2 h.2
        simp only [List.map_cons, List.sum_cons]
        rw [h2, List.count_cons]
        by_cases ho : c = o
        · subst ho
          have : c ∉ os := h.1
          simp [this, Nat.add_mul]; omega
        · have h3 : ¬ (c == o) = true := by simpa using ho
          simp [h3, ho]; omega
    rw [key os hn]
    by_cases hc : c ∈ os
    · rw [if_pos hc]
    · have : m c = none := by
        cases h : m c with
        | none => rfl
        | some n => exact absurd (hm c (by rw [h]; simp)) hc
      rw [if_neg hc]
      simp [grow1, this]
end Te
end Go.Proofs.YtigfcchblfnnbaaGreatDoor
namespace Go.Proofs.YtigfcchblfnnbaaGreatDoor
open Go Go.RowKit
set_option linter.all false
namespace Te
/-- the map says these prefixes -/
structure PfxD (D : DataW Unit) (ss : List Bs) : Prop where
  tidy : Maps.Tidy D
  has : ∀ s, Maps.has D (.string s) = decide (s = [] ∨ s = xmlS ∨ s ∈ ss)
  at_ : ∀ (i : Nat) s, ss[i]? = some s → ∀ z, D.atKey (.string s) z = .lit (.int .i64 ((i : Int) + 1))
  size : Maps.size D = ss.length + 2
  nd : ss.Nodup
def pfxD0 : DataW Unit := ((DataW.map []).put (.string []) (.lit (.int .i64 0))).put (.string xmlS) (.lit (.int .i64 0))
theorem keyS (s : Bs) : WideAt.IsKeyLit (.string s) := trivial
theorem pfx_start : PfxD pfxD0 [] := by
  have t1 : Maps.Tidy ((DataW.map [] : DataW Unit).put (.string []) (.lit (.int .i64 0))) := Maps.tidy_empty.put (keyS _) _
  refine ⟨t1.put (keyS _) _, fun s => ?_, fun i s h => by simp at h, rfl, List.nodup_nil⟩
  unfold pfxD0
  by_cases h1 : s = xmlS
  · subst h1
    rw [Maps.has_put_same t1.isMap (keyS _)]
    simp
  · rw [Maps.has_put_other (by intro e; cases e; exact h1 rfl)]
    by_cases h2 : s = []
    · subst h2
      rw [Maps.has_put_same Maps.isMap_empty (keyS _)]
      simp
    · rw [Maps.has_put_other (by intro e; cases e; exact h2 rfl)]
      simp [h1, h2]
      rfl
theorem PfxD.step {D : DataW Unit} {ss : List Bs} (h : PfxD D ss) {s : Bs} (hs : Maps.has D (.string s) = false) : PfxD (D.put (.string s) (.lit (.int .i64 ((ss.length : Int) + 1)))) (ss ++ [s]) := by
  have hn := h.has s
  rw [hs] at hn
  have hn := (of_decide_eq_false hn.symm)
  simp only [not_or] at hn
  refine ⟨h.tidy.put (keyS _) _, fun x => ?_, fun i x hi z => ?_, ?_, ?_⟩
  · by_cases hx : x = s
    · subst hx
      rw [Maps.has_put_same h.tidy.isMap (keyS _)]
      simp
    · rw [Maps.has_put_other (by intro e; cases e; exact hx rfl), h.has x]
      simp [hx]
  · by_cases hil : i < ss.length
    · rw [List.getElem?_append_left hil] at hi
      have hx : x ≠ s := fun e => hn.2.2 (e ▸ List.mem_of_getElem? hi)
      rw [Maps.atKey_put_other (by intro e; cases e; exact hx rfl)]
      exact h.at_ i x hi z
    · have hil2 : i = ss.length := by
        have := (List.getElem?_eq_some_iff.1 hi).1
        simp at this; omega
      subst hil2
      simp at hi
      subst hi
      rw [Maps.atKey_put_same h.tidy.isMap (keyS _)]
  · rw [Maps.size_put h.tidy, hs, h.size]
    simp
  · rw [List.nodup_append]
    exact ⟨h.nd, by simp, fun a ha b hb => by simp at hb; subst hb; exact fun e => hn.2.2 (e ▸ ha)⟩
theorem pfxGo_cons (ss : List Bs) (x : ExV) (r : List ExV) : pfxGo ss (x :: r) = if x.sp = [] ∨ x.sp = xmlS ∨ x.sp ∈ ss then pfxGo ss r else pfxGo (ss ++ [x.sp]) r := rfl
theorem pfxGo_drop (ss : List Bs) (l : List ExV) (i : Nat) (x : ExV) (h : l[i]? = some x) : pfxGo ss (l.drop i) = if x.sp = [] ∨ x.sp = xmlS ∨ x.sp ∈ ss then pfxGo ss (l.drop (i + 1)) else pfxGo (ss ++ [x.sp]) (l.drop (i + 1)) := by
  obtain ⟨hi, e⟩ := List.getElem?_eq_some_iff.1 h
  rw [List.drop_eq_getElem_cons hi, e, pfxGo_cons]
/-- prefixes only grow -/
theorem pfxGo_pre : ∀ (l : List ExV) (ss : List Bs), ∃ t, pfxGo ss l = ss ++ t
  | [], ss => ⟨[], by simp [pfxGo]⟩
  | x :: r, ss => by
    rw [pfxGo_cons]
    split
    · exact pfxGo_pre r ss
    · obtain ⟨t, ht⟩ := pfxGo_pre r (ss ++ [x.sp])
      exact ⟨x.sp :: t, by rw [ht]; simp⟩
theorem pfxGo_len : ∀ (l : List ExV) (ss : List Bs), (pfxGo ss l).length ≤ ss.length + l.length
  | [], ss => by simp [pfxGo]
  | x :: r, ss => by
    rw [pfxGo_cons]
    split
    · have := pfxGo_len r ss; simp; omega
    · have := pfxGo_len r (ss ++ [x.sp]); simp at this ⊢; omega
theorem pfxGo_mem : ∀ (l : List ExV) (ss : List Bs) (x : ExV), x ∈ l → x.sp ≠ [] → x.sp ≠ xmlS → x.sp ∈ pfxGo ss l
  | [], _, _, h, _, _ => by cases h
  | y :: r, ss, x, h, h1, h2 => by
    rw [pfxGo_cons]
    rcases List.mem_cons.1 h with rfl | h
    · split
      · rename_i h3
        have h3 : x.sp ∈ ss := by
          rcases h3 with h3 | h3 | h3
          · exact absurd h3 h1
          · exact absurd h3 h2
          · exact h3
        obtain ⟨t, ht⟩ := pfxGo_pre r ss
        rw [ht]; simp [h3]
      · obtain ⟨t, ht⟩ := pfxGo_pre r (ss ++ [x.sp])
        rw [ht]; simp
    · split
      · exact pfxGo_mem r ss x h h1 h2
      · exact pfxGo_mem r (ss ++ [y.sp]) x h h1 h2
/-- the declarations of the prefixes, from the k-th on -/
def declB (ss : List Bs) (k : Nat) : Bs := (ss.zipIdx k).flatMap fun x => putB ([120, 109, 108, 110, 115, 58, 110] ++ digs (x.2 + 1)) x.1
theorem declB_snoc (ss : List Bs) (s : Bs) (k : Nat) : declB (ss ++ [s]) k = declB ss k ++ putB ([120, 109, 108, 110, 115, 58, 110] ++ digs (k + ss.length + 1)) s := by
  unfold declB
  rw [List.zipIdx_append, List.flatMap_append]
  simp [List.zipIdx]
end Te
end Go.Proofs.YtigfcchblfnnbaaGreatDoor
