/- The frame of the cards, for any types of arguments: what an argument reads stays read where nothing old has turned; a world for the witness; the last step. What the second form's bound gives. An argument that is a slice of structs: it reads as a list. -/
import Derived.Test.YtigfcchblfnnbaaGreatDoorBase
import Derived.Test.YtigfcchblfnnbaaGreatDoorCards
import Derived.Test.YtigfcchblfnnbaaGreatDoorTie
import Derived.ProofKit
import Derived.OpenShut
import Derived.Deep.DeepHandedRow
import Derived.Lib.LaidTab
import Derived.ShutString
import Derived.SizedLaws
import Derived.Lib.SmallJoins
import Derived.MakeChecks
import Derived.Lay
import Derived.SevenTiedAt
import Derived.ChangeStays
import Derived.ChangeBook
import Derived.Deep.SlicePairs
import Derived.Deep.Frames
import Derived.Test.YtigfcchblfnnbaaGreatDoorRows
import Derived.Deep.Slices
import Derived.Lib.AppendIntMem
import Derived.Laws.AppendOwnNone
namespace Go.Proofs.YtigfcchblfnnbaaGreatDoor
open Go Go.RowKit Go.ChangeShapes Go.WideShapes Go.ChangeAt
set_option linter.all false
theorem own : ownKnob Tryz.prog.godebug = none := by kernel_rfl
theorem laid_out : laidOutB Tryz.prog = true := by kernel_rfl
/-- the parameters' types can be carried -/
def carries (P : Program) (ts : List TypeId) : Bool := ts.all fun t => P.readableRec t && decide (t < P.types.size)
section
variable {H : Type} {enc : TypeId × Value → H} {W W' : World}
theorem trod_stay {t : TypeId} (hr : Tryz.prog.readableRec t = true) (hrow : t < Tryz.prog.types.size) (hp : Pur W W') {sp : Nat → Bool} {v : Value} {d : DataW H} {ps : List MemPlace}
    (h : DataW.Trod enc Tryz.prog W 0 (fun _ => true) true t v d ps) (hlt : ∀ p ∈ ps, p.block < W.heap.size) (hs : ∀ p ∈ ps, sp p.block = true) : DataW.Trod enc Tryz.prog W' 0 sp true t v d ps := by
  obtain ⟨n, h⟩ := h
  have hk : W.keptBut W' (fun _ => False) := Below.frame hp _
  exact ⟨n, DataW.trod_stays (kids_book laid_out hr) (book_sized hr) (fun h => by cases h) ⟨hrow, book_self t⟩ h
    (fun p hp => hk.sameAt (hlt p hp) (fun f => f) (fun b e => by
      have := DataW.trod_good (kids_book laid_out hr) (fun h => by cases h) n t v.cells.toList (d, ps) ⟨hrow, book_self t⟩ h p hp
      subst e
      exact this)) hs⟩
theorem trodAll_stay (hp : Pur W W') {sp : Nat → Bool} (ts : List TypeId) (hc : carries Tryz.prog ts = true) : ∀ (vs : List Value) (ds : List (DataW H)) (ps : List MemPlace),
    DataW.TrodAll enc Tryz.prog W 0 (fun _ => true) true ts vs ds ps → (∀ p ∈ ps, p.block < W.heap.size) → (∀ p ∈ ps, sp p.block = true) → DataW.TrodAll enc Tryz.prog W' 0 sp true ts vs ds ps := by
  induction ts with
  | nil =>
    intro vs ds ps h _ _
    cases vs with
    | nil => cases ds with
      | nil => exact h
      | cons d ds => exact h.elim
    | cons v vs => cases ds <;> exact h.elim
  | cons t ts ih =>
    intro vs ds ps h hlt hs
    obtain ⟨v, vs', d, ds', p, q, rfl, rfl, rfl, h0, h1⟩ := trodAll_cons h
    unfold carries at hc
    rw [List.all_cons, Bool.and_eq_true, Bool.and_eq_true] at hc
    have h2 := trod_stay hc.1.1 (of_decide_eq_true hc.1.2) hp h0 (fun x hx => hlt x (List.mem_append_left _ hx)) (sp := sp) (fun x hx => hs x (List.mem_append_left _ hx))
    have h3 := ih hc.2 vs' ds' q h1 (fun x hx => hlt x (List.mem_append_right _ hx)) (fun x hx => hs x (List.mem_append_right _ hx))
    exact trodAll_cons_mk h2 h3
end
set_option maxRecDepth 100000 in
/-- THE LAST STEP of a law that lists no variable among its own: it has answered true, and nothing old has turned. -/
theorem law_post {H : Type} {enc : TypeId × Value → H} {f : Func} {s : ChangeSpec} {W W' : World} {args : Array Value} {ds gs : List (DataW H)} {before : List MemPlace}
    (hv : s.vars = []) (hr : f.resultTypes = #[4]) (hc : carries Tryz.prog f.params.toList = true)
    (hs : s.fn H ds = { results := [.lit (.bool true)], args := ds }) (hW : DataW.Whole enc Tryz.prog f.params.toList s.vars false W args.toList ds gs before) (hp : Pur W W') :
    s.post enc Tryz.prog f false true false false W args (.bool true) W' := by
  have hW0 := hW
  obtain ⟨p, q, hA, hV, hb, hfz, hnd⟩ := hW
  rw [hv] at hV
  obtain ⟨rfl, rfl⟩ := trodVars_none hV
  rw [List.append_nil] at hb
  subst hb
  have old : ∀ x ∈ before, x.block < W.heap.size := fun x h => hW0.lt x h
  have e1 : s.fn H (ds ++ []) = { results := [.lit (.bool true)], args := ds } := by rw [List.append_nil]; exact hs
  have hargs : ∀ sp : Nat → Bool, (∀ x ∈ before, sp x.block = true) → DataW.TrodAll enc Tryz.prog W' 0 sp true f.params.toList args.toList (s.fn H (ds ++ [])).args before := by
    intro sp hsp
    rw [e1]
    exact trodAll_stay hp _ hc _ _ _ hA old hsp
  have hres : ∀ (b : Nat) (sp : Nat → Bool) (hd : Bool), DataW.TrodAll enc Tryz.prog W' b sp hd f.resultTypes.toList ((Value.bool true).resultList f.resultTypes.size) (s.fn H (ds ++ [])).results [] := by
    intro b sp hd
    rw [e1, hr]
    exact trodAll_cons_mk (shut_bool Tryz.underlying4 _) trodAll_mk0
  have hvars : ∀ sp : Nat → Bool, DataW.TrodVars enc Tryz.prog W' sp s.vars (s.fn H (ds ++ [])).vars [] := by
    intro sp
    rw [e1, hv]
    rfl
  have hok : ∀ (j : Nat) (t : TypeId) (r : Value), f.resultTypes[j]? = some t → ((Value.bool true).resultList f.resultTypes.size)[j]? = some r → Value.okWide Tryz.prog W' .any 0 t r := by
    exact ok_one hr rfl (okWide_bool_mk Tryz.underlying4 _)
  have keep : W.keptBut W' (· ∈ before) := Below.frame hp _
  refine ⟨ds, [], before, [], before, [], hW0, hres _ _ _, hargs _ (fun x h => decide_eq_true (old x h)), hvars _, World.keptBut_mono (fun x h => ⟨h, .inr (.inl h)⟩) keep, fun _ => ?_⟩
  refine ⟨hok, _, _, ([] ++ before) ++ [], ⟨[] ++ before, [], trodAll_append (hargs _ fun _ _ => rfl) (hres _ _ _), hvars _, rfl, fun b off h => ?_, fun h => ?_⟩, fun x h _ => ?_⟩
  · have hin : MemPlace.cell b off ∈ before := by simpa using h
    rw [Below.frozen hp (old _ hin)]
    exact hfz b off hin
  · have h' := hnd h
    simpa using h'
  · simpa using h
end Go.Proofs.YtigfcchblfnnbaaGreatDoor
namespace Go.Proofs.YtigfcchblfnnbaaGreatDoor
open Go
set_option linter.all false
theorem bulk_bound {H : Type} {l : List (DataW H)} (hk : Rows.uptoSmall H l = true) : Rows.uptoBulkAll l ≤ 1048576 := of_decide_eq_true hk
end Go.Proofs.YtigfcchblfnnbaaGreatDoor
namespace Go.Proofs.YtigfcchblfnnbaaGreatDoor
open Go Go.RowKit Go.ChangeShapes Go.WideShapes Go.Deep
set_option linter.all false
/-- v is a slice whose elements, k cells each, read as rs. -/
def LRead {α : Type} (k : Nat) (f : α → List Value) (w : World) (v : Value) (rs : List α) : Prop :=
  ∃ a c, v = .slice a rs.length c ∧ ∀ (j : Nat) r, rs[j]? = some r → ∃ b o, a = some ⟨b, o, none⟩ ∧ b < w.heap.size ∧ ∀ (i : Nat) u, (f r)[i]? = some u → w.cell? ⟨b, o + j * k + i, none⟩ = some u
theorem LRead.pur {α : Type} {k : Nat} {f : α → List Value} {w w' : World} {v : Value} {rs : List α} (h : LRead k f w v rs) (hp : Pur w w') : LRead k f w' v rs := by
  obtain ⟨a, c, h1, h2⟩ := h
  refine ⟨a, c, h1, fun j r hj => ?_⟩
  obtain ⟨b, o, e, hb, c1⟩ := h2 j r hj
  exact ⟨b, o, e, Nat.lt_of_lt_of_le hb hp.size, fun i u hu => (hp.cell hb).trans (c1 i u hu)⟩
theorem LRead.nil {α : Type} {k : Nat} {f : α → List Value} (w : World) : LRead k f w (.slice none 0 0) [] := ⟨none, 0, rfl, fun j r h => by simp at h⟩
theorem flat_at {α : Type} {k : Nat} {f : α → List Value} (hlen : ∀ a, (f a).length = k) : ∀ (rs : List α) (j : Nat) (r : α), rs[j]? = some r → ∀ (i : Nat) u, (f r)[i]? = some u → (rs.flatMap f)[j * k + i]? = some u
  | [], j, r, h, i, u, hu => by simp at h
  | g :: rs, 0, r, h, i, u, hu => by
    obtain rfl : g = r := by simpa using h
    have hi := (List.getElem?_eq_some_iff.1 hu).1
    rw [List.flatMap_cons, Nat.zero_mul, Nat.zero_add, List.getElem?_append_left hi, hu]
  | g :: rs, j + 1, r, h, i, u, hu => by
    have := flat_at hlen rs j r (by simpa using h) i u hu
    rw [List.flatMap_cons, List.getElem?_append_right (by rw [hlen, Nat.succ_mul]; omega), hlen]
    rw [show (j + 1) * k + i - k = j * k + i by rw [Nat.succ_mul]; omega]
    exact this
theorem flat_len {α : Type} {k : Nat} {f : α → List Value} (hlen : ∀ a, (f a).length = k) (rs : List α) : (rs.flatMap f).length = rs.length * k := by
  induction rs with
  | nil => simp
  | cons r rs ih => rw [List.flatMap_cons, List.length_append, hlen, ih, List.length_cons, Nat.succ_mul]; omega
theorem LRead.of_own {α : Type} {k : Nat} {f : α → List Value} (hlen : ∀ a, (f a).length = k) {w : World} {B : Nat} {e : TypeId} {v : Value} {rs : List α} (h : w.ownsRow B e k v rs.length (rs.flatMap f)) : LRead k f w v rs := by
  obtain ⟨h1, h2⟩ := id h
  rcases h2 with ⟨rfl, h0⟩ | ⟨g, cap, cur, rfl, hb, hg, _⟩
  · obtain rfl : rs = [] := List.length_eq_zero_iff.1 h0
    exact LRead.nil w
  · refine ⟨_, _, rfl, fun j r hj => ⟨g, 0, rfl, (Array.getElem?_eq_some_iff.1 hg).1, fun i u hu => ?_⟩⟩
    have := h.cells (g := g) rfl (j * k + i) _ (flat_at hlen rs j r hj i u hu)
    have ha : (Addr.mk g 0 none).add (j * k + i) = ⟨g, j * k + i, none⟩ := by unfold Addr.add; split <;> simp_all
    rw [ha] at this
    rw [Nat.zero_add]
    exact this
section
variable {H : Type} {enc : TypeId × Value → H} {P : Program} {W : World}
end
end Go.Proofs.YtigfcchblfnnbaaGreatDoor
