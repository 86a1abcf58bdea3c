/- The frame of the cards, for any types of arguments: what an argument reads stays read where nothing old has turned; a world for the witness; the last step. What the second form's bound gives. What the cards of this package take: the world's facts out of the row's list, the handle among them; the witness's world. TokReads: every document's tokens, or its first fault and where it stands, are the document's. THE CARD OF TokReads (the second form): for every input of the bulk that the row names the law returns true, and each argument reads as it did; the listed tables as their text lays them. -/
import Derived.Test.YtaknfofppknloaaGreatDoorBase
import Derived.Test.YtaknfofppknloaaGreatDoorCards
import Derived.Test.YtaknfofppknloaaGreatDoorTie
import Derived.ProofKit
import Derived.OpenShut
import Derived.Deep.DeepHandedRow
import Derived.Lib.LaidTab
import Derived.ShutString
import Derived.SizedLaws
import Derived.Lib.SmallJoins
import Derived.MakeChecks
import Derived.Lay
import Derived.SevenTiedAt
import Derived.ChangeStays
import Derived.ChangeBook
import Derived.Deep.SlicePairs
import Derived.Deep.Frames
import Derived.Test.YtaknfofppknloaaGreatDoorRows
import Derived.Test.YtaknfofppknloaaGreatDoorTzQ
import Derived.Clock
import Derived.Lib.LaidU8
import Derived.LaidHandle
import Derived.Stop.LaidErr
import Derived.Deep.DeepWitnessRowRef
import Derived.Test.YtaknfofppknloaaGreatDoorTzS
namespace Go.Proofs.YtaknfofppknloaaGreatDoor
open Go Go.RowKit Go.ChangeShapes Go.WideShapes Go.ChangeAt
set_option linter.all false
theorem own : ownKnob Tryz.prog.godebug = none := by kernel_rfl
theorem laid_out : laidOutB Tryz.prog = true := by kernel_rfl
/-- the parameters' types can be carried -/
def carries (P : Program) (ts : List TypeId) : Bool := ts.all fun t => P.readableRec t && decide (t < P.types.size)
section
variable {H : Type} {enc : TypeId × Value → H} {W W' : World}
theorem trod_stay {t : TypeId} (hr : Tryz.prog.readableRec t = true) (hrow : t < Tryz.prog.types.size) (hp : Pur W W') {sp : Nat → Bool} {v : Value} {d : DataW H} {ps : List MemPlace}
    (h : DataW.Trod enc Tryz.prog W 0 (fun _ => true) true t v d ps) (hlt : ∀ p ∈ ps, p.block < W.heap.size) (hs : ∀ p ∈ ps, sp p.block = true) : DataW.Trod enc Tryz.prog W' 0 sp true t v d ps := by
  obtain ⟨n, h⟩ := h
  have hk : W.keptBut W' (fun _ => False) := Below.frame hp _
  exact ⟨n, DataW.trod_stays (kids_book laid_out hr) (book_sized hr) (fun h => by cases h) ⟨hrow, book_self t⟩ h
    (fun p hp => hk.sameAt (hlt p hp) (fun f => f) (fun b e => by
      have := DataW.trod_good (kids_book laid_out hr) (fun h => by cases h) n t v.cells.toList (d, ps) ⟨hrow, book_self t⟩ h p hp
      subst e
      exact this)) hs⟩
theorem trodAll_stay (hp : Pur W W') {sp : Nat → Bool} (ts : List TypeId) (hc : carries Tryz.prog ts = true) : ∀ (vs : List Value) (ds : List (DataW H)) (ps : List MemPlace),
    DataW.TrodAll enc Tryz.prog W 0 (fun _ => true) true ts vs ds ps → (∀ p ∈ ps, p.block < W.heap.size) → (∀ p ∈ ps, sp p.block = true) → DataW.TrodAll enc Tryz.prog W' 0 sp true ts vs ds ps := by
  induction ts with
  | nil =>
    intro vs ds ps h _ _
    cases vs with
    | nil => cases ds with
      | nil => exact h
      | cons d ds => exact h.elim
    | cons v vs => cases ds <;> exact h.elim
  | cons t ts ih =>
    intro vs ds ps h hlt hs
    obtain ⟨v, vs', d, ds', p, q, rfl, rfl, rfl, h0, h1⟩ := trodAll_cons h
    unfold carries at hc
    rw [List.all_cons, Bool.and_eq_true, Bool.and_eq_true] at hc
    have h2 := trod_stay hc.1.1 (of_decide_eq_true hc.1.2) hp h0 (fun x hx => hlt x (List.mem_append_left _ hx)) (sp := sp) (fun x hx => hs x (List.mem_append_left _ hx))
    have h3 := ih hc.2 vs' ds' q h1 (fun x hx => hlt x (List.mem_append_right _ hx)) (fun x hx => hs x (List.mem_append_right _ hx))
    exact trodAll_cons_mk h2 h3
end
set_option maxRecDepth 100000 in
/-- THE LAST STEP of a law that lists no variable among its own: it has answered true, and nothing old has turned. -/
theorem law_post {H : Type} {enc : TypeId × Value → H} {f : Func} {s : ChangeSpec} {W W' : World} {args : Array Value} {ds gs : List (DataW H)} {before : List MemPlace}
    (hv : s.vars = []) (hr : f.resultTypes = #[4]) (hc : carries Tryz.prog f.params.toList = true)
    (hs : s.fn H ds = { results := [.lit (.bool true)], args := ds }) (hW : DataW.Whole enc Tryz.prog f.params.toList s.vars false W args.toList ds gs before) (hp : Pur W W') :
    s.post enc Tryz.prog f false true false false W args (.bool true) W' := by
  have hW0 := hW
  obtain ⟨p, q, hA, hV, hb, hfz, hnd⟩ := hW
  rw [hv] at hV
  obtain ⟨rfl, rfl⟩ := trodVars_none hV
  rw [List.append_nil] at hb
  subst hb
  have old : ∀ x ∈ before, x.block < W.heap.size := fun x h => hW0.lt x h
  have e1 : s.fn H (ds ++ []) = { results := [.lit (.bool true)], args := ds } := by rw [List.append_nil]; exact hs
  have hargs : ∀ sp : Nat → Bool, (∀ x ∈ before, sp x.block = true) → DataW.TrodAll enc Tryz.prog W' 0 sp true f.params.toList args.toList (s.fn H (ds ++ [])).args before := by
    intro sp hsp
    rw [e1]
    exact trodAll_stay hp _ hc _ _ _ hA old hsp
  have hres : ∀ (b : Nat) (sp : Nat → Bool) (hd : Bool), DataW.TrodAll enc Tryz.prog W' b sp hd f.resultTypes.toList ((Value.bool true).resultList f.resultTypes.size) (s.fn H (ds ++ [])).results [] := by
    intro b sp hd
    rw [e1, hr]
    exact trodAll_cons_mk (shut_bool Tryz.underlying4 _) trodAll_mk0
  have hvars : ∀ sp : Nat → Bool, DataW.TrodVars enc Tryz.prog W' sp s.vars (s.fn H (ds ++ [])).vars [] := by
    intro sp
    rw [e1, hv]
    rfl
  have hok : ∀ (j : Nat) (t : TypeId) (r : Value), f.resultTypes[j]? = some t → ((Value.bool true).resultList f.resultTypes.size)[j]? = some r → Value.okWide Tryz.prog W' .any 0 t r := by
    exact ok_one hr rfl (okWide_bool_mk Tryz.underlying4 _)
  have keep : W.keptBut W' (· ∈ before) := Below.frame hp _
  refine ⟨ds, [], before, [], before, [], hW0, hres _ _ _, hargs _ (fun x h => decide_eq_true (old x h)), hvars _, World.keptBut_mono (fun x h => ⟨h, .inr (.inl h)⟩) keep, fun _ => ?_⟩
  refine ⟨hok, _, _, ([] ++ before) ++ [], ⟨[] ++ before, [], trodAll_append (hargs _ fun _ _ => rfl) (hres _ _ _), hvars _, rfl, fun b off h => ?_, fun h => ?_⟩, fun x h _ => ?_⟩
  · have hin : MemPlace.cell b off ∈ before := by simpa using h
    rw [Below.frozen hp (old _ hin)]
    exact hfz b off hin
  · have h' := hnd h
    simpa using h'
  · simpa using h
end Go.Proofs.YtaknfofppknloaaGreatDoor
namespace Go.Proofs.YtaknfofppknloaaGreatDoor
open Go
set_option linter.all false
theorem bulk_one {H : Type} (d : DataW H) : 1 ≤ Rows.uptoBulk d := by
  cases d with
  | lit l => cases l <;> simp [Rows.uptoBulk]
  | _ => simp [Rows.uptoBulk]
theorem bulk_mem {H : Type} {d : DataW H} : ∀ {l : List (DataW H)}, d ∈ l → Rows.uptoBulk d ≤ Rows.uptoBulkAll l
  | x :: r, h => by
    rw [Rows.uptoBulkAll]
    rcases List.mem_cons.1 h with rfl | h
    · omega
    · have := bulk_mem h
      omega
theorem bulk_len {H : Type} : ∀ (l : List (DataW H)), l.length ≤ Rows.uptoBulkAll l
  | [] => by simp
  | x :: r => by
    have h1 := bulk_one x
    have h2 := bulk_len r
    rw [Rows.uptoBulkAll, List.length_cons]
    omega
theorem bulk_bound {H : Type} {l : List (DataW H)} (hk : Rows.uptoSmall H l = true) : Rows.uptoBulkAll l ≤ 1048576 := of_decide_eq_true hk
end Go.Proofs.YtaknfofppknloaaGreatDoor
namespace Go.Proofs.YtaknfofppknloaaGreatDoor
open Go Go.RowKit Go.ChangeShapes Go.WideShapes Go.ChangeAt
set_option linter.all false
theorem firstEq : (Rows.laid_unicode_utf8_first : DataW Unit) = Lib.firstData := by kernel_rfl
theorem acceptEq : (Rows.laid_unicode_utf8_acceptRanges : DataW Unit) = Lib.acceptData := by kernel_rfl
theorem foldEq : (Rows.laid_unicode_asciiFold : DataW Unit) = Lib.tabData .u16 Tk.foldTab := by kernel_rfl
def plainList : List (String × DataW Unit) := [("unicode/utf8.acceptRanges", Rows.laid_unicode_utf8_acceptRanges), ("unicode.asciiFold", Rows.laid_unicode_asciiFold), ("unicode.caseOrbit", Rows.laid_unicode_caseOrbit), ("unicode.CaseRanges", Rows.laid_unicode_CaseRanges), ("unicode/utf8.first", Rows.laid_unicode_utf8_first)]
def handList : List (String × DataW Unit) := [("errors.errorType", Rows.laid_errors_errorType)]
theorem rt_row : (Tryz.prog.cutTypes.find? (·.1 == "internal/reflectlite.rtype")).map (·.2) = some 96 := by kernel_rfl
theorem err_rows : ((List.range 172).filter fun t => Tryz.prog.rowNamed t [101, 114, 114, 111, 114]) = [25] := by kernel_rfl
theorem types_size : Tryz.prog.types.size = 172 := by kernel_rfl
theorem et_name : Tryz.prog.globalNamed "errors.errorType" = some 0 := by kernel_rfl
theorem handle_et {W : World} (h : handlesMet Tryz.prog handList W) : W.cell? ⟨0, 0, none⟩ = some (.iface 96 (.agg #[.pointer (some ⟨Tryz.prog.globals.size, 25, none⟩)])) := by
  obtain ⟨name, u, ty, e1, e2, e3, e4, e5⟩ := h _ (List.mem_singleton.2 rfl)
  have en : name = [101, 114, 114, 111, 114] := (Option.some.inj e1).symm
  subst en
  obtain rfl := Option.some.inj (rt_row.symm.trans e2)
  have hm : ty ∈ (List.range 172).filter fun t => Tryz.prog.rowNamed t [101, 114, 114, 111, 114] := List.mem_filter.2 ⟨List.mem_range.2 (by rw [← types_size]; exact e3), e4⟩
  rw [err_rows] at hm
  obtain rfl := List.mem_singleton.1 hm
  have hh : typeHandle Tryz.prog 25 = .pointer (some ⟨Tryz.prog.globals.size, 25, none⟩) := by rw [globs_size]; kernel_rfl
  rw [hh] at e5
  simpa using World.var?_cell et_name e5 0
theorem tw_of {W : World} (h : laidMetH Tryz.prog Rows.tokReadsUptoRow.laid W) : Tk.TW W := by
  have h' : laidMet Tryz.prog plainList W ∧ handlesMet Tryz.prog handList W := h
  obtain ⟨h1, h2⟩ := h'
  unfold plainList at h1
  rw [firstEq, acceptEq, foldEq] at h1
  refine ⟨?_, ?_, ?_⟩
  · exact utf8Tabs_of_reads Tryz.lays260 ⟨by kernel_rfl, by kernel_rfl, by kernel_rfl, by kernel_rfl, by kernel_rfl, by kernel_rfl, by kernel_rfl⟩ (Lib.laidMet.reads h1.tail.tail.tail.tail (.head _)) (Lib.laidMet.reads h1 (.head _))
  · exact Lib.tabIs_of_head (g := 1) (t := 121) (e := 120) (n := 128) (by kernel_rfl) (by kernel_rfl) (by kernel_rfl) (by kernel_rfl) (by kernel_rfl) (by kernel_rfl) h1.tail
  · have := handle_et h2
    rw [globs_size] at this
    exact this
/-! ### the witness's world -/
noncomputable def handWorld (os : Os) : World :=
  let w0 := World.holding Tryz.prog os ⟨#[], #[], []⟩
  { w0 with heap := w0.heap.modify 0 fun
      | .cells _ t frozen => .cells #[.iface 96 (.agg #[.pointer (some ⟨7, 25, none⟩)])] t frozen
      | o => o }
noncomputable def layWorld (os : Os) : World := (handWorld os).layVars Tryz.prog plainList
theorem layWorld_os (os : Os) : (layWorld os).os = os := by
  unfold layWorld
  rw [World.layVars_os]
  rfl
theorem laidMet_from {P : Program} {w0 : World} {laid : List (String × DataW Unit)} (args : Array Value) (hf : w0.layFits P laid [] = true) (hi : w0.layIfaces P laid (w0.layVars P laid) = true) :
    laidMet P laid ((w0.layVars P laid).forCall (fun _ _ => 0) ⟨#[], args, []⟩).memory := by
  have e1 : (laid.filter fun x => (laid.map (·.1)).contains x.1) = laid := List.filter_eq_self.2 fun x hx => List.contains_iff_mem.2 (List.mem_map.2 ⟨x, hx, rfl⟩)
  have e2 : (laid.filter fun x => !(laid.map (·.1)).contains x.1) = [] := List.filter_eq_nil_iff.2 fun x hx => by rw [List.contains_iff_mem.2 (List.mem_map.2 ⟨x, hx, rfl⟩)]; simp
  have h : laidMet P laid (w0.layVars P laid) := laidMet_layVars (w0 := w0) (laid.map (·.1)) [] (by rw [e1]) (by rw [e1]; exact hf) (by rw [e1]; exact hi) (by rw [e2]; exact LaidIn.none)
  exact h.of_heap (by simp [World.memory, World.forCall, Input.heap])
theorem layWorld_met (os : Os) (args : Array Value) : laidMetH Tryz.prog Rows.tokReadsUptoRow.laid ((layWorld os).forCall (fun _ _ => 0) ⟨#[], args, []⟩).memory :=
  laidMetH_of_parts (show laidMet Tryz.prog plainList _ from laidMet_from args (by kernel_rfl) (by kernel_rfl)) (by kernel_rfl)
end Go.Proofs.YtaknfofppknloaaGreatDoor
namespace Go.Proofs.YtaknfofppknloaaGreatDoor
open Go Go.RowKit
set_option linter.all false
namespace Tk
theorem ltell_any {w : World} {r : Ans} {v ev : Value} {n : Nat} {p : Nat × Nat} (h : Told w r v ev) (hW : TW w) (hn : Ans.num r = n) (hp : Ans.pos r = p) : Calls Tryz.prog 7 #[ev] w fun e w' => e = .returned (.tuple #[.int .i64 (n : Int), .agg #[.int .i64 (p.1 : Int), .int .i64 (p.2 : Int)]]) ∧ Pur w w' := by
  subst hn; subst hp; exact tell_told h hW
theorem pw_len : ∀ (l : List Attr) (n : Nat), l.Pairwise (fun a b => b.left < a.left) → (∀ a ∈ l, a.left < n) → l.length ≤ n
  | [], n, _, _ => Nat.zero_le _
  | a :: l, n, h, hn => by
    have h1 := List.pairwise_cons.1 h
    have := pw_len l a.left h1.2 (fun b hb => h1.1 b hb)
    have := hn a (by simp)
    simp only [List.length_cons]
    omega
theorem read_le (l : List UInt8) : ∀ (f i : Nat), (readGo l f i).1.length ≤ l.length - i
  | 0, i => by rw [readGo]; simp
  | f + 1, i => by
    by_cases hi : i < l.length
    · rcases hro : rdOne l i with e | ⟨c, n⟩
      · rw [(readGo_bad hi hro).1]; simp
      · obtain ⟨-, k2, k3, -⟩ := rdOne_ok hi hro
        rw [readGo_one hi hro]
        have := read_le l f (i + n)
        simp only [List.length_cons]
        omega
    · rw [readGo, if_neg hi]; simp
/-- no token has more attributes than the document has bytes -/
theorem whole_attrs {l : List UInt8} {ts : List TokV} (h : whole l = .ok ts) : ∀ t ∈ ts, t.attrs.length ≤ 65536 := by
  unfold whole at h
  split at h
  · cases h
  split at h
  · cases h
  rename_i h0 _
  rcases h1 : tokens (read l).1 with ⟨k, e⟩ | us
  · rw [h1] at h; cases h
  rw [h1] at h
  cases h
  intro t ht
  obtain ⟨s, hs, rfl⟩ := List.mem_map.1 ht
  have k1 := (tokens_rise h1).ok s hs
  have k2 := tokens_lo h1 s hs
  have k3 := pw_len s.attrs s.left k1.desc (fun a ha => (k1.att a ha).1)
  have k4 := read_le l (l.length + 1) 0
  have k5 : (read l).1.length ≤ l.length - 0 := k4
  show (s.attrs.map _).length ≤ _
  rw [List.length_map]
  omega
def Mid (a b : Nat) : List Nat := List.range' a (b - a)
theorem mem_Mid {a b x : Nat} (h : a ≤ b) : x ∈ Mid a b ↔ a ≤ x ∧ x < b := by
  unfold Mid; rw [List.mem_range'_1]; omega
/-- what the law turns: the first list, from its i-th token on as it was -/
structure LW (B1 B2 : Nat) (w6 wr : World) (v : Value) (avs : List Value) (ts : List TokV) (i : Nat) : Prop where
  chg : Chg (Mid B1 B2) w6 wr
  row : ∃ ys, wr.ownsRow 0 38 7 v ts.length ys ∧ ∀ k, i ≤ k → k < ts.length → ys[k * 7 + 2]? = avs[k]?
  attrs : ∀ (k : Nat) u t, i ≤ k → avs[k]? = some u → ts[k]? = some t → ∃ zs, wr.ownsRow 0 40 4 u t.attrs.length zs
theorem apart_row {v : Value} {avs : List Value} (h : (v.ownBlock.toList ++ avs.flatMap fun v => v.ownBlock.toList).Nodup) {k : Nat} {u : Value} (hu : avs[k]? = some u) {g : Nat} (hg : u.ownBlock = some g) : v.ownBlock ≠ some g := fun e => by
  rw [List.nodup_append] at h
  exact h.2.2 g (by simp [e]) g (List.mem_flatMap.2 ⟨u, List.mem_of_getElem? hu, by simp [hg]⟩) rfl
theorem apart_two : ∀ {avs : List Value} (_ : (avs.flatMap fun v => v.ownBlock.toList).Nodup) {i k : Nat} {u u' : Value}, i ≠ k → avs[i]? = some u → avs[k]? = some u' → ∀ {g : Nat}, u.ownBlock = some g → u'.ownBlock ≠ some g
  | [], _, i, k, u, u', _, hu, _, g, _ => by simp at hu
  | a :: avs, h, i, k, u, u', hne, hu, hu', g, hg => by
    rw [List.flatMap_cons, List.nodup_append] at h
    obtain ⟨h1, h2, h3⟩ := h
    intro e
    cases i with
    | zero =>
      cases k with
      | zero => exact hne rfl
      | succ k =>
        obtain rfl : a = u := by simpa using hu
        exact h3 g (by simp [hg]) g (List.mem_flatMap.2 ⟨u', List.mem_of_getElem? (by simpa using hu'), by simp [e]⟩) rfl
    | succ i =>
      cases k with
      | zero =>
        obtain rfl : a = u' := by simpa using hu'
        exact h3 g (by simp [e]) g (List.mem_flatMap.2 ⟨u, List.mem_of_getElem? (by simpa using hu), by simp [hg]⟩) rfl
      | succ k => exact apart_two h2 (i := i) (k := k) (by omega) (by simpa using hu) (by simpa using hu') hg e
theorem tc2 {avs : List Value} {ts : List TokV} (h : avs.length = ts.length) {k : Nat} (hk : k < ts.length) : (tokCells avs ts)[k * 7 + 2]? = avs[k]? := by
  have h1 : avs[k]? = some (avs[k]'(by omega)) := List.getElem?_eq_getElem _
  have h2 : ts[k]? = some ts[k] := List.getElem?_eq_getElem hk
  rw [Nat.mul_comm, tok_cells avs ts k 2 _ _ h1 h2 (by omega), h1]
  rfl
set_option maxRecDepth 100000 in
set_option maxHeartbeats 32000000 in
theorem reads_law (l : List UInt8) (w : World) (hW : TW w) (hl : l.length ≤ 1000000000) : Calls Tryz.prog 3 #[.string ⟨l.toArray⟩] w fun e w' => e = .returned (.bool true) ∧ Pur w w' := by
  have T0 := fun w (hW : TW w) => tokens_any l w hW.tabs hW.fold
  have R0 := fun w => rtokens_any l w
  have HA := fun ts (h : whole l = .ok ts) => whole_attrs h
  generalize whole l = r at T0 R0 HA
  rcases d1 : decide (3000 < (l.length : Int)) with _ | _ <;> rcases d2 : decide ((l.length : Int) ≤ 65536) with _ | _
  case true.true =>
    go_enter Tryz.func3, Tryz.ntmps3
    go_wp2_with fail
    refine (awake_any w hW).mono ?_
    rintro e w1 ⟨rfl, p1⟩
    go_wp2
    go_ret
    exact ⟨rfl, p1⟩
  all_goals
    go_enter Tryz.func3, Tryz.ntmps3
    go_wp2_with fail
    refine (awake_any w hW).mono ?_
    rintro e w1 ⟨rfl, p1⟩
    have hW1 := hW.pur p1
    rcases r with ⟨pos, n⟩ | ts
    · -- a fault
      go_wp2_with fail
      refine (T0 _ hW1).mono ?_
      rintro e w2 ⟨p2, b, hb, rfl, hc⟩
      have hW2 := hW1.pur p2
      go_wp2_with fail
      refine (T0 _ hW2).mono ?_
      rintro e w3 ⟨p3, b', hb', rfl, hc'⟩
      have hW3 := hW2.pur p3
      have hs2 := p2.size
      have hs3 := p3.size
      have TD : Told w3 (.error (pos, n)) (.slice none 0 0) (.iface 46 (.pointer (some ⟨b, 0, none⟩))) := ⟨rfl, b, rfl, bk_pur hc p3⟩
      clear T0 HA hc hc' hb hb'
      go_wp2_with fail
      refine (R0 _).mono ?_
      rintro e w4 ⟨p4, rfl, hn⟩
      have dn : ((n : Int) == 0) = false := by rw [beq_eq_false_iff_ne]; omega
      have b4 := bk_new w4 (.cells #[.int .i64 (pos.1 : Int), .int .i64 (pos.2 : Int)] 29)
      have q4 : Pur w3 (w4.alloc (.cells #[.int .i64 (pos.1 : Int), .int .i64 (pos.2 : Int)] 29)) := p4.alloc _
      have TE := ltell_any (TD.pur q4) (hW3.pur q4) (n := n) (p := pos) rfl rfl
      clear R0 TD
      go_wp2_with fail
      refine TE.mono ?_
      rintro e w5 ⟨rfl, p5⟩
      have b5 := bk_new w5 (.cells #[.int .i64 (pos.1 : Int), .int .i64 (pos.2 : Int)] 29)
      have p5' : Pur _ (w5.alloc (.cells #[.int .i64 (pos.1 : Int), .int .i64 (pos.2 : Int)] 29)) := p5.alloc _
      have c4 := bk_pur b4 p5'
      have E0 : ∀ w : World, TRead w (.slice none 0 0) [] := fun w => ⟨none, 0, rfl, ⟨Nat.le_refl _, by simp⟩, fun i x hx => by simp at hx⟩
      clear TE b4
      go_wp2_with fail
      refine (same_any [] [] _ _ _ true (E0 _) (E0 _) rfl (fun _ => rfl)).mono ?_
      rintro e w6 ⟨rfl, p6⟩
      have d4 := bk_pur c4 p6
      have d5 := bk_pur b5 p6
      have x4 := bk_cell d4 0 _ rfl
      have y4 := bk_cell d4 1 _ rfl
      have x5 := bk_cell d5 0 _ rfl
      have y5 := bk_cell d5 1 _ rfl
      have hP6 : Pur w w6 := p1.trans (p2.trans (p3.trans (q4.trans (p5'.trans p6))))
      clear c4 b5 d4 d5
      go_wp2
      go_loopw [68] (fun k wr => k = .int .i64 0 ∧ wr = w6) (fun _ _ => 0)
      case atStart => exact ⟨rfl, rfl⟩
      case round =>
        obtain ⟨rfl, rfl⟩ := hrel
        go_wp2_with fail
        refine (same_any [] [] _ _ _ true (E0 _) (E0 _) rfl (fun _ => rfl)).mono ?_
        rintro e w9 ⟨rfl, p9⟩
        go_wp2
        go_ret
        exact ⟨rfl, hP6.trans p9⟩
    · -- tokens
      go_wp2_with fail
      refine (T0 _ hW1).mono ?_
      rintro e w2 ⟨p2, v1, avs1, rfl, r1⟩
      have hW2 := hW1.pur p2
      go_wp2_with fail
      refine (T0 _ hW2).mono ?_
      rintro e w3 ⟨p3, v2, avs2, rfl, r2⟩
      have hW3 := hW2.pur p3
      have hs2 := p2.size
      have hs3 := p3.size
      obtain ⟨a1, K1c, rfl⟩ := row_shape r1.toks
      have hAT := HA ts rfl
      clear T0 HA
      go_wp2_with fail
      refine (R0 _).mono ?_
      rintro e w4 ⟨p4, v3, avs3, rfl, r3⟩
      obtain ⟨a2, k2, rfl⟩ := row_shape r2.toks
      obtain ⟨a3, k3, rfl⟩ := row_shape r3.toks
      have hs4 := p4.size
      have b4 := bk_new w4 (.cells #[.int .i64 0, .int .i64 0] 29)
      have q4 : Pur w4 (w4.alloc (.cells #[.int .i64 0, .int .i64 0] 29)) := (Pur.refl w4).alloc _
      clear R0
      go_wp2_with fail
      refine (tell_nil _).mono ?_
      rintro e w5 ⟨rfl, p5⟩
      have b5 := bk_new w5 (.cells #[.int .i64 0, .int .i64 0] 29)
      have p5' : Pur (w4.alloc (.cells #[.int .i64 0, .int .i64 0] 29)) (w5.alloc (.cells #[.int .i64 0, .int .i64 0] 29)) := p5.alloc _
      have c4 := bk_pur b4 p5'
      have q5 := q4.trans p5'
      have S1 := r1.pur (p3.trans (p4.trans q5))
      have S2 := r2.pur (p4.trans q5)
      have S3 := r3.pur q5
      have R1 := S1.read
      have R3 := S3.read
      have hl1 := fun b hb => Nat.lt_of_lt_of_le (r1.own_lt b hb) (Nat.le_refl _)
      have hmx : ts.length ≤ 9223372036854775807 := by obtain ⟨_, _, _, ⟨_, h⟩, _⟩ := id R1; exact h
      clear b4 r1 r2 r3
      go_wp2_with fail
      refine (same_any ts ts _ _ _ true R1 R3 rfl (fun _ => rfl)).mono ?_
      rintro e w6 ⟨rfl, p6⟩
      have d4 := bk_pur c4 p6
      have d5 := bk_pur b5 p6
      have x4 := bk_cell d4 0 _ rfl
      have y4 := bk_cell d4 1 _ rfl
      have x5 := bk_cell d5 0 _ rfl
      have y5 := bk_cell d5 1 _ rfl
      have hP6 : Pur w w6 := p1.trans (p2.trans (p3.trans (p4.trans (q5.trans p6))))
      replace S1 := S1.pur p6
      replace S2 := S2.pur p6
      replace S3 := S3.pur p6
      have hs1 := p1.size
      have hs6 := (p3.trans (p4.trans (q5.trans p6))).size
      clear c4 b5 d4 d5 R1 R3 q4 q5 p5 p5' p6 p4 p3 p2 p1
      go_wp2
      go_loopw [68] (fun k wr => ∃ i : Nat, i ≤ ts.length ∧ k = .int .i64 i ∧ LW w1.heap.size w2.heap.size w6 wr (.slice a1 ts.length K1c) avs1 ts i) (fun k _ => ts.length + 1 - (intOf k).toNat)
      case atStart => exact ⟨0, by omega, rfl, Chg.refl _ _, ⟨_, S1.toks, fun k _ hk => tc2 S1.len hk⟩, fun k u t _ hu ht => ⟨_, S1.attrs k u t hu ht⟩⟩
      case round =>
        clear x4 y4 x5 y5
        obtain ⟨i, hi, rfl, L⟩ := hrel
        by_cases hlt : i < ts.length
        · have hlt2 : (i : Int) < ts.length := by omega
          have wi : IntKind.i64.wrap ((i : Int) + 1) = (i : Int) + 1 := IntWalk.i64_in _ (by omega)
          obtain ⟨t, ht⟩ : ∃ t, ts[i]? = some t := ⟨ts[i], List.getElem?_eq_getElem hlt⟩
          obtain ⟨u, hu⟩ : ∃ u, avs1[i]? = some u := ⟨avs1[i]'(by rw [S1.len]; exact hlt), List.getElem?_eq_getElem _⟩
          have hn := hAT t (List.mem_of_getElem? ht)
          obtain ⟨ys, hys, hy2⟩ := L.row
          have hyi := (hy2 i (Nat.le_refl _) hlt).trans hu
          obtain ⟨zs, hzs⟩ := L.attrs i u t (Nat.le_refl _) hu ht
          obtain ⟨ua, uc, rfl⟩ := row_shape hzs
          obtain ⟨g1, kq, e1, -, hg1, hK1c, -⟩ := row_at hys (by omega)
          cases e1
          have hK1c' : (ts.length : Int) ≤ K1c := by omega
          have ne1 : ∀ g, (Value.slice ua t.attrs.length uc).ownBlock = some g → g ≠ g1 := fun g hg e => apart_row S1.apart hu hg (by rw [e]; rfl)
          have hyl : ys.length = ts.length * 7 := hys.1
          have cu : wr.cell? ⟨g1, i * 7 + 2, none⟩ = some (.slice ua t.attrs.length uc) := (hys.cellAt _ (by omega)).trans hyi
          generalize hN : t.attrs.length = n at *
          obtain ⟨wo, hwo⟩ : ∃ wo : World, wo = wr := ⟨wr, rfl⟩
          subst hwo
          go_wp2
          go_loopw [77] (fun k wr => ∃ m : Nat, m ≤ n ∧ k = .int .i64 m ∧ Chg (Value.slice ua n uc).ownBlock.toList wo wr ∧ ∃ zs, wr.ownsRow 0 40 4 (.slice ua n uc) n zs) (fun k _ => n + 1 - (intOf k).toNat)
          case atStart => exact ⟨0, by omega, rfl, Chg.refl _ _, zs, hzs⟩
          case round =>
            clear hzs cu
            obtain ⟨m, hm, rfl, C1, zs', hzs⟩ := hrel
            have hys' := row_chg hys C1 (fun g hg hm => by simp only [Value.ownBlock] at hg; cases hg; exact ne1 _ (by simpa using hm) rfl)
            have cu : wr.cell? ⟨g1, i * 7 + 2, none⟩ = some (.slice ua n uc) := (hys'.cellAt _ (by omega)).trans hyi
            by_cases hml : m < n
            · have hml2 : (m : Int) < n := by omega
              have wm : IntKind.i64.wrap ((m : Int) + 1) = (m : Int) + 1 := IntWalk.i64_in _ (by omega)
              obtain ⟨g2, uk, e2, -, hg2, huk, -⟩ := row_at hzs (by omega)
              cases e2
              have huk' : (n : Int) ≤ uc := by omega
              have hzl : zs'.length = n * 4 := hzs.1
              have cz : wr.cell? ⟨g2, m * 4, none⟩ = some (zs'[m * 4]'(by omega)) := (hzs.cellAt _ (by omega)).trans (List.getElem?_eq_getElem _)
              have fz := hzs.frozenAt (m * 4)
              have hz1 := (hzs.stored (m * 4) (.string ⟨#[33]⟩)).1
              have C2 := C1.setCell (a := ⟨g2, m * 4, none⟩) (.inl (by simp [Value.ownBlock])) (.string ⟨#[33]⟩)
              generalize zs'[m * 4]'(by omega) = z0 at *
              clear hzs hys' C1
              go_wp2
              go_roundw
              case rel => exact ⟨m + 1, by omega, by go_num, C2, _, hz1⟩
              case measure => simp [intOf]; omega
            · obtain rfl : m = n := by omega
              clear hm hml
              go_wp2_with (at_builtin; refine append_new wr rfl _ _ 36 40 4 48 attr_info Tryz.underlying36 (by decide) (by decide) (by rfl) 0 _ m _ _ _ [.string ⟨#[63]⟩, .string ⟨#[]⟩, .int .i64 0, .int .i64 0] rfl ?c7 (by rfl) wr.heap.size rfl (by rfl) hzs (by omega) (Nat.zero_le _) ?_)
              case c7 => intro u hu; simp only [List.mem_cons, List.not_mem_nil, or_false] at hu; rcases hu with rfl | rfl | rfl | rfl <;> rfl
              intro v7 w7 hown7 hg7 hloc7
              obtain ⟨b7, k7, rfl⟩ := row_shape hown7
              have hl7 := hys'.lt g1 rfl
              have hy7 : w7.ownsRow 0 38 7 (.slice (some ⟨g1, 0, none⟩) ts.length K1c) ts.length ys := row_same (row_pur hys' ((Pur.refl wr).alloc (.cells #[.string ⟨#[63]⟩, .string ⟨#[]⟩, .int .i64 0, .int .i64 0] 40))) fun g hg => by
                simp only [Value.ownBlock] at hg
                cases hg
                exact hg7.block g1 (Nat.lt_of_lt_of_le hl7.2 ((Pur.refl wr).alloc _).size) (fun e => ne1 _ e.symm rfl)
              have k2 : w7.cell? ⟨g1, i * 7 + 2, none⟩ = some (.slice ua m uc) := (hy7.cellAt _ (by omega)).trans hyi
              have f2 := hy7.frozenAt (i * 7 + 2)
              have hy8 := (hy7.stored (i * 7 + 2) (.slice b7 (m + 1) k7)).1
              have k1 : (w7.setCell ⟨g1, i * 7 + 2, none⟩ (.slice b7 (m + 1) k7)).cell? ⟨g1, i * 7 + 1, none⟩ = some ((ys.set (i * 7 + 2) (.slice b7 (m + 1) k7))[i * 7 + 1]'(by rw [List.length_set]; omega)) := (hy8.cellAt _ (by omega)).trans (List.getElem?_eq_getElem _)
              have f1 := hy8.frozenAt (i * 7 + 1)
              have hy9 := (hy8.stored (i * 7 + 1) (.string ⟨#[33]⟩)).1
              have C9 : Chg ((Value.slice ua m uc).ownBlock.toList ++ [g1]) wo ((w7.setCell ⟨g1, i * 7 + 2, none⟩ (.slice b7 (m + 1) k7)).setCell ⟨g1, i * 7 + 1, none⟩ (.string ⟨#[33]⟩)) :=
                ((((C1.mono (fun b hb => .inl (List.mem_append_left _ hb))).alloc _).grown hg7 (fun b hb => .inl (List.mem_append_left _ (by simp [hb])))).setCell (a := ⟨g1, i * 7 + 2, none⟩) (.inl (by simp)) _).setCell (a := ⟨g1, i * 7 + 1, none⟩) (.inl (by simp)) _
              have hlo : ∀ b ∈ (Value.slice ua m uc).ownBlock.toList ++ [g1], w1.heap.size ≤ b ∧ b < w2.heap.size := fun b hb => by
                have hb' : b ∈ (Value.slice (some ⟨g1, 0, none⟩) ts.length K1c).ownBlock.toList ++ avs1.flatMap (fun v => v.ownBlock.toList) := by
                  rcases List.mem_append.1 hb with hb | hb
                  · exact List.mem_append_right _ (List.mem_flatMap.2 ⟨_, List.mem_of_getElem? hu, hb⟩)
                  · exact List.mem_append_left _ (by simp at hb; subst hb; simp [Value.ownBlock])
                exact ⟨S1.low b hb', hl1 b hb'⟩
              have LN : LW w1.heap.size w2.heap.size w6 ((w7.setCell ⟨g1, i * 7 + 2, none⟩ (.slice b7 (m + 1) k7)).setCell ⟨g1, i * 7 + 1, none⟩ (.string ⟨#[33]⟩)) (.slice (some ⟨g1, 0, none⟩) ts.length K1c) avs1 ts (i + 1) := by
                refine ⟨L.chg.next C9 (fun b hb => .inl ((mem_Mid (by omega)).2 (hlo b hb))), ⟨_, hy9, fun k hk hkl => ?_⟩, fun k u' t' hk hu' ht' => ?_⟩
                · rw [List.getElem?_set_ne (by omega), List.getElem?_set_ne (by omega)]
                  exact hy2 k (by omega) hkl
                · obtain ⟨zs2, hz2⟩ := L.attrs k u' t' (by omega) hu' ht'
                  refine ⟨zs2, row_chg hz2 C9 fun g hg hm => ?_⟩
                  rcases List.mem_append.1 hm with hm | hm
                  · exact apart_two (List.nodup_append.1 S1.apart).2.1 (show i ≠ k by omega) hu hu' (by simpa using hm) hg
                  · simp at hm
                    subst hm
                    exact apart_row S1.apart hu' hg rfl
              generalize (ys.set (i * 7 + 2) (.slice b7 (m + 1) k7))[i * 7 + 1]'(by rw [List.length_set]; omega) = z1 at *
              clear hy7 hy8 hy9 C9 C1 hg7 hown7 hys' cu
              go_wp2
              go_roundw
              case rel => exact ⟨i + 1, by omega, by go_num, LN⟩
              case measure => simp [intOf]; omega
        · obtain rfl : i = ts.length := by omega
          have T2 := (S2.chg L.chg (fun b hb => ((mem_Mid (by omega)).1 hb).2)).read
          have T3 := (S3.chg L.chg (fun b hb => Nat.lt_of_lt_of_le ((mem_Mid (by omega)).1 hb).2 (by omega))).read
          have HC := (Chg.of_pur hP6).trans L.chg
          have HP : Pur w wr := HC.to_pur (fun b hb => by have := (mem_Mid (by omega)).1 hb; omega)
          go_wp2_with fail
          refine (same_any ts ts _ _ _ true T2 T3 rfl (fun _ => rfl)).mono ?_
          rintro e w9 ⟨rfl, p9⟩
          go_wp2
          go_ret
          exact ⟨rfl, HP.trans p9⟩
end Tk
end Go.Proofs.YtaknfofppknloaaGreatDoor
namespace Go.Proofs.YtaknfofppknloaaGreatDoor.lawTokReads
open Go Go.RowKit Go.ChangeShapes Go.WideShapes Go.ChangeAt Go.Proofs.YtaknfofppknloaaGreatDoor
set_option linter.all false
set_option maxRecDepth 100000 in
theorem contract (H : Type) (enc : TypeId × Value → H) (W : World) (base : Nat) (args : Array Value) (ds gs : List (DataW H)) (before : List MemPlace)
    (hval : ∀ (j : Nat) t v, Tryz.f3.params[j]? = some t → args[j]? = some v → Value.okWide Tryz.prog W .any base t v)
    (hW0 : DataW.Whole enc Tryz.prog Tryz.f3.params.toList Rows.tokReadsSpec.vars false W args.toList ds gs before)
    (_hz : (DataW.weightsEach Tryz.prog (Tryz.f3.params.toList ++ (OpenSpec.ofChange Rows.tokReadsSpec).bare.plain.varTypes Tryz.prog) (ds ++ gs)).all (· ≤ reachBytes) = true) (_hSh : W.ShapedOpen Tryz.prog) (hL : laidMetH Tryz.prog Rows.tokReadsUptoRow.laid W) (hk : Rows.uptoSmall H (ds ++ gs) = true) :
    Calls Tryz.prog 3 args W fun e W' => ∃ v, e = .returned v ∧ Rows.tokReadsSpec.post enc Tryz.prog Tryz.f3 false true false false W args v W' := by
  have hW := hW0
  obtain ⟨p, q, hA0, hV, rfl, hfz, hnd⟩ := hW
  have hA : DataW.TrodAll enc Tryz.prog W 0 (fun _ => true) true Tryz.f3.params.toList args.toList ds p := hA0
  rw [Tryz.params3] at hA hval
  obtain ⟨v0, vs0, d0, ds0, p0, q0, hargs, rfl, rfl, h0, r0⟩ := trodAll_cons hA
  obtain ⟨rfl, rfl, rfl⟩ := trodAll_nil r0
  obtain rfl : args = #[v0] := by cases args; simp_all
  obtain ⟨rfl, rfl⟩ := trodVars_none hV
  obtain ⟨s0, rfl, rfl, rfl, hs0⟩ := Go.ChangeMaps.open_string Tryz.underlying9 (hval 0 9 v0 rfl rfl) h0
  clear hA0 hA
  have walk := Tk.reads_law s0.data.toList W (tw_of hL) (by have := bulk_bound hk; simp only [List.append_nil, Rows.uptoBulkAll, Rows.uptoBulk] at this; omega)
  refine walk.mono fun e W' ⟨he, hg⟩ => ?_
  subst he
  exact ⟨_, rfl, law_post rfl rfl (by kernel_rfl) rfl hW0 hg⟩
noncomputable def world (os : Os) : World := layWorld os
theorem reads (os : Os) {H : Type} (enc : TypeId × Value → H) : ∃ places, DataW.whole enc Tryz.prog ((world os).forCall (fun _ _ => 0) ⟨#[], #[.string ⟨#[]⟩], []⟩).memory Tryz.f3.params.toList Rows.tokReadsSpec.vars false (#[.string ⟨#[]⟩] : Array Value).toList 8 = some ([.lit (.string [])], [], places) :=
  ⟨[], by kernel_rfl⟩
set_option maxRecDepth 100000 in
theorem lifted (os : Os) (started : os.Started) (H : Type) (enc : TypeId × Value → H) (F : Stop.Interp) :
    ReturnsInHanded {} Tryz.checked os 3 .any ((Rows.OpenSpec.upto Rows.tokReadsSpec).preRow enc Tryz.prog Tryz.f3 Rows.tokReadsUptoRow.domain false Rows.tokReadsUptoRow.laid) (((Rows.OpenSpec.upto Rows.tokReadsSpec).at F).post enc Tryz.prog Tryz.f3 false true false false) := by
  obtain ⟨places, hx⟩ := reads os enc
  refine returnsInHanded_of_row (C := Tryz.checked) (s := (Rows.OpenSpec.upto Rows.tokReadsSpec)) own started (by kernel_rfl) Tryz.func3
    (witness_row_atRef (enc := enc) (C := Tryz.checked) false (world os) #[.string ⟨#[]⟩] (layWorld_os _) (by kernel_rfl) (by kernel_rfl) (by kernel_rfl)
      (OpenSpec.preRow_of_cond 8 hx (by kernel_rfl) (fun k hk => by cases hk; kernel_rfl) (by kernel_rfl) (layWorld_met os _))) ?_
  intro W base args ds gs before hval hW _ hcond hz hL hSh _
  exact contract H enc W base args ds gs before hval hW hz hSh hL (hcond _ rfl)
theorem said : Rows.TokReadsUptoSaid :=
  OpenClaim.holds_of_cond 3 Tryz.f3 rfl rfl rfl rfl rfl rfl rfl ⟨rfl, rfl, rfl, rfl, rfl⟩ rfl rfl rfl rfl rfl (by kernel_rfl) Tryz.func3 (by kernel_rfl)
    (of_decide_eq_true (by kernel_rfl)) (by unfold Func.isWrapper; first | (rw [if_pos (by decide +kernel)]; kernel_rfl) | (rw [if_neg (by decide +kernel)]; exact ⟨rfl, rfl⟩))
    (fun os started H enc _ F => by rw [OpenClaim.pre_eq_preRow]; exact lifted os started H enc F)
theorem plain (f : FuncId) (fn : Func) (hf : Tryz.pinned.checked.prog.funcNamed Rows.tokReadsUptoRow.func = some f) (hfn : Tryz.pinned.checked.prog.funcs[f]? = some fn) :
    true = Tryz.pinned.checked.prog.looks [] ∧ ∀ (j : Nat) t, fn.params[j]? = some t → Tryz.pinned.checked.prog.wantsStandIn t = false := by
  obtain rfl : f = 3 := Option.some.inj ((show Tryz.prog.funcNamed Rows.tokReadsUptoRow.func = some 3 by kernel_rfl).symm.trans hf) |>.symm
  obtain rfl : fn = Tryz.f3 := (Option.some.inj (Tryz.func3.symm.trans hfn)).symm
  refine ⟨by kernel_rfl, fun j t ht => ?_⟩
  rw [Tryz.params3] at ht
  have hm : t ∈ [9] := by simpa using Array.mem_of_getElem? ht
  have hall : ([9].all fun u => !Tryz.prog.wantsStandIn u) = true := by kernel_rfl
  exact (show Tryz.prog.wantsStandIn t = false by simpa using List.all_eq_true.1 hall t hm)
theorem card : Rows.TokReadsUptoCardSaid :=
  Claim7.holds_tied_plain_at .later [] _ _ _ _ said (fun _ h => by cases h) (by kernel_rfl) (fun _ h => by cases h) tokReadsUpto_row_tie rfl ⟨rfl, rfl⟩ (by kernel_rfl) rfl plain (by kernel_rfl)
#print axioms card
end Go.Proofs.YtaknfofppknloaaGreatDoor.lawTokReads
