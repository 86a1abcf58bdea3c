/- Layer 2: what a reference means. -/
import Derived.Test.YtaknfofppknloaaGreatDoorTk7
import Derived.Maps.RangeWalk
import Derived.Maps.OwnSet
import Derived.Maps.StringElems
namespace Go.Proofs.YtaknfofppknloaaGreatDoor
open Go Go.RowKit
set_option linter.all false
namespace Tk
theorem wpList_insert_own {H : Type} {P : Program} (w : World) {ops : Array Oper} {rest : List Oper} {o : Oper} {a : Act} {Q : Exit → Act → World → Prop}
    (hg : o.guard = none) (m x v : Operand) (t : TypeId) (hop : o.op = Op.insert t m x v)
    (k e : TypeId) (K : Maps.Keyed P k) (ht : P.underlying t = some (.map k e)) (R : Value → Option (DataW H × List MemPlace)) (b n : Nat) (D : DataW H)
    (hm : a.eval m = .map (some b)) (hown : w.ownsMap P k R b n D) (hn : n < maxLen) (key val : Value) (kl : Lit) (hx : a.eval x = key) (hv : a.eval v = val) (hkey : Go.keyOf P k key = some kl)
    (d : DataW H) (ps : List MemPlace) (hval : R val = some (d, ps))
    (hK : ∀ w', w'.ownsMap P k R b (n + 1) (D.put kl d) → w.grownBy w' (some b) → wpList P ops Q rest (a.put o.dst undef) w') :
    wpList P ops Q (o :: rest) a w := by
  refine wpList_plain hg fun K' hK' => ?_
  obtain ⟨w', hrun, r1, r2⟩ := hown.update K ht hn hkey hval
  unfold Oper.wp
  simp [execOp, hop, hm, hx, hv, hrun, Result.andThen]
  exact hK' _ _ (hK w' r1 r2)
@[go_sem] theorem run_mk {P : Program} (t : TypeId) (w : World) : (Instr.makeMap t none).run P w = .ok (.map (some w.heap.size)) (w.alloc (.map #[] 0)) := run_makeMap t w
theorem key_lit {k : List UInt8} (h : k.length ≤ maxLen) : Go.keyOf Tryz.prog 9 (.string ⟨k.toArray⟩) = some (.string k) :=
  Go.WideMaps.keyOf_string_mk Tryz.underlying9 (by show k.toArray.size ≤ maxLen; simpa using h)
theorem str_law : Go.Maps.Keyed Tryz.prog 9 := Go.Maps.string_keyed Tryz.underlying9
theorem str_inv : ∀ key kl, Go.keyOf Tryz.prog 9 key = some kl → ∃ x : ByteArray, key = .string x := by
  intro key kl h
  cases key <;> simp [Go.keyOf, Tryz.underlying9, mapKey] at h
  exact ⟨_, rfl⟩
theorem str_key {l : List UInt8} {kl : Lit} (h : Go.keyOf Tryz.prog 9 (.string ⟨l.toArray⟩) = some kl) : kl = .string l := by
  simp [Go.keyOf, Tryz.underlying9, mapKey] at h
  exact h.2.symm
def D5 : DataW Unit := DataW.map [(.string [38, 97, 109, 112, 59], .lit (.int .i64 38)), (.string [38, 97, 112, 111, 115, 59], .lit (.int .i64 39)), (.string [38, 103, 116, 59], .lit (.int .i64 62)), (.string [38, 108, 116, 59], .lit (.int .i64 60)), (.string [38, 113, 117, 111, 116, 59], .lit (.int .i64 34))]
theorem D5_eq : (((((DataW.map []).put (.string [38, 108, 116, 59]) (.lit (.int .i64 60))).put (.string [38, 103, 116, 59]) (.lit (.int .i64 62))).put (.string [38, 97, 109, 112, 59]) (.lit (.int .i64 38))).put (.string [38, 113, 117, 111, 116, 59]) (.lit (.int .i64 34))).put (.string [38, 97, 112, 111, 115, 59]) (.lit (.int .i64 39)) = D5 := rfl
def names5 : List (List UInt8 × Nat) := [([38, 108, 116, 59], 60), ([38, 103, 116, 59], 62), ([38, 97, 109, 112, 59], 38), ([38, 113, 117, 111, 116, 59], 34), ([38, 97, 112, 111, 115, 59], 39)]
theorem D5_at (l : List UInt8) (h : Maps.has D5 (.string l) = true) : ∃ c, (l, c) ∈ names5 ∧ ∀ zd, D5.atKey (.string l) zd = .lit (.int .i64 ((c : Nat) : Int)) := by
  simp only [Maps.has, D5, List.any_cons, List.any_nil, Lit.sameKey, Bool.or_eq_true, beq_iff_eq, Bool.or_false] at h
  rcases h with h | h | h | h | h
  · obtain rfl := h
    exact ⟨38, by simp [names5], fun _ => rfl⟩
  · obtain rfl := h
    exact ⟨39, by simp [names5], fun _ => rfl⟩
  · obtain rfl := h
    exact ⟨62, by simp [names5], fun _ => rfl⟩
  · obtain rfl := h
    exact ⟨60, by simp [names5], fun _ => rfl⟩
  · obtain rfl := h
    exact ⟨34, by simp [names5], fun _ => rfl⟩
theorem D5_has (l : List UInt8) (c : Nat) (h : (l, c) ∈ names5) : Maps.has D5 (.string l) = true := by
  simp only [names5, List.mem_cons, Prod.mk.injEq, List.not_mem_nil, or_false] at h
  rcases h with ⟨rfl, -⟩ | ⟨rfl, -⟩ | ⟨rfl, -⟩ | ⟨rfl, -⟩ | ⟨rfl, -⟩ <;> rfl
theorem pre_two {t : List Nat} {xs : Cs} (h : pre t xs = true) (n : Nat) (hn : n < t.length) : xs[n]? = t[n]? := by
  simp only [pre, decide_eq_true_eq] at h
  rw [← h, List.getElem?_take_of_lt hn]
theorem ref_hit (l : List UInt8) (c : Nat) (xs : Cs) (h : (l, c) ∈ names5) (hp : pre (nats l) xs = true) : reference xs = .ok (c, xs.drop l.length) := by
  simp only [names5, List.mem_cons, Prod.mk.injEq, List.not_mem_nil, or_false] at h
  have h1 := pre_two hp
  have no : ∀ t n, (n < t.length) → (n < l.length) → t[n]? ≠ (nats l)[n]? → pre t xs = false := fun t n hn hn' hne => by
    rw [Bool.eq_false_iff]
    intro hq
    exact hne ((pre_two hq n hn).symm.trans (h1 n (by simpa [nats] using hn')))
  unfold reference
  rcases h with ⟨rfl, rfl⟩ | ⟨rfl, rfl⟩ | ⟨rfl, rfl⟩ | ⟨rfl, rfl⟩ | ⟨rfl, rfl⟩
  · rw [if_pos (show pre tLt xs = true from hp)]; rfl
  · rw [if_neg (by rw [no tLt 1 (by decide) (by decide) (by decide)]; simp), if_pos (show pre tGt xs = true from hp)]; rfl
  · rw [if_neg (by rw [no tLt 1 (by decide) (by decide) (by decide)]; simp), if_neg (by rw [no tGt 1 (by decide) (by decide) (by decide)]; simp), if_pos (show pre tAmp xs = true from hp)]; rfl
  · rw [if_neg (by rw [no tLt 1 (by decide) (by decide) (by decide)]; simp), if_neg (by rw [no tGt 1 (by decide) (by decide) (by decide)]; simp), if_neg (by rw [no tAmp 1 (by decide) (by decide) (by decide)]; simp), if_pos (show pre tQuot xs = true from hp)]; rfl
  · rw [if_neg (by rw [no tLt 1 (by decide) (by decide) (by decide)]; simp), if_neg (by rw [no tGt 1 (by decide) (by decide) (by decide)]; simp), if_neg (by rw [no tAmp 2 (by decide) (by decide) (by decide)]; simp), if_neg (by rw [no tQuot 1 (by decide) (by decide) (by decide)]; simp), if_pos (show pre tApos xs = true from hp)]; rfl
theorem ref_miss (xs : Cs) (h : ∀ l c, (l, c) ∈ names5 → pre (nats l) xs = false) : reference xs = if pre [38, 35] xs then (match number (xs.drop 2) with | some x => .ok x | none => .error (xs.length, 22)) else .error (xs.length, 22) := by
  have h1 : pre tLt xs = false := h [38, 108, 116, 59] 60 (by simp [names5])
  have h2 : pre tGt xs = false := h [38, 103, 116, 59] 62 (by simp [names5])
  have h3 : pre tAmp xs = false := h [38, 97, 109, 112, 59] 38 (by simp [names5])
  have h4 : pre tQuot xs = false := h [38, 113, 117, 111, 116, 59] 34 (by simp [names5])
  have h5 : pre tApos xs = false := h [38, 97, 112, 111, 115, 59] 39 (by simp [names5])
  unfold reference
  rw [h1, h2, h3, h4, h5]
  rfl
theorem names5_len {l : List UInt8} {c : Nat} (h : (l, c) ∈ names5) : l.length ≤ 6 ∧ 0 < l.length := by
  simp only [names5, List.mem_cons, Prod.mk.injEq, List.not_mem_nil, or_false] at h
  rcases h with ⟨rfl, -⟩ | ⟨rfl, -⟩ | ⟨rfl, -⟩ | ⟨rfl, -⟩ | ⟨rfl, -⟩ <;> decide
set_option maxRecDepth 100000 in
set_option maxHeartbeats 16000000 in
theorem reference_any {w : World} {p : Pl} {d : Sd} (h : At w p d) (hi : d.i ≤ d.cs.length) : Calls Tryz.prog 58 #[.pointer (some ⟨p.s, 0, none⟩)] w fun e w' => Gives p d w (reference d.rest) (fun c => .int .i64 (c : Int)) e w' := by
  have hcl := h.clen
  have c1 := h.c1
  have own0 := World.ownsMap_made w Tryz.prog 9 (plainElem (H := Unit) Tryz.prog 3)
  go_enter Tryz.func58, Tryz.ntmps58
  go_wp2_with (refine wpList_insert_own _ rfl _ _ _ 112 rfl 9 3 str_law Tryz.underlying112 (plainElem Tryz.prog 3) _ 0 _ rfl own0 (by unfold maxLen; omega) (.string ⟨#[38, 108, 116, 59]⟩) (.int .i64 60) (.string [38, 108, 116, 59]) rfl rfl (key_lit (k := [38, 108, 116, 59]) (by unfold maxLen; decide)) (.lit (.int .i64 60)) [] (plainElem_int Tryz.underlying3 (by decide)) ?_)
  intro m1 own1 gr1
  go_wp2_with (refine wpList_insert_own _ rfl _ _ _ 112 rfl 9 3 str_law Tryz.underlying112 (plainElem Tryz.prog 3) _ 1 _ rfl own1 (by unfold maxLen; omega) (.string ⟨#[38, 103, 116, 59]⟩) (.int .i64 62) (.string [38, 103, 116, 59]) rfl rfl (key_lit (k := [38, 103, 116, 59]) (by unfold maxLen; decide)) (.lit (.int .i64 62)) [] (plainElem_int Tryz.underlying3 (by decide)) ?_)
  intro m2 own2 gr2
  go_wp2_with (refine wpList_insert_own _ rfl _ _ _ 112 rfl 9 3 str_law Tryz.underlying112 (plainElem Tryz.prog 3) _ 2 _ rfl own2 (by unfold maxLen; omega) (.string ⟨#[38, 97, 109, 112, 59]⟩) (.int .i64 38) (.string [38, 97, 109, 112, 59]) rfl rfl (key_lit (k := [38, 97, 109, 112, 59]) (by unfold maxLen; decide)) (.lit (.int .i64 38)) [] (plainElem_int Tryz.underlying3 (by decide)) ?_)
  intro m3 own3 gr3
  go_wp2_with (refine wpList_insert_own _ rfl _ _ _ 112 rfl 9 3 str_law Tryz.underlying112 (plainElem Tryz.prog 3) _ 3 _ rfl own3 (by unfold maxLen; omega) (.string ⟨#[38, 113, 117, 111, 116, 59]⟩) (.int .i64 34) (.string [38, 113, 117, 111, 116, 59]) rfl rfl (key_lit (k := [38, 113, 117, 111, 116, 59]) (by unfold maxLen; decide)) (.lit (.int .i64 34)) [] (plainElem_int Tryz.underlying3 (by decide)) ?_)
  intro m4 own4 gr4
  go_wp2_with (refine wpList_insert_own _ rfl _ _ _ 112 rfl 9 3 str_law Tryz.underlying112 (plainElem Tryz.prog 3) _ 4 _ rfl own4 (by unfold maxLen; omega) (.string ⟨#[38, 97, 112, 111, 115, 59]⟩) (.int .i64 39) (.string [38, 97, 112, 111, 115, 59]) rfl rfl (key_lit (k := [38, 97, 112, 111, 115, 59]) (by unfold maxLen; decide)) (.lit (.int .i64 39)) [] (plainElem_int Tryz.underlying3 (by decide)) ?_)
  intro m5 own5 gr5
  have G5 : Pur w m5 := by
    have b0 : Below w.heap.size w (w.alloc (.map #[] 0)) := (Pur.refl w).alloc _
    exact ((((b0.grown gr1 b0.size (fun k hk => by cases hk; exact Nat.le_refl _)).grown gr2 (Nat.le_trans b0.size gr1.size) (fun k hk => by cases hk; exact Nat.le_refl _)).grown gr3 (Nat.le_trans (Nat.le_trans b0.size gr1.size) gr2.size) (fun k hk => by cases hk; exact Nat.le_refl _)).grown gr4 (Nat.le_trans (Nat.le_trans (Nat.le_trans b0.size gr1.size) gr2.size) gr3.size) (fun k hk => by cases hk; exact Nat.le_refl _)).grown gr5 (Nat.le_trans (Nat.le_trans (Nat.le_trans (Nat.le_trans b0.size gr1.size) gr2.size) gr3.size) gr4.size) (fun k hk => by cases hk; exact Nat.le_refl _)
  rw [D5_eq] at own5
  clear own0 own1 own2 own3 own4 gr1 gr2 gr3 gr4 gr5
  go_wp2_with (at_range; refine wpList_range_own _ rfl _ 112 rfl 9 3 str_law Tryz.underlying112 _ _ _ D5 rfl own5 ?_)
  intro w0 hrg0 hg0 hs0
  have G0 : Pur w w0 := G5.grown hg0 G5.size (fun k hk => by cases hk)
  have hr0 : w.heap.size ≤ m5.heap.size := G5.size
  go_wp2
  generalize m5.heap.size = r at *
  clear own5 G5 hg0 hs0
  go_loopw [4] (fun _ wr => ∃ left cnt, wr.ranges Tryz.prog 9 (plainElem Tryz.prog 3) w.heap.size r 5 D5 left cnt ∧ Pur w wr ∧ Hid (∀ l c, (l, c) ∈ names5 → left (.string l) = false → pre (nats l) d.rest = false) ∧ Hid (∀ kl, left kl = true → Maps.has D5 kl = true)) (fun _ wr => wr.rangeLeft w.heap.size r)
  case atStart => exact ⟨_, _, hrg0, G0, Lib.hid (fun l c hm hf => by rw [D5_has l c hm] at hf; cases hf), Lib.hid fun _ h => h⟩
  case round =>
    obtain ⟨left, cnt, hrg, hpr, HN, HL⟩ := hrel
    have hro := hrg.left_eq
    go_wp2_with (at_next; refine wpList_next_ranges _ rfl _ rfl 9 str_law (plainElem Tryz.prog 3) (fun s : ByteArray => Value.string s) (Value.int .i64) str_inv (fun v y hy => by obtain ⟨c, rfl, _⟩ := plainElem_int_inv Tryz.underlying3 hy; exact ⟨c, rfl⟩) w.heap.size r 5 D5 left cnt rfl hrg ?_ ?_)
    · intro _ hl0
      have HM := Lib.hid (ref_miss d.rest (fun l c hm => HN.out l c hm (hl0 _)))
      have h1 := h.pur hpr
      have AT := at_any h1 [38, 35] hi (by decide)
      have c1 := h1.c1
      have f1 := h1.f 1
      have en : nats [38, 35] = [38, 35] := rfl
      rw [en] at AT
      clear HN HL hro hl0 hrg hrg0 G0
      rcases hp : pre [38, 35] d.rest with _ | _
      · rw [hp] at AT
        have HS := Lib.hid (show reference d.rest = .error (d.rest.length, 22) by rw [HM.out, hp]; rfl)
        clear HM
        go_wp2_with fail
        refine AT.mono ?_
        rintro e w2 ⟨rfl, hp2⟩
        go_wp2_with fail
        refine (fail_any (h1.pur hp2) [p.s] d.i 22 (by omega)).mono ?_
        intro e w6 hf
        obtain ⟨b, rfl, hf2⟩ := id hf
        go_wp2
        refine ⟨rfl, ?_⟩
        rw [HS.out]
        simp only [Gives]
        rw [rest_len, show d.cs.length - (d.cs.length - d.i) = d.i by omega]
        exact Flt.after (Chg.of_pur (hpr.trans hp2)) hf
      · rw [hp] at AT
        have hlen := pre_len hp
        rw [rest_len] at hlen
        simp only [List.length_cons, List.length_nil] at hlen
        have HS := Lib.hid (show reference d.rest = (match number (d.rest.drop 2) with | some x => .ok x | none => .error (d.rest.length, 22)) by rw [HM.out, hp]; rfl)
        have w1 : IntKind.i64.wrap ((d.i : Int) + 2) = (d.i : Int) + 2 := IntWalk.i64_in _ (by omega)
        have hd2 : d.rest.drop 2 = ({ d with i := d.i + 2 } : Sd).rest := by unfold Sd.rest; rw [List.drop_drop]
        clear HM
        go_wp2_with fail
        refine AT.mono ?_
        rintro e w2 ⟨rfl, hp2⟩
        have h2 := h1.pur hp2
        have c1 := h2.c1
        have f1 := h2.f 1
        have h3 := h2.seti (d.i + 2) ((d.i : Int) + 2) (by omega)
        have g3 : Chg [p.s] w (w2.setCell ⟨p.s, 1, none⟩ (.int .i64 ((d.i : Int) + 2))) := (Chg.of_pur (hpr.trans hp2)).setCell (.inl (by simp)) _
        have NU := number_any h3 (by simp only; omega)
        rw [← hd2] at NU
        rcases hn : number (d.rest.drop 2) with _ | ⟨v, q⟩
        · rw [hn] at HS NU
          simp only at HS
          go_wp2_with fail
          refine NU.mono ?_
          rintro e w4 ⟨rfl, q, j, e1, e2, e3, h4, g4⟩
          simp only at h4
          go_wp2_with fail
          refine (fail_any h4 [p.s] d.i 22 (by omega)).mono ?_
          intro e w6 hf
          obtain ⟨b, rfl, hf2⟩ := id hf
          go_wp2
          refine ⟨rfl, ?_⟩
          rw [HS.out]
          simp only [Gives]
          rw [rest_len, show d.cs.length - (d.cs.length - d.i) = d.i by omega]
          exact Flt.after (g3.trans g4) hf
        · rw [hn] at HS NU
          simp only at HS
          have dv : decide ((0 : Int) ≤ (v : Int)) = true := by simp
          go_wp2_with fail
          refine NU.mono ?_
          rintro e w4 ⟨rfl, j, e1, e2, e3, h4, g4⟩
          simp only at h4 e1 e2 e3
          go_wp2
          go_ret
          rw [HS.out]
          exact ⟨rfl, j, e1, by omega, e3, h4, g3.trans g4⟩
    · intro x c kl y yp w2 cnt' hkey hlk hv hat hrg2 hlt hg2 hs2 hen
      obtain ⟨l, rfl⟩ : ∃ l : List UInt8, x = ⟨l.toArray⟩ := ⟨x.data.toList, by simp⟩
      obtain rfl : kl = .string l := str_key hkey
      obtain ⟨c', hm, hc'⟩ := D5_at l (HL.out _ hlk)
      obtain ⟨c2, hc2, hy, -⟩ := plainElem_int_inv Tryz.underlying3 hv
      cases hc2
      have hcc : c = (c' : Int) := by
        have := (hat (.lit (.int .i64 0))).symm.trans (hc' _)
        obtain ⟨rfl, rfl⟩ := Prod.mk.inj hy
        simpa using this
      subst hcc
      clear hat hv hy hc'
      have hp2 : Pur w w2 := hpr.grown hg2 hpr.size (fun k hk => by cases hk; exact hr0)
      have hrd := hrg2.left_eq
      obtain ⟨l6, l0⟩ := names5_len hm
      have h2 := h.pur hp2
      have AT := at_any h2 l hi (by omega)
      rcases hp : pre (nats l) d.rest with _ | _
      · rw [hp] at AT
        have HN' := Lib.hid (show ∀ l' c', (l', c') ∈ names5 → ((fun z : Lit => left z && !z.sameKey (.string l)) (.string l')) = false → pre (nats l') d.rest = false from fun l' c' hm' hf => by
          simp only [Bool.and_eq_false_iff, Bool.not_eq_false', Lit.sameKey, beq_iff_eq] at hf
          rcases hf with hf | rfl
          · exact HN.out l' c' hm' hf
          · exact hp)
        have HL' := Lib.hid (show ∀ kl, (fun z : Lit => left z && !z.sameKey (.string l)) kl = true → Maps.has D5 kl = true from fun kl hf => by
          simp only [Bool.and_eq_true] at hf
          exact HL.out kl hf.1)
        clear HN HL hrg0 G0 hrg hm
        go_wp2_with fail
        refine AT.mono ?_
        rintro e w4 ⟨rfl, hp4⟩
        have hrg4 := hrg2.kept (w' := w4) (row := none) ⟨hp4.os, hp4.tape, hp4.output, hp4.size, fun i hi _ => hp4.block i hi⟩ (by simp) (by simp)
        have hrd4 := hrg4.left_eq
        go_wp2
        go_roundw
        case rel => exact ⟨_, _, hrg4, hp2.trans hp4, HN', HL'⟩
        case measure => rw [hrd4, hro]; omega
      · rw [hp] at AT
        have hlen := pre_len hp
        rw [rest_len] at hlen
        have en : (nats l).length = l.length := by simp [nats]
        rw [en] at hlen
        have HS := Lib.hid (ref_hit l c' d.rest hm hp)
        have w1 : IntKind.i64.wrap ((d.i : Int) + (l.length : Int)) = (d.i : Int) + (l.length : Int) := IntWalk.i64_in _ (by omega)
        clear HN HL hrg0 G0 hrg hm
        go_wp2_with fail
        refine AT.mono ?_
        rintro e w4 ⟨rfl, hp4⟩
        have h4 := h2.pur hp4
        have c1 := h4.c1
        have f1 := h4.f 1
        have h5 := h4.seti (d.i + l.length) ((d.i : Int) + (l.length : Int)) (by omega)
        go_wp2
        go_ret
        rw [HS.out]
        exact ⟨rfl, d.i + l.length, by unfold Sd.rest; rw [List.drop_drop], by omega, by omega, h5, (Chg.of_pur (hp2.trans hp4)).setCell (.inl (by simp)) _⟩
end Tk
end Go.Proofs.YtaknfofppknloaaGreatDoor
