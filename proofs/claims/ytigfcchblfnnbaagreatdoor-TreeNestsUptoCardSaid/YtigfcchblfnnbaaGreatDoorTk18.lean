/- Layer 2: the scanner's loop (all). -/
import Derived.Test.YtigfcchblfnnbaaGreatDoorTk17
namespace Go.Proofs.YtigfcchblfnnbaaGreatDoor
open Go Go.RowKit
set_option linter.all false
namespace Tk
/-- HOW A FAULT ENDS A CALL, by its place. -/
def FltP (S : List Nat) (w : World) (pos : Nat × Nat) (n : Nat) (e : Ending) (w' : World) : Prop :=
  ∃ b, e = .panicked [{ v := .iface 67 (.pointer (some ⟨b, 0, none⟩)), recovered := false }] ∧ w.heap.size ≤ b ∧ Chg S w w' ∧
    w'.heap[b]? = some (.cells #[.int .i64 (pos.1 : Int), .int .i64 (pos.2 : Int), .iface 42 (.int .i64 (n : Int))] 71 (0, 0))
theorem Flt.toP {S : List Nat} {w w' : World} {cs : Cs} {i n : Nat} {e : Ending} (h : Flt S w cs i n e w') : FltP S w (place cs i) n e w' := h
/-- how 'all' ends -/
def Alls (p : Pl) (w : World) (r : Except ((Nat × Nat) × Nat) (List TokV)) (e : Ending) (w' : World) : Prop := match r with
  | .ok ts => e = .returned (.tuple #[]) ∧ ∃ p' d', At w' p' d' ∧ d'.toks = ts ∧ Step p w p' w'
  | .error (pos, n) => FltP p.all w pos n e w'
/-- what the loop holds -/
structure Go_ (cs : Cs) (j : Nat) (st : St) (b : Nat) : Prop where
  jl : j ≤ cs.length
  bl : b ≤ cs.length
  bt : st.text ≠ [] → b = cs.length - st.began
  tx : st.text.length ≤ j
  tk : st.toks.length ≤ 2 * j
def Sd.of (cs : Cs) (j : Nat) (st : St) (b : Nat) : Sd := ⟨cs, j, st.toks.map (Tok.fin cs), st.text, b⟩
theorem flushed_of {cs : Cs} {j : Nat} {st : St} {b : Nat} (h : Go_ cs j st b) : (Sd.of cs j st b).flushed = st.flush.toks.map (Tok.fin cs) := by
  unfold Sd.flushed Sd.of St.flush
  by_cases ht : st.text = []
  · simp only [ht, if_true]
  · simp only [ht, if_false, List.map_append, List.map_cons, List.map_nil]
    rw [h.bt ht]
    rfl
theorem until_le (t : List Nat) : ∀ (xs : Cs) (x q : Cs), untilT t xs = .ok (x, q) → q.length ≤ xs.length
  | [], x, q, h => by unfold untilT at h; simp at h
  | c :: r, x, q, h => by
    unfold untilT at h
    split at h
    · simp at h; obtain ⟨-, rfl⟩ := h; simp
    · rcases hr : untilT t r with e | ⟨y, z⟩
      · rw [hr] at h; simp at h
      · rw [hr] at h; simp at h
        obtain ⟨-, rfl⟩ := h
        have := until_le t r y z hr
        simp; omega
theorem instr_lt {xs q : Cs} {u : Unit} (h : instr xs = .ok (u, q)) : q.length < xs.length := by
  unfold instr at h
  rcases hn : name (xs.drop 2) with e | ⟨nm, r⟩
  · rw [hn] at h; simp at h
  rw [hn] at h
  obtain ⟨e1, -, e2⟩ := name_ok hn
  have e3 : (xs.drop 2).length = nm.length + r.length := by rw [e1]; simp
  have e4 : 0 < nm.length := List.length_pos_iff.mpr e2
  rw [List.length_drop] at e3
  simp only [and_ok] at h
  split at h
  · cases h
  split at h
  · cases h; rw [List.length_drop]; omega
  split at h
  · rcases hu : untilT [63, 62] r with e | ⟨y, z⟩
    · rw [hu] at h; cases h
    · rw [hu] at h; cases h
      have := until_le _ _ _ _ hu
      omega
  · cases h
theorem comment_lt {xs q : Cs} {u : Unit} (h : comment xs = .ok (u, q)) : q.length < xs.length := by
  unfold comment at h
  rcases hu : untilT [45, 45] (xs.drop 4) with e | ⟨y, z⟩
  · rw [hu] at h; cases h
  rw [hu] at h
  have e1 := until_le _ _ _ _ hu
  rw [List.length_drop] at e1
  simp only [and_ok] at h
  split at h
  · cases h
  · split at h
    · cases h
      simp at e1; omega
    · cases h
theorem chunkGo_le : ∀ (f : Nat) (xs t q : Cs), chunkGo f xs = .ok (t, q) → q.length ≤ xs.length
  | 0, xs, t, q, h => by rw [chunkGo] at h; cases h
  | f + 1, [], t, q, h => by rw [chunkGo] at h; cases h; simp
  | f + 1, c :: r, t, q, h => by
    rw [chunkGo] at h
    split at h
    · cases h; simp
    split at h
    · cases h
    split at h
    · rcases hr : reference (c :: r) with e | ⟨v, y⟩
      · rw [hr] at h; cases h
      · rw [hr] at h
        have := (ref_ok hr).2
        simp only [and_ok] at h
        rcases hg : chunkGo f y with e | ⟨a, z⟩
        · rw [hg] at h; cases h
        · rw [hg] at h; cases h
          have := chunkGo_le f y a q hg
          omega
    · rcases hg : chunkGo f r with e | ⟨a, z⟩
      · rw [hg] at h; cases h
      · rw [hg] at h; cases h
        have := chunkGo_le f r a q hg
        simp; omega
theorem chunk_lt {c : Nat} {r t q : Cs} (hc : c ≠ 60) (h : chunk (c :: r) = .ok (t, q)) : q.length < (c :: r).length := by
  unfold chunk at h
  rw [chunkGo, if_neg hc] at h
  split at h
  · cases h
  split at h
  · rcases hr : reference (c :: r) with e | ⟨v, y⟩
    · rw [hr] at h; cases h
    · rw [hr] at h
      have := (ref_ok hr).2
      simp only [and_ok] at h
      rcases hg : chunkGo (c :: r).length y with e | ⟨a, z⟩
      · rw [hg] at h; cases h
      · rw [hg] at h; cases h
        have := chunkGo_le _ y a q hg
        omega
  · rcases hg : chunkGo (c :: r).length r with e | ⟨a, z⟩
    · rw [hg] at h; cases h
    · rw [hg] at h; cases h
      have := chunkGo_le _ r a q hg
      simp; omega
def Sd.begd (d : Sd) : Nat := if d.text = [] then d.i else d.began
theorem begin_any' {w : World} {p : Pl} {d : Sd} (h : At w p d) : Calls Tryz.prog 49 #[.pointer (some ⟨p.s, 0, none⟩)] w fun e w' => e = .returned (.tuple #[]) ∧ At w' p { d with began := d.begd } ∧ Chg [p.s] w w' := begin_any h
theorem tag_any {w : World} {p : Pl} {d : Sd} (h : At w p d) (hi : d.i < d.cs.length) (hb : d.began ≤ 1000000) (hl : d.text.length ≤ 1000000) (hl2 : d.toks.length ≤ 900000) : Calls Tryz.prog 53 #[.pointer (some ⟨p.s, 0, none⟩)] w fun e w' => Tags p d w (tag d.rest) e w' := by
  rcases hw : hd (fun c => c == 47) (d.cs.drop (d.i + 1)) with _ | _
  · exact tag_start h hi hb hl hl2 hw
  · exact tag_end h hi hb hl hl2 hw
theorem flush_len (st : St) : st.flush.toks.length ≤ st.toks.length + 1 := by unfold St.flush; split <;> simp
theorem sd_begin (cs : Cs) (j n b : Nat) (st : St) (t : Cs) : Sd.of cs j ((st.begin n).say t) b = ⟨cs, j, st.toks.map (Tok.fin cs), st.text ++ t, b⟩ := by
  unfold Sd.of St.begin St.say; split <;> rfl
theorem go_say {cs : Cs} {j j' : Nat} {st : St} {b : Nat} {t : Cs} (G : Go_ cs j st b) (h1 : j < j') (h2 : j' ≤ cs.length) (h3 : t.length + j ≤ j') : Go_ cs j' ((st.begin (cs.drop j).length).say t) (if st.text = [] then j else b) := by
  have h4 := G.tk
  have h5 := G.tx
  have h6 := G.bl
  have h7 := G.bt
  have h8 : (cs.drop j).length = cs.length - j := List.length_drop
  rw [h8]
  unfold St.begin St.say
  by_cases hx : st.text = []
  · simp only [hx, if_true]
    exact ⟨h2, by omega, fun _ => by show j = cs.length - (cs.length - j); omega, by show ([] ++ t).length ≤ j'; simp; omega, by show st.toks.length ≤ 2 * j'; omega⟩
  · simp only [hx, if_false]
    exact ⟨h2, h6, fun _ => h7 hx, by show (st.text ++ t).length ≤ j'; rw [List.length_append]; omega, by show st.toks.length ≤ 2 * j'; omega⟩
set_option maxRecDepth 100000 in
set_option maxHeartbeats 64000000 in
theorem all_any (l : List UInt8) {w0 w : World} {p : Pl} (h : At w p ⟨[], 0, [], [], 0⟩) (hB : Base w0 p w) : Calls Tryz.prog 28 #[.pointer (some ⟨p.s, 0, none⟩), .string ⟨l.toArray⟩] w fun e w' => Alls p w (whole l) e w' := by
  have RD := read_any l h hB
  by_cases hlong : 65536 < l.length
  · have HW := Lib.hid (show whole l = .error (place [] 0, 2) by unfold whole; rw [if_pos hlong]; rfl)
    have HR := Lib.hid (show ∀ e w', Reads p w l e w' = Flt p.all w [] 0 2 e w' from fun e w' => by unfold Reads; rw [if_pos hlong])
    clear hlong
    go_enter Tryz.func28, Tryz.ntmps28
    go_wp2_with fail
    refine RD.mono ?_
    intro e w6 hf
    rw [HR.out] at hf
    obtain ⟨b, rfl, hf2⟩ := id hf
    go_wp2
    refine ⟨rfl, ?_⟩
    rw [HW.out]
    exact hf.toP
  by_cases hr : (read l).2 = 0
  rotate_left
  · have HW := Lib.hid (show whole l = .error (place (read l).1 (read l).1.length, (read l).2) by unfold whole; rw [if_neg hlong, if_pos hr])
    have HR := Lib.hid (show ∀ e w', Reads p w l e w' = Flt p.all w (read l).1 (read l).1.length (read l).2 e w' from fun e w' => by unfold Reads; rw [if_neg hlong, if_neg hr])
    clear hlong hr
    go_enter Tryz.func28, Tryz.ntmps28
    go_wp2_with fail
    refine RD.mono ?_
    intro e w6 hf
    rw [HR.out] at hf
    obtain ⟨b, rfl, hf2⟩ := id hf
    go_wp2
    refine ⟨rfl, ?_⟩
    rw [HW.out]
    exact hf.toP
  have HR := Lib.hid (show ∀ e w', Reads p w l e w' = (e = .returned (.tuple #[]) ∧ ∃ p', At w' p' ⟨(read l).1, 0, [], [], 0⟩ ∧ Step p w p' w') from fun e w' => by unfold Reads; rw [if_neg hlong, if_pos hr])
  obtain ⟨cs, hcs⟩ : ∃ cs, (read l).1 = cs := ⟨_, rfl⟩
  have HW := Lib.hid (show whole l = (match tokens cs with
    | .ok ts => .ok (ts.map (Tok.fin cs))
    | .error (k, e) => .error (place cs (cs.length - k), e)) by unfold whole; rw [if_neg hlong, if_neg (by rw [hr]; simp), hcs]; rfl)
  rw [hcs] at HR
  clear hlong hr hcs
  go_enter Tryz.func28, Tryz.ntmps28
  go_wp2_with fail
  refine RD.mono ?_
  intro e w1 hrd
  rw [HR.out] at hrd
  obtain ⟨rfl, p1, h1, s1⟩ := hrd
  have B1 := hB.step s1
  have hcl := h1.clen
  simp only at hcl
  have DC := decl_any h1 B1 rfl
  rw [s1.s] at DC
  simp only at DC
  have HT0 := Lib.hid (show tokens cs = (decl cs).and fun _ xs => allGo (xs.length + 1) xs ⟨[], [], 0⟩ from rfl)
  clear RD HR
  rcases hd0 : decl cs with ⟨k, n⟩ | ⟨u, xs⟩
  · rw [hd0] at DC HT0
    simp only [and_error] at HT0
    clear hd0
    go_wp2_with fail
    refine DC.mono ?_
    intro e w6 hf
    simp only [Gives] at hf
    rw [s1.s] at hf
    obtain ⟨b, rfl, hf2⟩ := id hf
    go_wp2
    refine ⟨rfl, ?_⟩
    rw [HW.out, HT0.out]
    exact (s1.flt1 (by rw [s1.s]; exact hf)).toP
  rw [hd0] at DC HT0
  simp only [and_ok] at HT0
  clear hd0
  go_wp2_with fail
  refine DC.mono ?_
  rintro e w2 ⟨rfl, i2, a2, -, d2, h2, g2⟩
  simp only at a2 d2 h2
  have s2 := s1.trans (Step.chg1 g2)
  rw [← a2] at HT0
  have hxl : (cs.drop i2).length = cs.length - i2 := List.length_drop
  replace a2 := Lib.hid a2
  clear DC
  go_wp2
  go_loopw [9] (fun _ wr => ∃ (q : Pl) (j f : Nat) (st : St) (b : Nat), q.s = p.s ∧ At wr q (Sd.of cs j st b) ∧ Step p w q wr ∧ Go_ cs j st b ∧ cs.length < j + f ∧ Hid (tokens cs = allGo f (cs.drop j) st)) (fun _ wr => cs.length + 1 - natAt wr ⟨p.s, 1, none⟩)
  case atStart => exact ⟨p1, i2, (cs.drop i2).length + 1, ⟨[], [], 0⟩, 0, s1.s, h2, s2, ⟨d2, by omega, fun h => absurd rfl h, by simp, by simp⟩, by omega, HT0⟩
  case round =>
    obtain ⟨q, j, f, st, b, qs, k3, k4, G, jf, H⟩ := hrel
    obtain ⟨f, rfl⟩ : ∃ g, f = g + 1 := ⟨f - 1, by have := G.jl; omega⟩
    have hj := G.jl
    have e3 := k3.nat
    rw [qs] at e3
    simp only [Sd.of] at e3
    have Bq := hB.step k4
    have PKj : ∀ w', Pur wr w' → Calls Tryz.prog 45 #[.pointer (some ⟨p.s, 0, none⟩)] w' fun e w'' => e = .returned (.int .i64 (pk (cs.drop j))) ∧ Pur w' w'' := fun w' hp => qs ▸ peek_any (k3.pur hp)
    have ATi : ∀ w', Pur wr w' → Calls Tryz.prog 46 #[.pointer (some ⟨p.s, 0, none⟩), .string ⟨#[60, 63]⟩] w' fun e w'' => e = .returned (.bool (pre [60, 63] (cs.drop j))) ∧ Pur w' w'' := fun w' hp => qs ▸ at_any (k3.pur hp) [60, 63] hj (by decide)
    have ATc : ∀ w', Pur wr w' → Calls Tryz.prog 46 #[.pointer (some ⟨p.s, 0, none⟩), .string ⟨#[60, 33, 45, 45]⟩] w' fun e w'' => e = .returned (.bool (pre [60, 33, 45, 45] (cs.drop j))) ∧ Pur w' w'' := fun w' hp => qs ▸ at_any (k3.pur hp) [60, 33, 45, 45] hj (by decide)
    have ATd : ∀ w', Pur wr w' → Calls Tryz.prog 46 #[.pointer (some ⟨p.s, 0, none⟩), .string ⟨#[60, 33, 91, 67, 68, 65, 84, 65, 91]⟩] w' fun e w'' => e = .returned (.bool (pre [60, 33, 91, 67, 68, 65, 84, 65, 91] (cs.drop j))) ∧ Pur w' w'' := fun w' hp => qs ▸ at_any (k3.pur hp) [60, 33, 91, 67, 68, 65, 84, 65, 91] hj (by decide)
    have ATt : ∀ w', Pur wr w' → Calls Tryz.prog 46 #[.pointer (some ⟨p.s, 0, none⟩), .string ⟨#[60, 33, 68, 79, 67, 84, 89, 80, 69]⟩] w' fun e w'' => e = .returned (.bool (pre [60, 33, 68, 79, 67, 84, 89, 80, 69] (cs.drop j))) ∧ Pur w' w'' := fun w' hp => qs ▸ at_any (k3.pur hp) [60, 33, 68, 79, 67, 84, 89, 80, 69] hj (by decide)
    have ATm : ∀ w', Pur wr w' → Calls Tryz.prog 46 #[.pointer (some ⟨p.s, 0, none⟩), .string ⟨#[60, 33]⟩] w' fun e w'' => e = .returned (.bool (pre [60, 33] (cs.drop j))) ∧ Pur w' w'' := fun w' hp => qs ▸ at_any (k3.pur hp) [60, 33] hj (by decide)
    clear h2 s2 g2 h1 s1 HT0
    have hgo := allGo.eq_2 (cs.drop j) st f
    rw [show tDoctype = [60, 33, 68, 79, 67, 84, 89, 80, 69] from rfl, show tCdata = [60, 33, 91, 67, 68, 65, 84, 65, 91] from rfl] at hgo
    by_cases hend : cs.drop j = []
    · rw [if_pos hend] at hgo
      have HS := Lib.hid (H.out.trans hgo)
      have hpk : (pk (cs.drop j) != -1) = false := by rw [hend]; rfl
      have FL : ∀ w', Pur wr w' → _ := fun w' hp => flush_any' (k3.pur hp) (by have := G.bl; show b ≤ 1000000; omega) (by have := G.tx; show st.text.length ≤ 1000000; omega) (by have := G.tk; show (st.toks.map (Tok.fin cs)).length ≤ 1000000; rw [List.length_map]; omega)
      rw [flushed_of G, qs] at FL
      clear H hgo hend ATi ATc ATd ATt ATm
      go_wp2_with fail
      refine (PKj _ (Pur.refl _)).mono ?_
      rintro e w4 ⟨rfl, hp4⟩
      go_wp2_with fail
      refine (FL _ hp4).mono ?_
      rintro e w5 ⟨rfl, q5, h5, s5⟩
      go_wp2
      refine bodyPost_end (results_none rfl _ _ _) rfl ?_
      rw [HW.out, HS.out]
      exact ⟨rfl, q5, _, h5, rfl, (k4.pur hp4).trans s5⟩
    rw [if_neg hend] at hgo
    have hjl : j < cs.length := by
      rcases Nat.lt_or_ge j cs.length with g | g
      · exact g
      · exact absurd (List.drop_of_length_le g) hend
    have hpk : (pk (cs.drop j) != -1) = true := by rw [drop_cons cs j hjl]; simp [pk]
    clear hend
    by_cases b1 : pre [60, 63] (cs.drop j) = true
    · rw [if_pos b1] at hgo
      rw [b1] at ATi
      have hpl := pre_len b1
      rw [List.length_drop] at hpl
      simp only [List.length_cons, List.length_nil] at hpl
      have CT : ∀ w', Pur wr w' → _ := fun w' hp => instr_any (k3.pur hp) (Bq.foldw.pur hp) Bq.foldg (by show j + 2 ≤ cs.length; omega)
      rw [qs] at CT
      simp only [Sd.rest, Sd.of] at CT
      rcases hr : instr (cs.drop j) with ⟨k, n⟩ | ⟨u, z⟩
      · rw [hr] at hgo CT
        simp only [and_error] at hgo
        have HS := Lib.hid (H.out.trans hgo)
        clear H hgo hr b1
        go_wp2_with fail
        refine (PKj _ (Pur.refl _)).mono ?_
        rintro e w4 ⟨rfl, hp4⟩
        go_wp2_with fail
        refine (ATi _ hp4).mono ?_
        rintro e w5 ⟨rfl, hp5⟩
        have P5 := hp4.trans hp5
        go_wp2_with fail
        refine (CT _ P5).mono ?_
        intro e w9 hf
        simp only [Gives] at hf
        obtain ⟨b, rfl, hf2⟩ := id hf
        go_wp2
        refine ⟨rfl, ?_⟩
        rw [HW.out, HS.out]
        exact ((k4.pur P5).flt1 hf).toP
      · have hlt := instr_lt hr
        rw [hr] at hgo CT
        simp only [and_ok] at hgo
        have HS := Lib.hid (H.out.trans hgo)
        clear H hgo hr b1
        go_wp2_with fail
        refine (PKj _ (Pur.refl _)).mono ?_
        rintro e w4 ⟨rfl, hp4⟩
        go_wp2_with fail
        refine (ATi _ hp4).mono ?_
        rintro e w5 ⟨rfl, hp5⟩
        have P5 := hp4.trans hp5
        go_wp2_with fail
        refine (CT _ P5).mono ?_
        rintro e w9 ⟨rfl, j', e1, e2, e4, h9, g9⟩
        simp only at h9 e1 e2 e4
        rw [← e1, List.length_drop, List.length_drop] at hlt
        rw [← e1] at HS
        have S9 := (k4.pur P5).trans (Step.chg1 g9)
        have e9 := h9.nat
        rw [qs] at e9
        simp only at e9
        clear e1
        go_wp2
        go_roundw
        case rel => exact ⟨q, j', f, st, b, qs, h9, S9, ⟨e4, G.bl, G.bt, by have := G.tx; omega, by have := G.tk; omega⟩, by omega, HS⟩
        case measure => rw [e3, e9]; omega
    replace b1 : pre [60, 63] (cs.drop j) = false := by simpa using b1
    rw [if_neg (by rw [b1]; simp)] at hgo
    rw [b1] at ATi
    by_cases b2 : pre [60, 33, 45, 45] (cs.drop j) = true
    · rw [if_pos b2] at hgo
      rw [b2] at ATc
      have hpl := pre_len b2
      rw [List.length_drop] at hpl
      simp only [List.length_cons, List.length_nil] at hpl
      have CT : ∀ w', Pur wr w' → _ := fun w' hp => comment_any (k3.pur hp) (by show j + 4 ≤ cs.length; omega)
      rw [qs] at CT
      simp only [Sd.rest, Sd.of] at CT
      rcases hr : comment (cs.drop j) with ⟨k, n⟩ | ⟨u, z⟩
      · rw [hr] at hgo CT
        simp only [and_error] at hgo
        have HS := Lib.hid (H.out.trans hgo)
        clear H hgo hr b2
        go_wp2_with fail
        refine (PKj _ (Pur.refl _)).mono ?_
        rintro e w4 ⟨rfl, hp4⟩
        go_wp2_with fail
        refine (ATi _ hp4).mono ?_
        rintro e w5 ⟨rfl, hp5⟩
        have P5 := hp4.trans hp5
        go_wp2_with fail
        refine (ATc _ P5).mono ?_
        rintro e w6 ⟨rfl, hp6⟩
        have P6 := P5.trans hp6
        go_wp2_with fail
        refine (CT _ P6).mono ?_
        intro e w9 hf
        simp only [Gives] at hf
        obtain ⟨b, rfl, hf2⟩ := id hf
        go_wp2
        refine ⟨rfl, ?_⟩
        rw [HW.out, HS.out]
        exact ((k4.pur P6).flt1 hf).toP
      · have hlt := comment_lt hr
        rw [hr] at hgo CT
        simp only [and_ok] at hgo
        have HS := Lib.hid (H.out.trans hgo)
        clear H hgo hr b2
        go_wp2_with fail
        refine (PKj _ (Pur.refl _)).mono ?_
        rintro e w4 ⟨rfl, hp4⟩
        go_wp2_with fail
        refine (ATi _ hp4).mono ?_
        rintro e w5 ⟨rfl, hp5⟩
        have P5 := hp4.trans hp5
        go_wp2_with fail
        refine (ATc _ P5).mono ?_
        rintro e w6 ⟨rfl, hp6⟩
        have P6 := P5.trans hp6
        go_wp2_with fail
        refine (CT _ P6).mono ?_
        rintro e w9 ⟨rfl, j', e1, e2, e4, h9, g9⟩
        simp only at h9 e1 e2 e4
        rw [← e1, List.length_drop, List.length_drop] at hlt
        rw [← e1] at HS
        have S9 := (k4.pur P6).trans (Step.chg1 g9)
        have e9 := h9.nat
        rw [qs] at e9
        simp only at e9
        clear e1
        go_wp2
        go_roundw
        case rel => exact ⟨q, j', f, st, b, qs, h9, S9, ⟨e4, G.bl, G.bt, by have := G.tx; omega, by have := G.tk; omega⟩, by omega, HS⟩
        case measure => rw [e3, e9]; omega
    replace b2 : pre [60, 33, 45, 45] (cs.drop j) = false := by simpa using b2
    rw [if_neg (by rw [b2]; simp)] at hgo
    rw [b2] at ATc
    by_cases b3 : pre [60, 33, 91, 67, 68, 65, 84, 65, 91] (cs.drop j) = true
    · rw [if_pos b3] at hgo
      rw [b3] at ATd
      have hpl := pre_len b3
      rw [List.length_drop] at hpl
      simp only [List.length_cons, List.length_nil] at hpl
      rw [List.drop_drop] at hgo
      have BG : ∀ w', Pur wr w' → _ := fun w' hp => begin_any' (k3.pur hp)
      rw [qs] at BG
      simp only [Sd.of] at BG
      have w1 : IntKind.i64.wrap ((j : Int) + 9) = (j : Int) + 9 := IntWalk.i64_in _ (by omega)
      obtain ⟨b0, hb0⟩ : ∃ b0, Sd.begd ⟨cs, j, st.toks.map (Tok.fin cs), st.text, b⟩ = b0 := ⟨_, rfl⟩
      rw [hb0] at BG
      rcases hr : untilT [93, 93, 62] (cs.drop (j + 9)) with ⟨k, n⟩ | ⟨t, z⟩
      · rw [hr] at hgo
        simp only [and_error] at hgo
        have HS := Lib.hid (H.out.trans hgo)
        replace hr := Lib.hid hr
        clear H hgo b3 hb0
        go_wp2_with fail
        refine (PKj _ (Pur.refl _)).mono ?_
        rintro e w4 ⟨rfl, hp4⟩
        go_wp2_with fail
        refine (ATi _ hp4).mono ?_
        rintro e w5 ⟨rfl, hp5⟩
        have P5 := hp4.trans hp5
        go_wp2_with fail
        refine (ATc _ P5).mono ?_
        rintro e w6 ⟨rfl, hp6⟩
        have P6 := P5.trans hp6
        go_wp2_with fail
        refine (ATd _ P6).mono ?_
        rintro e w7 ⟨rfl, hp7⟩
        have P7 := P6.trans hp7
        go_wp2_with fail
        refine (BG _ P7).mono ?_
        rintro e w8 ⟨rfl, h8, g8⟩
        have c1 := h8.c1
        have f1 := h8.f 1
        have h9 := h8.seti (j + 9) ((j : Int) + 9) (by omega)
        have g9 : Chg [q.s] w8 (w8.setCell ⟨q.s, 1, none⟩ (.int .i64 ((j : Int) + 9))) := (Chg.refl _ _).setCell (.inl (by simp)) _
        have S9 := ((k4.pur P7).trans (Step.chg1 (show Chg [q.s] w7 w8 by rw [qs]; exact g8))).trans (Step.chg1 g9)
        have UT := until_any h9 (by show j + 9 ≤ cs.length; omega) [93, 93, 62] (by simp) (by simp)
        simp only [Sd.rest, show nats [93, 93, 62] = [93, 93, 62] from rfl] at UT
        rw [hr.out] at UT
        rw [qs] at c1 f1 UT S9
        simp only at c1
        go_wp2_with fail
        refine UT.mono ?_
        intro e w11 hf
        simp only [Cuts] at hf
        obtain ⟨b, rfl, hf2⟩ := id hf
        go_wp2
        refine ⟨rfl, ?_⟩
        rw [HW.out, HS.out]
        exact (S9.flt1 hf).toP
      · rw [hr] at hgo
        simp only [and_ok] at hgo
        have HS := Lib.hid (H.out.trans hgo)
        replace hr := Lib.hid hr
        replace hb0 := Lib.hid hb0
        clear H hgo b3
        go_wp2_with fail
        refine (PKj _ (Pur.refl _)).mono ?_
        rintro e w4 ⟨rfl, hp4⟩
        go_wp2_with fail
        refine (ATi _ hp4).mono ?_
        rintro e w5 ⟨rfl, hp5⟩
        have P5 := hp4.trans hp5
        go_wp2_with fail
        refine (ATc _ P5).mono ?_
        rintro e w6 ⟨rfl, hp6⟩
        have P6 := P5.trans hp6
        go_wp2_with fail
        refine (ATd _ P6).mono ?_
        rintro e w7 ⟨rfl, hp7⟩
        have P7 := P6.trans hp7
        go_wp2_with fail
        refine (BG _ P7).mono ?_
        rintro e w8 ⟨rfl, h8, g8⟩
        have c1 := h8.c1
        have f1 := h8.f 1
        have h9 := h8.seti (j + 9) ((j : Int) + 9) (by omega)
        have g9 : Chg [q.s] w8 (w8.setCell ⟨q.s, 1, none⟩ (.int .i64 ((j : Int) + 9))) := (Chg.refl _ _).setCell (.inl (by simp)) _
        have S9 := ((k4.pur P7).trans (Step.chg1 (show Chg [q.s] w7 w8 by rw [qs]; exact g8))).trans (Step.chg1 g9)
        have UT := until_any h9 (by show j + 9 ≤ cs.length; omega) [93, 93, 62] (by simp) (by simp)
        simp only [Sd.rest, show nats [93, 93, 62] = [93, 93, 62] from rfl] at UT
        rw [hr.out] at UT
        rw [qs] at c1 f1 UT S9
        simp only at c1
        go_wp2_with fail
        refine UT.mono ?_
        rintro e w10 ⟨v, rfl, ⟨j', e1, e2, e4, h10, g10⟩, hrd, -, e5, e6⟩
        simp only [Sd.rest] at h10 e1 e2 e4 e5 e6
        rw [← e1, List.length_drop, List.length_drop] at e5
        rw [← e1] at HS
        have htx := G.tx
        have SY := say_any h10 v t hrd (fun c hc => allowed_okc (h10.okcs _ (List.mem_of_mem_drop (e6 c hc)))) (by show st.text.length ≤ 1000000; omega) (by omega)
        rw [qs] at SY
        have S10 := S9.trans (Step.chg1 g10)
        clear e1 e6
        go_wp2_with fail
        refine SY.mono ?_
        rintro e w11 ⟨rfl, q11, h11, s11⟩
        have e9 := h11.nat
        rw [s11.s, qs] at e9
        simp only at e9
        have S11 := S10.trans s11
        go_wp2
        go_roundw
        case rel => exact ⟨q11, j', f, _, _, s11.s.trans qs, by rw [sd_begin, show (if st.text = [] then j else b) = b0 from hb0.out]; exact h11, S11, go_say G (by omega) e4 (by omega), by omega, HS⟩
        case measure => rw [e3, e9]; omega
    replace b3 : pre [60, 33, 91, 67, 68, 65, 84, 65, 91] (cs.drop j) = false := by simpa using b3
    rw [if_neg (by rw [b3]; simp)] at hgo
    rw [b3] at ATd
    by_cases b4 : pre [60, 33, 68, 79, 67, 84, 89, 80, 69] (cs.drop j) = true
    · rw [if_pos b4] at hgo
      rw [b4] at ATt
      have HS := Lib.hid (H.out.trans hgo)
      clear H hgo b4
      go_wp2_with fail
      refine (PKj _ (Pur.refl _)).mono ?_
      rintro e w4 ⟨rfl, hp4⟩
      go_wp2_with fail
      refine (ATi _ hp4).mono ?_
      rintro e w5 ⟨rfl, hp5⟩
      have P5 := hp4.trans hp5
      go_wp2_with fail
      refine (ATc _ P5).mono ?_
      rintro e w6 ⟨rfl, hp6⟩
      have P6 := P5.trans hp6
      go_wp2_with fail
      refine (ATd _ P6).mono ?_
      rintro e w7 ⟨rfl, hp7⟩
      have P7 := P6.trans hp7
      go_wp2_with fail
      refine (ATt _ P7).mono ?_
      rintro e w8 ⟨rfl, hp8⟩
      have P8 := P7.trans hp8
      have k6 := k3.pur P8
      have c1 := k6.c1
      have FL := fail_any k6 [q.s] j 23 (by omega)
      rw [qs] at c1 FL
      simp only [Sd.of] at c1
      go_wp2_with fail
      refine FL.mono ?_
      intro e w11 hf
      obtain ⟨b, rfl, hf2⟩ := id hf
      go_wp2
      refine ⟨rfl, ?_⟩
      rw [HW.out, HS.out]
      show FltP p.all w (place cs (cs.length - (cs.drop j).length)) 23 _ _
      rw [List.length_drop, show cs.length - (cs.length - j) = j by omega]
      exact ((k4.pur P8).flt1 (by rw [qs]; exact hf)).toP
    replace b4 : pre [60, 33, 68, 79, 67, 84, 89, 80, 69] (cs.drop j) = false := by simpa using b4
    rw [if_neg (by rw [b4]; simp)] at hgo
    rw [b4] at ATt
    by_cases b5 : pre [60, 33] (cs.drop j) = true
    · rw [if_pos b5] at hgo
      rw [b5] at ATm
      have HS := Lib.hid (H.out.trans hgo)
      clear H hgo b5
      go_wp2_with fail
      refine (PKj _ (Pur.refl _)).mono ?_
      rintro e w4 ⟨rfl, hp4⟩
      go_wp2_with fail
      refine (ATi _ hp4).mono ?_
      rintro e w5 ⟨rfl, hp5⟩
      have P5 := hp4.trans hp5
      go_wp2_with fail
      refine (ATc _ P5).mono ?_
      rintro e w6 ⟨rfl, hp6⟩
      have P6 := P5.trans hp6
      go_wp2_with fail
      refine (ATd _ P6).mono ?_
      rintro e w7 ⟨rfl, hp7⟩
      have P7 := P6.trans hp7
      go_wp2_with fail
      refine (ATt _ P7).mono ?_
      rintro e w8 ⟨rfl, hp8⟩
      have P8 := P7.trans hp8
      go_wp2_with fail
      refine (ATm _ P8).mono ?_
      rintro e w9 ⟨rfl, hp9⟩
      have P9 := P8.trans hp9
      have k6 := k3.pur P9
      have c1 := k6.c1
      have FL := fail_any k6 [q.s] j 21 (by omega)
      rw [qs] at c1 FL
      simp only [Sd.of] at c1
      go_wp2_with fail
      refine FL.mono ?_
      intro e w11 hf
      obtain ⟨b, rfl, hf2⟩ := id hf
      go_wp2
      refine ⟨rfl, ?_⟩
      rw [HW.out, HS.out]
      show FltP p.all w (place cs (cs.length - (cs.drop j).length)) 21 _ _
      rw [List.length_drop, show cs.length - (cs.length - j) = j by omega]
      exact ((k4.pur P9).flt1 (by rw [qs]; exact hf)).toP
    replace b5 : pre [60, 33] (cs.drop j) = false := by simpa using b5
    rw [if_neg (by rw [b5]; simp)] at hgo
    rw [b5] at ATm
    have hcons := drop_cons cs j hjl
    have P9m : True := trivial
    by_cases b6 : hd (fun c => c == 60) (cs.drop j) = true
    · rw [if_pos b6] at hgo
      have d6 : (pk (cs.drop j) == 60) = true := by
        rw [hcons] at b6 ⊢
        simp only [hd, beq_iff_eq] at b6
        rw [b6]; rfl
      have CT : ∀ w', Pur wr w' → _ := fun w' hp => tag_any (k3.pur hp) hjl (by have := G.bl; show b ≤ 1000000; omega) (by have := G.tx; show st.text.length ≤ 1000000; omega) (by have := G.tk; show (st.toks.map (Tok.fin cs)).length ≤ 900000; rw [List.length_map]; omega)
      rw [qs] at CT
      simp only [Sd.rest, Sd.of] at CT
      have FG := flushed_of G
      simp only [Sd.of] at FG
      rcases hr : tag (cs.drop j) with ⟨k, n⟩ | ⟨t, z⟩
      · rw [hr] at hgo CT
        simp only [and_error] at hgo
        have HS := Lib.hid (H.out.trans hgo)
        clear H hgo hr b6 hcons FG
        go_wp2_with fail
        refine (PKj _ (Pur.refl _)).mono ?_
        rintro e w4 ⟨rfl, hp4⟩
        go_wp2_with fail
        refine (ATi _ hp4).mono ?_
        rintro e w5 ⟨rfl, hp5⟩
        have P5 := hp4.trans hp5
        go_wp2_with fail
        refine (ATc _ P5).mono ?_
        rintro e w6 ⟨rfl, hp6⟩
        have P6 := P5.trans hp6
        go_wp2_with fail
        refine (ATd _ P6).mono ?_
        rintro e w7 ⟨rfl, hp7⟩
        have P7 := P6.trans hp7
        go_wp2_with fail
        refine (ATt _ P7).mono ?_
        rintro e w8 ⟨rfl, hp8⟩
        have P8 := P7.trans hp8
        go_wp2_with fail
        refine (ATm _ P8).mono ?_
        rintro e w9 ⟨rfl, hp9⟩
        have P9 := P8.trans hp9
        go_wp2_with fail
        refine (PKj _ P9).mono ?_
        rintro e w10 ⟨rfl, hp10⟩
        have P10 := P9.trans hp10
        go_wp2_with fail
        refine (CT _ P10).mono ?_
        intro e w11 hf
        simp only [Tags] at hf
        obtain ⟨b, rfl, hf2⟩ := id hf
        go_wp2
        refine ⟨rfl, ?_⟩
        rw [HW.out, HS.out]
        exact ((k4.pur P10).flt hf).toP
      · rw [hr] at hgo CT
        simp only [and_ok] at hgo
        have HS := Lib.hid (H.out.trans hgo)
        replace FG := Lib.hid FG
        clear H hgo hr b6 hcons
        go_wp2_with fail
        refine (PKj _ (Pur.refl _)).mono ?_
        rintro e w4 ⟨rfl, hp4⟩
        go_wp2_with fail
        refine (ATi _ hp4).mono ?_
        rintro e w5 ⟨rfl, hp5⟩
        have P5 := hp4.trans hp5
        go_wp2_with fail
        refine (ATc _ P5).mono ?_
        rintro e w6 ⟨rfl, hp6⟩
        have P6 := P5.trans hp6
        go_wp2_with fail
        refine (ATd _ P6).mono ?_
        rintro e w7 ⟨rfl, hp7⟩
        have P7 := P6.trans hp7
        go_wp2_with fail
        refine (ATt _ P7).mono ?_
        rintro e w8 ⟨rfl, hp8⟩
        have P8 := P7.trans hp8
        go_wp2_with fail
        refine (ATm _ P8).mono ?_
        rintro e w9 ⟨rfl, hp9⟩
        have P9 := P8.trans hp9
        go_wp2_with fail
        refine (PKj _ P9).mono ?_
        rintro e w10 ⟨rfl, hp10⟩
        have P10 := P9.trans hp10
        go_wp2_with fail
        refine (CT _ P10).mono ?_
        rintro e w11 ⟨rfl, q11, j', e1, e2, e4, h11, s11⟩
        simp only at h11 e1 e2 e4
        rw [← e1] at HS
        have S11 := (k4.pur P10).trans s11
        have e9 := h11.nat
        rw [s11.s, qs] at e9
        simp only at e9
        rw [FG.out] at h11
        have fl := flush_len st
        clear e1
        go_wp2
        go_roundw
        case rel => exact ⟨q11, j', f, ⟨st.flush.toks ++ [t], [], st.began⟩, b, s11.s.trans qs, by unfold Sd.of; rw [List.map_append]; exact h11, S11, ⟨e4, G.bl, fun h => absurd rfl h, by simp, by have := G.tk; show (st.flush.toks ++ [t]).length ≤ 2 * j'; rw [List.length_append]; simp; omega⟩, by omega, HS⟩
        case measure => rw [e3, e9]; omega
    rw [if_neg b6] at hgo
    have hc60 : cs.getD j 0 ≠ 60 := by
      rw [hcons] at b6
      simpa [hd] using b6
    have d6 : (pk (cs.drop j) == 60) = false := by
      rw [hcons]
      simp only [pk, beq_eq_false_iff_ne]
      omega
    have CT : ∀ w', Pur wr w' → _ := fun w' hp => chunk_any (k3.pur hp) hj (by have := G.tx; show st.text.length ≤ 500000; omega)
    rw [qs] at CT
    simp only [Sd.rest, Sd.of] at CT
    rcases hr : chunk (cs.drop j) with ⟨k, n⟩ | ⟨t, z⟩
    · rw [hr] at hgo CT
      simp only [and_error] at hgo
      have HS := Lib.hid (H.out.trans hgo)
      clear H hgo hr b6 hcons hc60
      go_wp2_with fail
      refine (PKj _ (Pur.refl _)).mono ?_
      rintro e w4 ⟨rfl, hp4⟩
      go_wp2_with fail
      refine (ATi _ hp4).mono ?_
      rintro e w5 ⟨rfl, hp5⟩
      have P5 := hp4.trans hp5
      go_wp2_with fail
      refine (ATc _ P5).mono ?_
      rintro e w6 ⟨rfl, hp6⟩
      have P6 := P5.trans hp6
      go_wp2_with fail
      refine (ATd _ P6).mono ?_
      rintro e w7 ⟨rfl, hp7⟩
      have P7 := P6.trans hp7
      go_wp2_with fail
      refine (ATt _ P7).mono ?_
      rintro e w8 ⟨rfl, hp8⟩
      have P8 := P7.trans hp8
      go_wp2_with fail
      refine (ATm _ P8).mono ?_
      rintro e w9 ⟨rfl, hp9⟩
      have P9 := P8.trans hp9
      go_wp2_with fail
      refine (PKj _ P9).mono ?_
      rintro e w10 ⟨rfl, hp10⟩
      have P10 := P9.trans hp10
      go_wp2_with fail
      refine (CT _ P10).mono ?_
      intro e w11 hf
      simp only [Chunks] at hf
      obtain ⟨b, rfl, hf2⟩ := id hf
      go_wp2
      refine ⟨rfl, ?_⟩
      rw [HW.out, HS.out]
      exact ((k4.pur P10).flt hf).toP
    · have hlt : z.length < (cs.drop j).length := by
        rw [hcons] at hr ⊢
        exact chunk_lt hc60 hr
      rw [hr] at hgo CT
      simp only [and_ok] at hgo
      have HS := Lib.hid (H.out.trans hgo)
      clear H hgo hr b6 hcons hc60
      go_wp2_with fail
      refine (PKj _ (Pur.refl _)).mono ?_
      rintro e w4 ⟨rfl, hp4⟩
      go_wp2_with fail
      refine (ATi _ hp4).mono ?_
      rintro e w5 ⟨rfl, hp5⟩
      have P5 := hp4.trans hp5
      go_wp2_with fail
      refine (ATc _ P5).mono ?_
      rintro e w6 ⟨rfl, hp6⟩
      have P6 := P5.trans hp6
      go_wp2_with fail
      refine (ATd _ P6).mono ?_
      rintro e w7 ⟨rfl, hp7⟩
      have P7 := P6.trans hp7
      go_wp2_with fail
      refine (ATt _ P7).mono ?_
      rintro e w8 ⟨rfl, hp8⟩
      have P8 := P7.trans hp8
      go_wp2_with fail
      refine (ATm _ P8).mono ?_
      rintro e w9 ⟨rfl, hp9⟩
      have P9 := P8.trans hp9
      go_wp2_with fail
      refine (PKj _ P9).mono ?_
      rintro e w10 ⟨rfl, hp10⟩
      have P10 := P9.trans hp10
      go_wp2_with fail
      refine (CT _ P10).mono ?_
      rintro e w11 ⟨rfl, q11, j', e1, e2, e4, e5, h11, s11⟩
      simp only at h11 e1 e2 e4 e5
      rw [← e1, List.length_drop, List.length_drop] at hlt
      rw [← e1] at HS
      have S11 := (k4.pur P10).trans s11
      have e9 := h11.nat
      rw [s11.s, qs] at e9
      simp only at e9
      clear e1
      go_wp2
      go_roundw
      case rel => exact ⟨q11, j', f, _, _, s11.s.trans qs, by rw [sd_begin]; exact h11, S11, go_say G (by omega) e4 e5, by omega, HS⟩
      case measure => rw [e3, e9]; omega
end Tk
end Go.Proofs.YtigfcchblfnnbaaGreatDoor
