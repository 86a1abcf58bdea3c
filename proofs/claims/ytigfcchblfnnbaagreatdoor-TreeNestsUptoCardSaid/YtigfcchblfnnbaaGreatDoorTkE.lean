/- Layer 2: text between marks (chunk), and a comment. strings.EqualFold where the other text is ASCII, without k and s; unicode.SimpleFold at ASCII. Layer 2: an instruction. -/
import Derived.Test.YtigfcchblfnnbaaGreatDoorTk11
import Derived.Test.YtigfcchblfnnbaaGreatDoorTu
import Derived.Test.YtigfcchblfnnbaaGreatDoorTbE
import Derived.Lib.LaidTab
import Derived.Shelf.Unicode.PredsPay
import Derived.Laws.BitsAllLaws
import Derived.Laws.RangeAny
import Derived.WalkMore
import Derived.ScopeJumps
namespace Go.Proofs.YtigfcchblfnnbaaGreatDoor
open Go Go.RowKit
set_option linter.all false
namespace Tk
theorem IRead.one (w : World) (c : Nat) (y : Int) (hy : y = (c : Int)) (e : TypeId) (f : Nat × Nat) : IRead (w.alloc (.cells #[.int .i64 y] e f)) (.slice (some ⟨w.heap.size, 0, none⟩) 1 1) [c] := by
  subst hy
  refine ⟨_, 1, rfl, fun k hk => ⟨w.heap.size, 0, rfl, ?_, ?_⟩⟩
  · have : (w.alloc (.cells #[.int .i64 (c : Int)] e f)).heap.size = w.heap.size + 1 := Array.size_push _
    omega
  · have : k = 0 := by simp only [List.length_cons, List.length_nil] at hk; omega
    subst this
    rw [World.cell?_alloc_mark]
    rfl
/-- how 'chunk' ends -/
def Chunks (p : Pl) (d : Sd) (w : World) (r : R Cs) (e : Ending) (w' : World) : Prop := match r with
  | .ok (t, q) => e = .returned (.tuple #[]) ∧ ∃ p' j, d.cs.drop j = q ∧ d.i ≤ j ∧ j ≤ d.cs.length ∧ t.length + d.i ≤ j ∧ At w' p' { d with i := j, text := d.text ++ t, began := if d.text = [] then d.i else d.began } ∧ Step p w p' w'
  | .error (k, n) => Flt p.all w d.cs (d.cs.length - k) n e w'
theorem chunk_step {f : Nat} {xs z : Cs} {acc : Cs} {c : Nat} {r : R Cs} (h : r = (chunkGo (f + 1) xs).and fun a z => .ok (acc ++ a, z)) (g : chunkGo (f + 1) xs = (chunkGo f z).and fun a z => .ok (c :: a, z)) :
    r = (chunkGo f z).and fun a z => .ok ((acc ++ [c]) ++ a, z) := by
  rw [h, g]
  rcases chunkGo f z with x | ⟨x, q⟩
  · rfl
  · simp
set_option maxRecDepth 100000 in
set_option maxHeartbeats 16000000 in
theorem chunk_any {w : World} {p : Pl} {d : Sd} (h : At w p d) (hi : d.i ≤ d.cs.length) (hl : d.text.length ≤ 500000) : Calls Tryz.prog 54 #[.pointer (some ⟨p.s, 0, none⟩)] w fun e w' => Chunks p d w (chunk d.rest) e w' := by
  have hcl := h.clen
  have hrl := rest_len (d := d)
  obtain ⟨b0, hb0⟩ : ∃ b0, b0 = if d.text = [] then d.i else d.began := ⟨_, rfl⟩
  have BG := begin_any h
  rw [← hb0] at BG
  have HB := Lib.hid hb0
  clear hb0
  go_enter Tryz.func54, Tryz.ntmps54
  go_wp2_with fail
  refine BG.mono ?_
  rintro e w1 ⟨rfl, h1, g1⟩
  go_wp2
  go_loopw [4] (fun _ wr => ∃ (p' : Pl) (j f : Nat) (acc : Cs), p'.s = p.s ∧ d.i ≤ j ∧ j ≤ d.cs.length ∧ d.cs.length < j + f ∧ At wr p' { d with i := j, text := d.text ++ acc, began := b0 } ∧ Step p w p' wr ∧ acc.length + d.i ≤ j ∧ Hid (chunk d.rest = (chunkGo f (d.cs.drop j)).and fun a z => .ok (acc ++ a, z))) (fun _ wr => d.cs.length + 1 - natAt wr ⟨p.s, 1, none⟩)
  case atStart => exact ⟨p, d.i, d.rest.length + 1, [], rfl, by omega, hi, by omega, by rw [List.append_nil]; exact h1, Step.chg1 g1, by simp, Lib.hid (by unfold chunk Sd.rest; rcases chunkGo ((d.cs.drop d.i).length + 1) (d.cs.drop d.i) with x | ⟨x, z⟩ <;> rfl)⟩
  case round =>
    obtain ⟨p', j, f, acc, ps, j1, j2, j3, k3, k4, hal, H⟩ := hrel
    obtain ⟨f, rfl⟩ : ∃ g, f = g + 1 := ⟨f - 1, by omega⟩
    have e3 := k3.nat
    have PKj : ∀ w', Pur wr w' → Calls Tryz.prog 45 #[.pointer (some ⟨p.s, 0, none⟩)] w' fun e w'' => e = .returned (.int .i64 (pk (d.cs.drop j))) ∧ Pur w' w'' := fun w' hp => ps ▸ peek_any (k3.pur hp)
    have ATj : ∀ w', Pur wr w' → Calls Tryz.prog 46 #[.pointer (some ⟨p.s, 0, none⟩), .string ⟨#[93, 93, 62]⟩] w' fun e w'' => e = .returned (.bool (pre [93, 93, 62] (d.cs.drop j))) ∧ Pur w' w'' := fun w' hp => ps ▸ at_any (k3.pur hp) [93, 93, 62] j2 (by decide)
    obtain ⟨x0, x1⟩ := pk_bd k3 j
    rw [ps] at e3
    simp only at x0 x1 e3
    obtain ⟨x, hpk⟩ : ∃ x, pk (d.cs.drop j) = x := ⟨_, rfl⟩
    rw [hpk] at PKj x0 x1
    have w1 : IntKind.i64.wrap ((j : Int) + 1) = (j : Int) + 1 := IntWalk.i64_in _ (by omega)
    clear BG h1 g1
    by_cases hend : x = 60 ∨ x = -1
    · have HS := Lib.hid (show chunk d.rest = .ok (acc, d.cs.drop j) by
        rw [H.out]
        cases hd : d.cs.drop j with
        | nil => rw [chunkGo]; simp
        | cons c q =>
          rw [hd] at hpk
          simp only [pk] at hpk
          rw [chunkGo, if_pos (by omega)]
          simp)
      obtain ⟨b1, hb1⟩ : ∃ b, (x != 60) = b := ⟨_, rfl⟩
      obtain ⟨b2, hb2⟩ : ∃ b, (x != -1) = b := ⟨_, rfl⟩
      have hbb : (b1 && b2) = false := by
        rw [← hb1, ← hb2]
        rcases hend with rfl | rfl <;> rfl
      clear H hpk hend ATj
      rcases b1 with _ | _ <;> rcases b2 with _ | _ <;> (try (exfalso; simp at hbb; done))
      · go_wp2_with fail
        refine (PKj _ (Pur.refl _)).mono ?_
        rintro e w4 ⟨rfl, hp4⟩
        go_wp2
        refine bodyPost_end (results_none rfl _ _ _) rfl ?_
        rw [HS.out]
        exact ⟨rfl, p', j, rfl, j1, j2, hal, HB.out ▸ k3.pur hp4, k4.pur hp4⟩
      · go_wp2_with fail
        refine (PKj _ (Pur.refl _)).mono ?_
        rintro e w4 ⟨rfl, hp4⟩
        go_wp2
        refine bodyPost_end (results_none rfl _ _ _) rfl ?_
        rw [HS.out]
        exact ⟨rfl, p', j, rfl, j1, j2, hal, HB.out ▸ k3.pur hp4, k4.pur hp4⟩
      · go_wp2_with fail
        refine (PKj _ (Pur.refl _)).mono ?_
        rintro e w4 ⟨rfl, hp4⟩
        go_wp2_with fail
        refine (PKj _ hp4).mono ?_
        rintro e w5 ⟨rfl, hp5⟩
        go_wp2
        refine bodyPost_end (results_none rfl _ _ _) rfl ?_
        rw [HS.out]
        exact ⟨rfl, p', j, rfl, j1, j2, hal, HB.out ▸ k3.pur (hp4.trans hp5), k4.pur (hp4.trans hp5)⟩
    have hj : j < d.cs.length := by
      rcases Nat.lt_or_ge j d.cs.length with g | g
      · exact g
      · rw [List.drop_of_length_le g] at hpk; simp only [pk] at hpk; omega
    have hcons := drop_cons d.cs j hj
    have hxc : x = (d.cs.getD j 0 : Nat) := by rw [hcons] at hpk; exact hpk.symm
    have hokx : okc (d.cs.getD j 0) := by rw [List.getD_eq_getElem?_getD, List.getElem?_eq_getElem hj]; exact allowed_okc (h.okcs _ (List.getElem_mem hj))
    have d3 : (x != 60) = true := by simp; omega
    have d4 : (x != -1) = true := by simp; omega
    obtain ⟨bp, hbp⟩ : ∃ b, pre [93, 93, 62] (d.cs.drop j) = b := ⟨_, rfl⟩
    rw [hbp] at ATj
    rcases bp with _ | _
    rotate_left
    · -- a fault
      have HS := Lib.hid (show chunk d.rest = .error (d.cs.length - j, 21) by
        have hl2 : (d.cs.drop j).length = d.cs.length - j := List.length_drop
        rw [H.out]
        rw [hcons] at hbp hl2 ⊢
        rw [chunkGo, if_neg (by omega), if_pos hbp, hl2]; rfl)
      clear H hpk hcons hxc hokx hbp
      go_wp2_with fail
      refine (PKj _ (Pur.refl _)).mono ?_
      rintro e w4 ⟨rfl, hp4⟩
      go_wp2_with fail
      refine (PKj _ hp4).mono ?_
      rintro e w5 ⟨rfl, hp5⟩
      go_wp2_with fail
      refine (ATj _ (hp4.trans hp5)).mono ?_
      rintro e w6 ⟨rfl, hp6⟩
      have P6 := (hp4.trans hp5).trans hp6
      have k6 := k3.pur P6
      have c1 := k6.c1
      have FL := fail_any k6 [p'.s] j 21 (by omega)
      rw [ps] at c1 FL
      simp only at c1
      go_wp2_with fail
      refine FL.mono ?_
      intro e w7 hf
      obtain ⟨b, rfl, hf2⟩ := id hf
      go_wp2
      refine ⟨rfl, ?_⟩
      rw [HS.out]
      simp only [Chunks]
      rw [show d.cs.length - (d.cs.length - j) = j by omega]
      exact (k4.pur P6).flt1 (by rw [ps]; exact hf)
    by_cases hx3 : x = 38
    · -- a reference
      subst hx3
      have RF : ∀ w', (hp : Pur wr w') → _ := fun w' hp => reference_any (k3.pur hp) j2
      simp only [Sd.rest] at RF
      rw [ps] at RF
      have HV : chunkGo (f + 1) (d.cs.drop j) = (reference (d.cs.drop j)).and fun v q => (chunkGo f q).and fun a z => .ok (v :: a, z) := by
        rw [hcons] at hbp ⊢
        rw [chunkGo, if_neg (by omega), if_neg (by rw [hbp]; simp), if_pos (by omega)]
      have d5 : ((38 : Int) == 38) = true := rfl
      clear hcons hxc hokx hpk hbp
      rcases hrf : reference (d.cs.drop j) with ⟨k, n⟩ | ⟨v, q⟩
      · have HS := Lib.hid (show chunk d.rest = .error (k, n) by rw [H.out, HV, hrf]; rfl)
        rw [hrf] at RF
        clear H HV
        go_wp2_with fail
        refine (PKj _ (Pur.refl _)).mono ?_
        rintro e w4 ⟨rfl, hp4⟩
        go_wp2_with fail
        refine (PKj _ hp4).mono ?_
        rintro e w5 ⟨rfl, hp5⟩
        go_wp2_with fail
        refine (ATj _ (hp4.trans hp5)).mono ?_
        rintro e w6 ⟨rfl, hp6⟩
        have P6 := (hp4.trans hp5).trans hp6
        go_wp2_with fail
        refine (PKj _ P6).mono ?_
        rintro e w7 ⟨rfl, hp7⟩
        have P7 := P6.trans hp7
        go_wp2_with fail
        refine (RF _ P7).mono ?_
        intro e w8 hf
        obtain ⟨b, rfl, hf2⟩ := id hf
        go_wp2
        refine ⟨rfl, ?_⟩
        rw [HS.out]
        exact (k4.pur P7).flt1 hf
      · obtain ⟨hov, hqq⟩ := ref_ok hrf
        have HS := Lib.hid (chunk_step (c := v) (z := q) H.out (by rw [HV, hrf]; rfl))
        rw [hrf] at RF
        clear H HV hrf
        go_wp2_with fail
        refine (PKj _ (Pur.refl _)).mono ?_
        rintro e w4 ⟨rfl, hp4⟩
        go_wp2_with fail
        refine (PKj _ hp4).mono ?_
        rintro e w5 ⟨rfl, hp5⟩
        go_wp2_with fail
        refine (ATj _ (hp4.trans hp5)).mono ?_
        rintro e w6 ⟨rfl, hp6⟩
        have P6 := (hp4.trans hp5).trans hp6
        go_wp2_with fail
        refine (PKj _ P6).mono ?_
        rintro e w7 ⟨rfl, hp7⟩
        have P7 := P6.trans hp7
        go_wp2_with fail
        refine (RF _ P7).mono ?_
        rintro e w8 ⟨rfl, j', e1, e2, e4, h8, g8⟩
        simp only at h8 e1 e2 e4
        have hj' : j < j' := by
          have : (d.cs.drop j').length < (d.cs.drop j).length := by rw [e1]; exact hqq
          rw [List.length_drop, List.length_drop] at this
          omega
        replace e1 := Lib.hid e1
        have S8 := (k4.pur P7).trans (Step.chg1 g8)
        have SY := say_any (h8.pur ((Pur.refl w8).alloc (.cells #[.int .i64 (v : Int)] 3))) (.slice (some ⟨w8.heap.size, 0, none⟩) 1 1) [v] (IRead.one w8 v _ rfl _ _) (by simpa using hov) (by simp only [List.length_append]; omega) (by simp)
        rw [ps] at SY
        go_wp2_with fail
        refine SY.mono ?_
        rintro e w9 ⟨rfl, p9, h9, s9⟩
        have S9 := (S8.pur ((Pur.refl w8).alloc (.cells #[.int .i64 (v : Int)] 3))).trans s9
        have e9 := h9.nat
        have ps9 : p9.s = p.s := s9.s.trans ps
        rw [ps9] at e9
        simp only at e9
        go_wp2
        go_roundw
        case rel => exact ⟨p9, j', f, acc ++ [v], ps9, by omega, e4, by omega, by rw [← List.append_assoc]; exact h9, S9, by simp; omega, e1.out ▸ HS⟩
        case measure => rw [e3, e9]; omega
    · have d5 : (x == 38) = false := by simpa using hx3
      have HS := Lib.hid (chunk_step (c := d.cs.getD j 0) (z := d.cs.drop (j + 1)) H.out (by rw [hcons] at hbp ⊢; rw [chunkGo, if_neg (by omega), if_neg (by rw [hbp]; simp), if_neg (by omega)]))
      clear H hcons hpk hbp hx3
      obtain ⟨c, hc⟩ : ∃ c, c = d.cs.getD j 0 := ⟨_, rfl⟩
      rw [← hc] at hxc hokx HS
      clear hc
      subst hxc
      go_wp2_with fail
      refine (PKj _ (Pur.refl _)).mono ?_
      rintro e w4 ⟨rfl, hp4⟩
      go_wp2_with fail
      refine (PKj _ hp4).mono ?_
      rintro e w5 ⟨rfl, hp5⟩
      go_wp2_with fail
      refine (ATj _ (hp4.trans hp5)).mono ?_
      rintro e w6 ⟨rfl, hp6⟩
      have P6 := (hp4.trans hp5).trans hp6
      go_wp2_with fail
      refine (PKj _ P6).mono ?_
      rintro e w7 ⟨rfl, hp7⟩
      have P7 := P6.trans hp7
      go_wp2_with fail
      refine (PKj _ P7).mono ?_
      rintro e w8 ⟨rfl, hp8⟩
      have P8 := P7.trans hp8
      have h8 := k3.pur P8
      have SY := say_any (h8.pur ((Pur.refl w8).alloc (.cells #[.int .i64 (c : Int)] 3))) (.slice (some ⟨w8.heap.size, 0, none⟩) 1 1) [c] (IRead.one w8 c _ rfl _ _) (by simpa using hokx) (by simp only [List.length_append]; omega) (by simp)
      rw [ps] at SY
      go_wp2_with fail
      refine SY.mono ?_
      rintro e w9 ⟨rfl, p9, h9, s9⟩
      have S9 := ((k4.pur P8).pur ((Pur.refl w8).alloc (.cells #[.int .i64 (c : Int)] 3))).trans s9
      have ps9 : p9.s = p.s := s9.s.trans ps
      have c1 := h9.c1
      have f1 := h9.f 1
      have h10 := h9.seti (j + 1) ((j : Int) + 1) (by omega)
      have g10 : Chg [p9.s] w9 (w9.setCell ⟨p9.s, 1, none⟩ (.int .i64 ((j : Int) + 1))) := (Chg.refl _ _).setCell (.inl (by simp)) _
      have S10 := S9.trans (Step.chg1 g10)
      have e10 := h10.nat
      rw [ps9] at c1 f1 e10 h10 S10
      simp only at c1 e10
      go_wp2
      go_roundw
      case rel => exact ⟨p9, j + 1, f, acc ++ [c], ps9, by omega, by omega, by omega, by rw [← List.append_assoc]; exact h10, S10, by simp; omega, HS⟩
      case measure => rw [e3, e10]; omega
/-- what comes of the search for two hyphens -/
def cEnd (r : R Cs) : R Unit := r.and fun _ q => match q with
    | [] => .error (0, 21)
    | c :: z => if c = 62 then .ok ((), z) else .error (q.length + 2, 21)
theorem cEnd_cons (x : Nat) (r : R Cs) : cEnd (r.and fun a q => .ok (x :: a, q)) = cEnd r := by
  rcases r with e | ⟨a, q⟩ <;> rfl
set_option maxRecDepth 100000 in
set_option maxHeartbeats 4000000 in
theorem comment_any {w : World} {p : Pl} {d : Sd} (h : At w p d) (hi : d.i + 4 ≤ d.cs.length) : Calls Tryz.prog 48 #[.pointer (some ⟨p.s, 0, none⟩)] w fun e w' => Gives p d w (comment d.rest) (fun _ => .tuple #[]) e w' := by
  have hcl := h.clen
  have c1 := h.c1
  have f1 := h.f 1
  have ws : IntKind.i64.wrap ((d.i : Int) + 4) = (d.i : Int) + 4 := IntWalk.i64_in _ (by omega)
  have h0 := h.seti (d.i + 4) ((d.i : Int) + 4) (by omega)
  have HC := Lib.hid (show comment d.rest = cEnd (untilT [45, 45] (d.cs.drop (d.i + 4))) by
    unfold comment cEnd Sd.rest
    rw [List.drop_drop]
    rcases untilT [45, 45] (d.cs.drop (d.i + 4)) with e | ⟨a, q⟩
    · rfl
    · cases q <;> rfl)
  obtain ⟨ca, cc, hcv, -, hcc, -⟩ := h.cshape
  go_enter Tryz.func48, Tryz.ntmps48
  go_wp2
  go_loopw [9] (fun _ wr => ∃ j, d.i ≤ j ∧ j ≤ d.cs.length ∧ At wr p { d with i := j } ∧ Chg [p.s] w wr ∧ Hid (comment d.rest = cEnd (untilT [45, 45] (d.cs.drop j)))) (fun _ wr => d.cs.length + 1 - natAt wr ⟨p.s, 1, none⟩)
  case atStart => exact ⟨d.i + 4, by omega, by omega, h0, (Chg.refl _ _).setCell (.inl (by simp)) _, HC⟩
  case round =>
    obtain ⟨j, j1, j2, h3, h4, H⟩ := hrel
    have e3 := h3.nat
    have AT := at_any h3 [45, 45] j2 (by decide)
    have en : nats [45, 45] = [45, 45] := rfl
    rw [en] at AT
    simp only [Sd.rest] at AT
    clear HC h0
    rcases hp : pre [45, 45] (d.cs.drop j) with _ | _
    · rw [hp] at AT
      by_cases hj : j < d.cs.length
      · have hcons := drop_cons d.cs j hj
        have HS := Lib.hid (show comment d.rest = cEnd (untilT [45, 45] (d.cs.drop (j + 1))) by
          rw [H.out]
          rw [hcons] at hp ⊢
          rw [untilT, if_neg (by rw [hp]; simp), cEnd_cons])
        have hpk : (pk (d.cs.drop j) == -1) = false := by rw [hcons]; simp [pk]
        have w1 : IntKind.i64.wrap ((j : Int) + 1) = (j : Int) + 1 := IntWalk.i64_in _ (by omega)
        clear hcons H hp
        go_wp2_with fail
        refine AT.mono ?_
        rintro e w4 ⟨rfl, hp4⟩
        have k4 := h3.pur hp4
        have PK := peek_any k4
        simp only [Sd.rest] at PK
        go_wp2_with fail
        refine PK.mono ?_
        rintro e w5 ⟨rfl, hp5⟩
        have k5 := k4.pur hp5
        have c1 := k5.c1
        have f1 := k5.f 1
        have k6 := k5.seti (j + 1) ((j : Int) + 1) (by omega)
        have e6 := k6.nat
        simp only at c1 e3 e6
        clear PK AT
        go_wp2
        go_roundw
        case rel => exact ⟨j + 1, by omega, by omega, k6, ((h4.pur hp4).pur hp5).setCell (.inl (by simp)) _, HS⟩
        case measure => rw [e3, e6]; omega
      · have hx : d.cs.drop j = [] := List.drop_of_length_le (by omega)
        have HS := Lib.hid (show comment d.rest = .error (0, 21) by rw [H.out, hx]; rfl)
        have hpk : (pk (d.cs.drop j) == -1) = true := by rw [hx]; rfl
        clear hx H hp
        go_wp2_with fail
        refine AT.mono ?_
        rintro e w4 ⟨rfl, hp4⟩
        have k4 := h3.pur hp4
        have PK := peek_any k4
        simp only [Sd.rest] at PK
        go_wp2_with fail
        refine PK.mono ?_
        rintro e w5 ⟨rfl, hp5⟩
        have k5 := k4.pur hp5
        have c1 := k5.c1
        simp only at c1
        go_wp2_with fail
        refine (fail_any k5 [p.s] j 21 (by omega)).mono ?_
        intro e w6 hf
        obtain ⟨b, rfl, hf2⟩ := id hf
        go_wp2
        refine ⟨rfl, ?_⟩
        rw [HS.out]
        simp only [Gives]
        rw [show d.cs.length - 0 = j by omega]
        exact Flt.after ((h4.pur hp4).pur hp5) hf
    · rw [hp] at AT
      have hlen := pre_len hp
      rw [List.length_drop] at hlen
      simp only [List.length_cons, List.length_nil] at hlen
      have hcons := drop_cons d.cs j (by omega)
      have hq : untilT [45, 45] (d.cs.drop j) = .ok ([], d.cs.drop (j + 2)) := by
        have hd2 : d.cs.drop (j + 2) = (d.cs.getD j 0 :: d.cs.drop (j + 1)).drop 2 := by rw [← hcons, List.drop_drop]
        rw [hd2]
        rw [hcons] at hp ⊢
        rw [untilT, if_pos hp]
        rfl
      have hp3 : pre [45, 45, 62] (d.cs.drop j) = hd (fun c => c == 62) (d.cs.drop (j + 2)) := by
        have hs2 : d.cs.drop j = [45, 45] ++ d.cs.drop (j + 2) := by
          have e1 : (d.cs.drop j).take 2 = [45, 45] := by simpa [pre] using hp
          have e2 := (List.take_append_drop 2 (d.cs.drop j)).symm
          rw [e1, List.drop_drop] at e2
          exact e2
        rw [hs2]
        cases d.cs.drop (j + 2) with
        | nil => rfl
        | cons c z => by_cases hc : c = 62 <;> simp [pre, hd, hc]
      have hlz : (d.cs.drop (j + 2)).length = d.cs.length - (j + 2) := List.length_drop
      have AT3 : ∀ w', Pur wr w' → Calls Tryz.prog 46 #[.pointer (some ⟨p.s, 0, none⟩), .string ⟨#[45, 45, 62]⟩] w' fun e w'' => e = .returned (.bool (pre [45, 45, 62] (d.cs.drop j))) ∧ Pur w' w'' := fun w' hp => at_any (h3.pur hp) [45, 45, 62] j2 (by decide)
      have C0 : ∀ w', Pur wr w' → w'.cell? ⟨p.s, 0, none⟩ = some (.slice ca d.cs.length cc) := fun w' hp => hcv ▸ (h3.pur hp).c0
      have C1 : ∀ w', Pur wr w' → w'.cell? ⟨p.s, 1, none⟩ = some (.int .i64 (j : Int)) := fun w' hp => (h3.pur hp).c1
      have ws3 : IntKind.i64.wrap ((j : Int) + 3) = (j : Int) + 3 := IntWalk.i64_in _ (by omega)
      have ws2 : IntKind.i64.wrap ((j : Int) + 2) = (j : Int) + 2 := IntWalk.i64_in _ (by omega)
      rw [hp3] at AT3
      rcases hc : d.cs.drop (j + 2) with _ | ⟨c, z⟩
      · rw [hc] at AT3 hlz hq
        have HS := Lib.hid (show comment d.rest = .error (0, 21) by rw [H.out, hq]; rfl)
        have hjl : j + 2 = d.cs.length := by simp only [List.length_nil] at hlz; omega
        have dd : decide ((d.cs.length : Int) ≤ (j : Int) + 2) = true := by simp; omega
        simp only [hd] at AT3
        clear H hq hp hp3 hcons hc hlz
        go_wp2_with fail
        refine AT.mono ?_
        rintro e w4 ⟨rfl, hp4⟩
        go_wp2_with fail
        refine (AT3 _ hp4).mono ?_
        rintro e w5 ⟨rfl, hp5⟩
        have P5 := hp4.trans hp5
        have c0 := C0 _ P5
        have c1 := C1 _ P5
        go_wp2
        go_region
        have P6 := P5.trans ((Pur.refl w5).drew)
        have c1 := C1 _ P6
        have k6 := h3.pur P6
        have f1 := k6.f 1
        have k7 := k6.seti (j + 2) ((j : Int) + 2) (by omega)
        have c7 := k7.c1
        have g7 : Chg [p.s] w (w5.drew.setCell ⟨p.s, 1, none⟩ (.int .i64 ((j : Int) + 2))) := (h4.pur P6).setCell (.inl (by simp)) _
        have FL := fail_any k7 [p.s] (j + 2) 21 (by omega)
        have ej : ((j + 2 : Nat) : Int) = (j : Int) + 2 := by omega
        simp only at c7
        rw [ej] at c7 FL
        go_wp2_with fail
        refine FL.mono ?_
        intro e w8 hf
        obtain ⟨b, rfl, hf2⟩ := id hf
        go_wp2
        refine ⟨rfl, ?_⟩
        rw [HS.out]
        simp only [Gives]
        rw [show d.cs.length - 0 = j + 2 by omega]
        exact Flt.after g7 hf
      · rw [hc] at AT3 hlz hq
        by_cases h62 : c = 62
        · subst h62
          have HS := Lib.hid (show comment d.rest = .ok ((), d.cs.drop (j + 3)) by
            rw [H.out, hq]
            simp only [cEnd, and_ok, if_true]
            have : d.cs.drop (j + 3) = (d.cs.drop (j + 2)).drop 1 := by rw [List.drop_drop]
            rw [this, hc]
            rfl)
          simp only [hd, beq_self_eq_true] at AT3
          have hjl : j + 3 ≤ d.cs.length := by simp only [List.length_cons] at hlz; omega
          clear H hq hp hp3 hcons hc hlz
          go_wp2_with fail
          refine AT.mono ?_
          rintro e w4 ⟨rfl, hp4⟩
          go_wp2_with fail
          refine (AT3 _ hp4).mono ?_
          rintro e w5 ⟨rfl, hp5⟩
          have P5 := hp4.trans hp5
          have c1 := C1 _ P5
          have k6 := h3.pur P5
          have f1 := k6.f 1
          have k7 := k6.seti (j + 3) ((j : Int) + 3) (by omega)
          go_wp2
          refine bodyPost_end (results_none rfl _ _ _) rfl ?_
          rw [HS.out]
          exact ⟨rfl, j + 3, rfl, by omega, by omega, k7, (h4.pur P5).setCell (.inl (by simp)) _⟩
        · have HS := Lib.hid (show comment d.rest = .error ((c :: z).length + 2, 21) by
            rw [H.out, hq]
            simp only [cEnd, and_ok]
            rw [if_neg h62])
          have hb : hd (fun c => c == 62) (c :: z) = false := by simp [hd, h62]
          rw [hb] at AT3
          have dd : decide ((d.cs.length : Int) ≤ (j : Int) + 2) = false := by simp only [List.length_cons] at hlz; simp; omega
          have hfin : d.cs.length - ((c :: z).length + 2) = j := by simp only [List.length_cons] at hlz ⊢; omega
          have hlz2 : j + 2 < d.cs.length := by simp only [List.length_cons] at hlz; omega
          clear H hq hp hp3 hcons hc hlz hb
          go_wp2_with fail
          refine AT.mono ?_
          rintro e w4 ⟨rfl, hp4⟩
          go_wp2_with fail
          refine (AT3 _ hp4).mono ?_
          rintro e w5 ⟨rfl, hp5⟩
          have P5 := hp4.trans hp5
          have c0 := C0 _ P5
          have c1 := C1 _ P5
          go_wp2
          go_region
          have P6 := P5.trans ((Pur.refl w5).drew)
          have c1 := C1 _ P6
          have k6 := h3.pur P6
          go_wp2_with fail
          refine (fail_any k6 [p.s] j 21 (by omega)).mono ?_
          intro e w8 hf
          obtain ⟨b, rfl, hf2⟩ := id hf
          go_wp2
          refine ⟨rfl, ?_⟩
          rw [HS.out]
          simp only [Gives]
          rw [hfin]
          exact Flt.after (h4.pur P6) hf
end Tk
end Go.Proofs.YtigfcchblfnnbaaGreatDoor
namespace Go.Proofs.YtigfcchblfnnbaaGreatDoor
open Go Go.RowKit
set_option linter.all false
namespace Tk
/-- unicode.asciiFold -/
def foldTab : List Int := (List.range 128).map fun (i : Nat) => if 65 ≤ i ∧ i ≤ 90 then (i : Int) + 32 else if i = 107 then 8490 else if i = 115 then 383 else if 97 ≤ i ∧ i ≤ 122 then (i : Int) - 32 else (i : Int)
theorem foldTab_len : foldTab.length = 128 := by simp [foldTab]
def FoldW (w : World) : Prop := Lib.TabIs Tryz.prog w "unicode.asciiFold" .u16 foldTab
theorem FoldW.pur {w w' : World} (h : FoldW w) (hp : Pur w w') : FoldW w' := TabIs_below (g := 3) (by kernel_rfl) h hp
/-- the other case, of what is neither k nor s -/
def other (y : Nat) : Nat := if 65 ≤ y ∧ y ≤ 90 then y + 32 else if 97 ≤ y ∧ y ≤ 122 then y - 32 else y
def plainF (y : Nat) : Prop := y < 128 ∧ y ≠ 107 ∧ y ≠ 115 ∧ y ≠ 75 ∧ y ≠ 83
theorem foldTab_at : ∀ y, y < 128 → y ≠ 107 → y ≠ 115 → foldTab.getD y 0 = (other y : Nat) := by decide +kernel
theorem other_plain {y : Nat} (h : plainF y) : plainF (other y) ∧ other (other y) = y := by
  unfold plainF other at *
  refine ⟨⟨?_, ?_, ?_, ?_, ?_⟩, ?_⟩ <;> repeat (first | split | omega)
set_option maxRecDepth 100000 in
theorem fold_any (y : Nat) (w : World) (hF : FoldW w) (hy : plainF y) : Calls Tryz.prog 108 #[.int .i32 (y : Int)] w fun e w' => e = .returned (.int .i32 ((other y : Nat) : Int)) ∧ w = w' := by
  have hy' := hy
  unfold plainF at hy'
  have hc := hF.cell (g := 3) (by kernel_rfl) y (by rw [foldTab_len]; exact hy'.1)
  rw [foldTab_at y hy'.1 hy'.2.1 hy'.2.2.1] at hc
  have ho := (other_plain hy).1.1
  generalize other y = z at *
  have w1 : IntKind.i64.wrap (y : Int) = (y : Int) := IntWalk.i64_in _ (by omega)
  have w2 : IntKind.i32.wrap (z : Int) = (z : Int) := IntWalk.i32_in _ (by omega)
  have d1 : decide ((y : Int) < 0) = false := by simp
  have d2 : decide ((1114111 : Int) < (y : Int)) = false := by simp; omega
  have d3 : decide ((y : Int) < 128) = true := by simp; omega
  have b1 : (0 : Int) ≤ (y : Int) := by omega
  have b2 : (y : Int) < 128 := by omega
  have b3 : y < 128 := hy'.1
  clear hF hy hy'
  go_enter Tryz.func108, Tryz.ntmps108
  go_wp2
  go_ret
  exact ⟨rfl, rfl⟩
def smallB (b : Nat) : Nat := if 65 ≤ b ∧ b ≤ 90 then b + 32 else b
def foldEq (s t : List UInt8) : Bool := decide (s.map (fun b => smallB b.toNat) = t.map (fun b => smallB b.toNat))
theorem foldEq_nil (t : List UInt8) : foldEq [] t = decide (t.length = 0) := by cases t <;> simp [foldEq]
theorem foldEq_nil' (s : List UInt8) : foldEq s [] = decide (s.length = 0) := by cases s <;> simp [foldEq]
theorem foldEq_cons (a b : UInt8) (s t : List UInt8) : foldEq (a :: s) (b :: t) = (decide (smallB a.toNat = smallB b.toNat) && foldEq s t) := by
  simp [foldEq, Bool.decide_and]
theorem drop_by8 (s : List UInt8) (i : Nat) (h : i < s.length) : ∃ a : UInt8, a.toNat = by8 s i ∧ s.drop i = a :: s.drop (i + 1) := by
  refine ⟨s[i], ?_, List.drop_eq_getElem_cons h⟩
  unfold by8; simp [List.getD_eq_getElem?_getD, List.getElem?_eq_getElem h]
theorem foldEq_at (s t : List UInt8) (i : Nat) (hs : i < s.length) (ht : i < t.length) : foldEq (s.drop i) (t.drop i) = (decide (smallB (by8 s i) = smallB (by8 t i)) && foldEq (s.drop (i + 1)) (t.drop (i + 1))) := by
  obtain ⟨a, ha, e1⟩ := drop_by8 s i hs
  obtain ⟨b, hb, e2⟩ := drop_by8 t i ht
  rw [e1, e2, foldEq_cons, ha, hb]
theorem decode_hi (l : List UInt8) (h : 0 < l.length) (hx : 128 ≤ by8 l 0) : 128 ≤ (Utf8.decode ⟨l.toArray⟩ 0).1 ∧ (Utf8.decode ⟨l.toArray⟩ 0).1 ≤ 1114111 := by
  have hd := chr_decode l 0 h
  rw [sub_all l (Nat.le_refl _)] at hd
  have hp := decode_pos ⟨l.toArray⟩ 0
  by_cases h1 : Utf8.decode ⟨l.toArray⟩ 0 = (65533, 1)
  · rw [h1]; decide
  · rw [if_neg h1] at hd
    have hN : ∀ n c low, 128 ≤ low → (chrN l 0 n c low).2 ≠ 0 → 128 ≤ (chrN l 0 n c low).1 := fun n c low hl hn => by
      unfold chrN at hn ⊢
      split
      · rename_i hh; have := hh.2.2.1; simp only; omega
      · rename_i hh; rw [if_neg hh] at hn; exact absurd rfl hn
    rw [hd] at hp ⊢
    refine ⟨?_, (chr_bd l 0).1⟩
    have e : chr l 0 = if 192 ≤ by8 l 0 ∧ by8 l 0 < 224 then chrN l 0 2 (by8 l 0 - 192) 128 else if 224 ≤ by8 l 0 ∧ by8 l 0 < 240 then chrN l 0 3 (by8 l 0 - 224) 2048 else if 240 ≤ by8 l 0 ∧ by8 l 0 < 248 then chrN l 0 4 (by8 l 0 - 240) 65536 else (0, 0) := by
      unfold chr
      rw [if_neg (by omega), if_neg (by omega)]
    rw [e] at hp ⊢
    by_cases c1 : 192 ≤ by8 l 0 ∧ by8 l 0 < 224
    · rw [if_pos c1] at hp ⊢; exact hN _ _ _ (by omega) (by omega)
    rw [if_neg c1] at hp ⊢
    by_cases c2 : 224 ≤ by8 l 0 ∧ by8 l 0 < 240
    · rw [if_pos c2] at hp ⊢; exact hN _ _ _ (by omega) (by omega)
    rw [if_neg c2] at hp ⊢
    by_cases c3 : 240 ≤ by8 l 0 ∧ by8 l 0 < 248
    · rw [if_pos c3] at hp ⊢; exact hN _ _ _ (by omega) (by omega)
    rw [if_neg c3] at hp
    simp at hp
/-- what stands at the jump -/
def EqJ (s t : List UInt8) (w : World) (a' : Act) (w' : World) : Prop := w' = w ∧ ∃ (i : Nat) (u4 u6 u7 u8 u14 u15 u16 u17 u18 u19 u20 u21 u22 u23 u24 u25 u26 u27 u28 u29 u30 u31 u32 u33 u34 u35 u36 u37 u38 u39 u40 u41 u42 u43 u44 u45 u46 u47 u48 u49 u50 u51 u52 u53 u54 : Value), i < s.length ∧ i < t.length ∧ 128 ≤ by8 s i ∧ foldEq s t = foldEq (s.drop i) (t.drop i) ∧ a' = { tmps := #[.string ⟨s.toArray⟩, .string ⟨t.toArray⟩, undef, undef, u4, .int .i64 (i : Int), u6, u7, u8, undef, undef, undef, undef, undef, u14, u15, u16, u17, u18, u19, u20, u21, u22, u23, u24, u25, u26, u27, u28, u29, u30, u31, u32, u33, u34, u35, u36, u37, u38, u39, u40, u41, u42, u43, u44, u45, u46, u47, u48, u49, u50, u51, u52, u53, u54, undef, undef, undef, undef, undef, undef, undef, undef, undef, undef, undef, undef, undef, undef, undef, undef, undef, undef, undef, undef, undef, undef, undef, undef, undef, undef, undef, undef, undef, undef, undef, undef, undef, undef, undef, undef, undef, undef, undef, undef, undef, undef, undef, undef, undef, undef, undef, undef, undef, undef, undef, undef, undef, undef, undef, undef, undef, undef, undef, undef, undef, undef, undef, undef, undef, undef, undef, undef], defers := [] }
set_option maxRecDepth 100000 in
set_option maxHeartbeats 16000000 in
theorem fold_text (s t : List UInt8) (w : World) (hF : FoldW w) (ht : ∀ b ∈ t, plainF b.toNat) (hs : s.length ≤ 1000000) (hl : t.length ≤ 1000) :
    Calls Tryz.prog 80 #[.string ⟨s.toArray⟩, .string ⟨t.toArray⟩] w fun e w' => e = .returned (.bool (foldEq s t)) ∧ Pur w w' := by
  obtain ⟨n, hn⟩ : ∃ n, min s.length t.length = n := ⟨_, rfl⟩
  have hn2 : min (s.length : Int) (t.length : Int) = (n : Int) := by omega
  go_enter Tryz.func80, Tryz.ntmps80
  go_wp2
  refine wp_scope_jumps 0 (EqJ s t w) (fun _ _ => 0) rfl ?_ ?_
  · go_wp2
    go_loopw [5] (fun v wr => wr = w ∧ ∃ i : Nat, v = .int .i64 i ∧ i ≤ n ∧ Hid (foldEq s t = foldEq (s.drop i) (t.drop i))) (fun v _ => n + 1 - (intOf v).toNat)
    case atStart => exact ⟨rfl, 0, rfl, by omega, Lib.hid rfl⟩
    case round =>
      obtain ⟨rfl, i, rfl, hin, H⟩ := hrel
      by_cases hlt : i < n
      · have hlt' : (i : Int) < (n : Int) := by omega
        have hsl : i < s.length := by omega
        have htl : i < t.length := by omega
        have hsl' : (i : Int) < (s.length : Int) := by omega
        have htl' : (i : Int) < (t.length : Int) := by omega
        have hstep := foldEq_at s t i hsl htl
        have hx := by8_lt s i
        have hy : plainF (by8 t i) := by
          obtain ⟨b, hb, e⟩ := drop_by8 t i htl
          rw [← hb]
          exact ht b (List.mem_of_mem_drop (show b ∈ t.drop i by rw [e]; simp))
        have HB := Lib.hid (show by8 s i = by8 s i from rfl)
        obtain ⟨x, hxx⟩ : ∃ x, by8 s i = x := ⟨_, rfl⟩
        obtain ⟨y, hyy⟩ : ∃ y, by8 t i = y := ⟨_, rfl⟩
        rw [hxx, hyy] at hstep
        rw [hxx] at hx
        rw [hyy] at hy
        have hy8 : y < 128 := hy.1
        have ws : IntKind.i64.wrap ((i : Int) + 1) = (i : Int) + 1 := IntWalk.i64_in _ (by omega)
        have hor := u8_or_nat x y (by omega) (by omega)
        by_cases h128 : 128 ≤ x
        · have d1 : decide ((128 : Int) ≤ ((x ||| y : Nat) : Int)) = true := by have := @Nat.left_le_or x y; simp; omega
          have d1' : 128 ≤ x ||| y := Nat.le_trans h128 Nat.left_le_or
          have HX := Lib.hid (hxx ▸ h128 : 128 ≤ by8 s i)
          clear hstep hlt' ws HB
          go_wp2
          go_step3
          go_wp2
          simp only [Exit.inBlock, Exit.then, Exit.jump]
          exact ⟨trivial, rfl, i, _, _, _, _, _, _, _, _, _, _, _, _, _, _, _, _, _, _, _, _, _, _, _, _, _, _, _, _, _, _, _, _, _, _, _, _, _, _, _, _, _, _, _, _, _, hsl, htl, HX.out, H.out, rfl⟩
        · have hor8 : x ||| y < 128 := Nat.or_lt_two_pow (n := 7) (by omega) hy8
          have d1 : decide ((128 : Int) ≤ ((x ||| y : Nat) : Int)) = false := by simp; omega
          have d1' : ¬ 128 ≤ x ||| y := by omega
          have hx8 : x < 128 := by omega
          have hsm : (smallB x = smallB y) ↔ (x = y ∨ (65 ≤ y ∧ y ≤ 90 ∧ x = y + 32) ∨ (65 ≤ x ∧ x ≤ 90 ∧ y = x + 32)) := by
            unfold smallB
            constructor
            · intro h; repeat (first | split at h | omega)
            · intro h; repeat (first | split | omega)
          rcases (show x = y ∨ y < x ∨ x < y by omega) with hxy | hxy | hxy
          · have d2 : ((y : Int) == (x : Int)) = true := by simp; omega
            have HS := Lib.hid (show foldEq s t = foldEq (s.drop (i + 1)) (t.drop (i + 1)) by
              rw [H.out, hstep, show decide (smallB x = smallB y) = true by simpa using hsm.2 (.inl hxy), Bool.true_and])
            clear hstep H hsm HB hor8 d1' hxy
            go_wp2
            go_roundw
            case rel => exact ⟨trivial, i + 1, by go_num, by omega, HS⟩
            case measure => simp [intOf]; omega
          · have d2 : ((y : Int) == (x : Int)) = false := by rw [beq_eq_false_iff_ne]; omega
            have d3 : decide ((y : Int) < (x : Int)) = true := by simp; omega
            have d3' : y < x := by omega
            obtain ⟨bo, hbo⟩ : ∃ bo : Bool, decide (65 ≤ y ∧ y ≤ 90 ∧ x = y + 32) = bo := ⟨_, rfl⟩
            have hdec : decide (smallB x = smallB y) = bo := by
              rw [← hbo]
              exact decide_eq_decide.2 (hsm.trans ⟨fun h => by omega, fun h => .inr (.inl h)⟩)
            rw [hdec] at hstep
            have HS := Lib.hid (H.out.trans hstep)
            clear hstep H hsm HB hor8 d1' hxy hdec
            by_cases h65 : 65 ≤ y ∧ y ≤ 90
            · have d4 : decide ((65 : Int) ≤ (y : Int)) = true := by simp; omega
              have d5 : decide ((y : Int) ≤ 90) = true := by simp; omega
              have w97 : IntKind.u8.wrap ((y : Int) + 97) = (y : Int) + 97 := IntWalk.u8_in _ (by omega)
              have w32 : IntKind.u8.wrap ((y : Int) + 97 - 65) = (y : Int) + 97 - 65 := IntWalk.u8_in _ (by omega)
              rcases bo with _ | _
              · have d6 : ((x : Int) == (y : Int) + 97 - 65) = false := by simp only [decide_eq_false_iff_not] at hbo; rw [beq_eq_false_iff_ne]; omega
                clear hbo h65
                go_wp2
                simp only [Exit.inBlock, Exit.then, Exit.jump]
                refine bodyPost_ret (results_tmp rfl _ _ _) rfl ⟨?_, Pur.refl _⟩
                rw [HS.out]; rfl
              · have d6 : ((x : Int) == (y : Int) + 97 - 65) = true := by simp only [decide_eq_true_eq] at hbo; rw [beq_iff_eq]; omega
                clear hbo h65
                go_wp2
                go_roundw
                case rel => exact ⟨trivial, i + 1, by go_num, by omega, Lib.hid (HS.out.trans (Bool.true_and _))⟩
                case measure => simp [intOf]; omega
            · obtain rfl : bo = false := by rw [← hbo, decide_eq_false_iff_not]; omega
              rcases (show y < 65 ∨ (65 ≤ y ∧ 90 < y) by omega) with g | ⟨g, g'⟩
              · have d4 : decide ((65 : Int) ≤ (y : Int)) = false := by simp; omega
                clear hbo h65
                go_wp2
                simp only [Exit.inBlock, Exit.then, Exit.jump]
                refine bodyPost_ret (results_tmp rfl _ _ _) rfl ⟨?_, Pur.refl _⟩
                rw [HS.out]; rfl
              · have d4 : decide ((65 : Int) ≤ (y : Int)) = true := by simp; omega
                have d5 : decide ((y : Int) ≤ 90) = false := by simp; omega
                clear hbo h65
                go_wp2
                simp only [Exit.inBlock, Exit.then, Exit.jump]
                refine bodyPost_ret (results_tmp rfl _ _ _) rfl ⟨?_, Pur.refl _⟩
                rw [HS.out]; rfl
          · have d2 : ((y : Int) == (x : Int)) = false := by rw [beq_eq_false_iff_ne]; omega
            have d3 : decide ((y : Int) < (x : Int)) = false := by simp; omega
            have d3' : ¬ y < x := by omega
            obtain ⟨bo, hbo⟩ : ∃ bo : Bool, decide (65 ≤ x ∧ x ≤ 90 ∧ y = x + 32) = bo := ⟨_, rfl⟩
            have hdec : decide (smallB x = smallB y) = bo := by
              rw [← hbo]
              exact decide_eq_decide.2 (hsm.trans ⟨fun h => by omega, fun h => .inr (.inr h)⟩)
            rw [hdec] at hstep
            have HS := Lib.hid (H.out.trans hstep)
            clear hstep H hsm HB hor8 d1' hxy hdec
            by_cases h65 : 65 ≤ x ∧ x ≤ 90
            · have d4 : decide ((65 : Int) ≤ (x : Int)) = true := by simp; omega
              have d5 : decide ((x : Int) ≤ 90) = true := by simp; omega
              have w97 : IntKind.u8.wrap ((x : Int) + 97) = (x : Int) + 97 := IntWalk.u8_in _ (by omega)
              have w32 : IntKind.u8.wrap ((x : Int) + 97 - 65) = (x : Int) + 97 - 65 := IntWalk.u8_in _ (by omega)
              rcases bo with _ | _
              · have d6 : ((y : Int) == (x : Int) + 97 - 65) = false := by simp only [decide_eq_false_iff_not] at hbo; rw [beq_eq_false_iff_ne]; omega
                clear hbo h65
                go_wp2
                simp only [Exit.inBlock, Exit.then, Exit.jump]
                refine bodyPost_ret (results_tmp rfl _ _ _) rfl ⟨?_, Pur.refl _⟩
                rw [HS.out]; rfl
              · have d6 : ((y : Int) == (x : Int) + 97 - 65) = true := by simp only [decide_eq_true_eq] at hbo; rw [beq_iff_eq]; omega
                clear hbo h65
                go_wp2
                go_roundw
                case rel => exact ⟨trivial, i + 1, by go_num, by omega, Lib.hid (HS.out.trans (Bool.true_and _))⟩
                case measure => simp [intOf]; omega
            · obtain rfl : bo = false := by rw [← hbo, decide_eq_false_iff_not]; omega
              rcases (show x < 65 ∨ (65 ≤ x ∧ 90 < x) by omega) with g | ⟨g, g'⟩
              · have d4 : decide ((65 : Int) ≤ (x : Int)) = false := by simp; omega
                clear hbo h65
                go_wp2
                simp only [Exit.inBlock, Exit.then, Exit.jump]
                refine bodyPost_ret (results_tmp rfl _ _ _) rfl ⟨?_, Pur.refl _⟩
                rw [HS.out]; rfl
              · have d4 : decide ((65 : Int) ≤ (x : Int)) = true := by simp; omega
                have d5 : decide ((x : Int) ≤ 90) = false := by simp; omega
                clear hbo h65
                go_wp2
                simp only [Exit.inBlock, Exit.then, Exit.jump]
                refine bodyPost_ret (results_tmp rfl _ _ _) rfl ⟨?_, Pur.refl _⟩
                rw [HS.out]; rfl
      · have hi : i = s.length ∨ i = t.length := by omega
        have HS := Lib.hid (show foldEq s t = decide (s.length = t.length) by
          rw [H.out]
          rcases hi with g | g
          · rw [List.drop_of_length_le (show s.length ≤ i by omega), foldEq_nil, List.length_drop]
            exact decide_eq_decide.2 (by omega)
          · rw [List.drop_of_length_le (show t.length ≤ i by omega), foldEq_nil', List.length_drop]
            exact decide_eq_decide.2 (by omega))
        have hlt' : ¬ (i : Int) < (n : Int) := by omega
        obtain ⟨bo, hbo⟩ : ∃ bo : Bool, ((s.length : Int) == (t.length : Int)) = bo := ⟨_, rfl⟩
        have hbo2 : decide (s.length = t.length) = bo := by rw [← hbo, Bool.eq_iff_iff]; simp only [decide_eq_true_eq, beq_iff_eq]; omega
        clear H hi hin hlt hn hn2
        go_wp2
        simp only [Exit.inBlock, Exit.then, Exit.jump]
        refine bodyPost_ret (results_tmp rfl _ _ _) rfl ⟨?_, Pur.refl _⟩
        rw [HS.out, hbo2]; rfl
  · rintro a' w' ⟨rfl, i, u4, u6, u7, u8, u14, u15, u16, u17, u18, u19, u20, u21, u22, u23, u24, u25, u26, u27, u28, u29, u30, u31, u32, u33, u34, u35, u36, u37, u38, u39, u40, u41, u42, u43, u44, u45, u46, u47, u48, u49, u50, u51, u52, u53, u54, hsl, htl, h128, H, rfl⟩
    have hsl' : (i : Int) ≤ (s.length : Int) := by omega
    have htl' : (i : Int) ≤ (t.length : Int) := by omega
    have i0 : (0 : Int) ≤ (i : Int) := by omega
    have hy : plainF (by8 t i) := by
      obtain ⟨b, hb, e⟩ := drop_by8 t i htl
      rw [← hb]
      exact ht b (List.mem_of_mem_drop (show b ∈ t.drop i by rw [e]; simp))
    have HS := Lib.hid (show foldEq s t = false by
      rw [H, foldEq_at s t i hsl htl, show decide (smallB (by8 s i) = smallB (by8 t i)) = false by
        have hy1 := hy.1
        simp only [decide_eq_false_iff_not]
        unfold smallB
        repeat (first | split | omega)]
      rfl)
    have hsub : ∀ (l : List UInt8), i < l.length → (sub l i l.length).length = l.length - i ∧ by8 (sub l i l.length) 0 = by8 l i := fun l hl => by
      refine ⟨by rw [length_sub]; omega, ?_⟩
      rw [by8_sub, if_pos (by omega)]
      rfl
    obtain ⟨S1, S2⟩ := hsub s hsl
    obtain ⟨T1, T2⟩ := hsub t htl
    have hS3 : 0 < (sub s i s.length).length := by omega
    have hT3 : 0 < (sub t i t.length).length := by omega
    obtain ⟨r1, r2⟩ := decode_hi (sub s i s.length) hS3 (by rw [S2]; exact h128)
    have NX := fun (w : World) ty => run_next_any (P := Tryz.prog) w ⟨(sub s i s.length).toArray⟩ 0 ty (by show 0 < (sub s i s.length).toArray.size; simpa using hS3)
    have DR := fun w => Tryz.utf8_DecodeRuneInString_ascii ⟨(sub t i t.length).toArray⟩ (UInt8.ofNat (by8 t i)) w (by
      show (sub t i t.length)[0]? = _
      obtain ⟨b, hb, e⟩ := drop_by8 (sub t i t.length) 0 hT3
      rw [List.drop_zero] at e
      rw [e]
      simp only [List.getElem?_cons_zero, Option.some.injEq]
      rw [← T2, ← hb]
      simp) (by
        have := hy.1
        rw [UInt8.toNat_ofNat']
        omega)
    have hyn : (UInt8.ofNat (by8 t i)).toNat = by8 t i := by rw [UInt8.toNat_ofNat']; have := hy.1; omega
    rw [hyn] at DR
    have F1 := fun w hF => fold_any (by8 t i) w hF hy
    have F2 := fun w hF => fold_any (other (by8 t i)) w hF (other_plain hy).1
    rw [(other_plain hy).2] at F2
    have ho := (other_plain hy).1.1
    have hy1 := hy.1
    generalize (Utf8.decode ⟨(sub s i s.length).toArray⟩ 0).1 = r at *
    generalize (Utf8.decode ⟨(sub s i s.length).toArray⟩ 0).2 = rn at *
    generalize by8 t i = y at *
    generalize other y = z at *
    generalize hSS : sub s i s.length = S at *
    generalize hTT : sub t i t.length = T at *
    have hFr : ∀ k, FoldW (w'.iter ⟨S.toArray⟩ k) := fun k => hF.pur ((Pur.refl _).alloc _)
    have d1 : ((T.length : Int) == 0) = false := by rw [beq_eq_false_iff_ne]; omega
    have d2 : ((y : Int) == (r : Int)) = false := by rw [beq_eq_false_iff_ne]; omega
    have d3 : decide ((y : Int) < (r : Int)) = true := by simp; omega
    have d4 : decide ((r : Int) < 128) = false := by simp; omega
    have d5 : decide ((z : Int) < (r : Int)) = true := by simp; omega
    have d6 : ((y : Int) != (y : Int)) = false := by simp
    have d7 : ((z : Int) == (r : Int)) = false := by rw [beq_eq_false_iff_ne]; omega
    have t1 : (1 : Int) ≤ (T.length : Int) := by omega
    have k1 : i ≤ s.length := by omega
    have k2 : i ≤ t.length := by omega
    clear H hsub S1 S2 T1 T2 hy hyn h128 hsl htl ht hs hl hn hn2
    obtain ⟨bz, hbz⟩ : ∃ b, ((z : Int) != (y : Int)) = b := ⟨_, rfl⟩
    go_wp2
    refine wp_loop_rounds 1 ?_
    rw [rounds_succ]
    go_wp2_with fail
    refine (DR _).mono ?_
    rintro e w2 ⟨rfl, rfl⟩
    go_wp2_with fail
    refine (F1 _ (hFr _)).mono ?_
    rintro e w2 ⟨rfl, rfl⟩
    rcases bz with _ | _
    · have hzy : z = y := by simp only [bne_eq_false_iff_eq] at hbz; omega
      subst hzy
      go_wp2
      refine wp_loop_rounds 1 ?_
      rw [rounds_succ]
      go_wp2
      simp only [Exit.inBlock, Exit.then, Exit.jump]
      refine bodyPost_ret (results_tmp rfl _ _ _) rfl ⟨?_, (Pur.refl _).alloc _⟩
      rw [HS.out]; rfl
    · go_wp2
      refine wp_loop_rounds 2 ?_
      rw [rounds_succ]
      go_wp2_with fail
      refine (F2 _ (hFr _)).mono ?_
      rintro e w2 ⟨rfl, rfl⟩
      go_wp2
      rw [rounds_succ]
      go_wp2
      simp only [Exit.inBlock, Exit.then, Exit.jump]
      refine bodyPost_ret (results_tmp rfl _ _ _) rfl ⟨?_, (Pur.refl _).alloc _⟩
      rw [HS.out]; rfl
end Tk
end Go.Proofs.YtigfcchblfnnbaaGreatDoor
namespace Go.Proofs.YtigfcchblfnnbaaGreatDoor
open Go Go.RowKit
set_option linter.all false
namespace Tk
theorem enc_low (c : Nat) (h : c < 128) : enc c = [UInt8.ofNat c] := by unfold enc; rw [if_pos h]
theorem enc_high (c : Nat) (h : 128 ≤ c) (hc : okc c) : ∃ x r, enc c = x :: r ∧ 128 ≤ x.toNat := by
  have hb : c ≤ 1114111 := by unfold okc at hc; omega
  unfold enc
  rw [if_neg (by omega)]
  split
  · exact ⟨_, _, rfl, by rw [UInt8.toNat_ofNat']; omega⟩
  · split
    · exact ⟨_, _, rfl, by rw [UInt8.toNat_ofNat']; omega⟩
    · exact ⟨_, _, rfl, by rw [UInt8.toNat_ofNat']; omega⟩
theorem fold_narrow : ∀ (cs : Cs) (t : List UInt8), (∀ c ∈ cs, okc c) → (∀ b ∈ t, b.toNat < 128) → foldEq (narrow cs) t = decide (cs.map small = t.map fun b => smallB b.toNat)
  | [], t, _, _ => by cases t <;> simp [narrow, foldEq]
  | c :: cs, t, hc, ht => by
    have hn : narrow (c :: cs) = enc c ++ narrow cs := by simp [narrow]
    rw [hn]
    by_cases h : c < 128
    · rw [enc_low c h]
      have e : (UInt8.ofNat c).toNat = c := by rw [UInt8.toNat_ofNat']; omega
      cases t with
      | nil => simp [foldEq]
      | cons b t =>
        rw [List.singleton_append, foldEq_cons, fold_narrow cs t (fun c hc' => hc c (by simp [hc'])) (fun b hb => ht b (by simp [hb])), e]
        simp only [List.map_cons, List.cons.injEq, Bool.decide_and]
        rfl
    · obtain ⟨x, r, e, hx⟩ := enc_high c (by omega) (hc c (by simp))
      rw [e, List.cons_append]
      cases t with
      | nil => simp [foldEq]
      | cons b t =>
        have hb := ht b (by simp)
        have h1 : smallB x.toNat ≠ smallB b.toNat := by unfold smallB; repeat (first | split | omega)
        have h2 : small c ≠ smallB b.toNat := by unfold small smallB; repeat (first | split | omega)
        rw [foldEq_cons, decide_eq_false h1]
        simp [h2]
theorem fold_any2 (cs : Cs) (t : List UInt8) (w : World) (hF : FoldW w) (hc : ∀ c ∈ cs, okc c) (ht : ∀ b ∈ t, plainF b.toNat) (hl : cs.length ≤ 100000) (hl2 : t.length ≤ 1000) :
    Calls Tryz.prog 80 #[.string ⟨(narrow cs).toArray⟩, .string ⟨t.toArray⟩] w fun e w' => e = .returned (.bool (decide (cs.map small = t.map fun b => smallB b.toNat))) ∧ Pur w w' := by
  rw [← fold_narrow cs t hc (fun b hb => (ht b hb).1)]
  exact fold_text (narrow cs) t w hF ht (by have := narrow_len cs; omega) hl2
theorem name_ok {xs nm q : Cs} (h : name xs = .ok (nm, q)) : xs = nm ++ q ∧ nm.length ≤ 64 ∧ nm ≠ [] := by
  unfold name at h
  split at h
  · rename_i hb
    split at h
    · cases h
    · rename_i hl
      cases h
      refine ⟨(List.takeWhile_append_dropWhile).symm, by omega, ?_⟩
      cases xs with
      | nil => simp [hd] at hb
      | cons c r =>
        simp only [hd] at hb
        rw [List.takeWhile_cons, if_pos (by simp [goesOn, hb])]
        simp
  · cases h
theorem FoldW.chg {S : List Nat} {w w' : World} (h : FoldW w) (hc : Chg S w w') (hs : 3 ∉ S) : FoldW w' := by
  unfold FoldW Lib.TabIs World.var? at h ⊢
  rw [show Tryz.prog.globalNamed "unicode.asciiFold" = some 3 by kernel_rfl] at h ⊢
  simp only [Option.bind_some] at h ⊢
  have hlt : 3 < w.heap.size := by
    rcases Nat.lt_or_ge 3 w.heap.size with h' | h'
    · exact h'
    · rw [Array.getElem?_eq_none h'] at h; cases h
  rw [hc.block _ hlt hs]
  exact h
theorem xml_plain : ∀ b ∈ ([120, 109, 108] : List UInt8), plainF b.toNat := by unfold plainF; decide
theorem utf_plain : ∀ b ∈ ([85, 84, 70, 45, 56] : List UInt8), plainF b.toNat := by unfold plainF; decide
set_option maxRecDepth 100000 in
set_option maxHeartbeats 8000000 in
theorem instr_any {w : World} {p : Pl} {d : Sd} (h : At w p d) (hF : FoldW w) (hg : 3 ∉ p.all) (hi : d.i + 2 ≤ d.cs.length) : Calls Tryz.prog 47 #[.pointer (some ⟨p.s, 0, none⟩)] w fun e w' => Gives p d w (instr d.rest) (fun _ => .tuple #[]) e w' := by
  have hcl := h.clen
  have c1 := h.c1
  have f1 := h.f 1
  have hgs : 3 ∉ [p.s] := fun hm => hg (by simp at hm; rw [hm]; simp [Pl.all])
  have ws : IntKind.i64.wrap ((d.i : Int) + 2) = (d.i : Int) + 2 := IntWalk.i64_in _ (by omega)
  have h0 := h.seti (d.i + 2) ((d.i : Int) + 2) (by omega)
  have g0 : Chg [p.s] w (w.setCell ⟨p.s, 1, none⟩ (.int .i64 ((d.i : Int) + 2))) := (Chg.refl _ _).setCell (.inl (by simp)) _
  have hF0 := hF.chg g0 hgs
  have HC := Lib.hid (show instr d.rest = (name (d.cs.drop (d.i + 2))).and fun nm r =>
    if nm.map small = [120, 109, 108] then .error (d.rest.length, 21)
    else if pre [63, 62] r then .ok ((), r.drop 2)
    else if hd blank r then (untilT [63, 62] r).and fun _ z => .ok ((), z)
    else .error (r.length, 21) by unfold instr Sd.rest; rw [List.drop_drop])
  have NM := name_any h0 hi
  simp only [Sd.rest] at NM
  rcases hn : name (d.cs.drop (d.i + 2)) with ⟨k, n⟩ | ⟨nm, r⟩
  · rw [hn] at NM HC
    clear hn
    go_enter Tryz.func47, Tryz.ntmps47
    go_wp2_with fail
    refine NM.mono ?_
    intro e w6 hf
    obtain ⟨b, rfl, hf2⟩ := id hf
    go_wp2
    refine ⟨rfl, ?_⟩
    rw [HC.out]
    exact Flt.after g0 hf
  rw [hn] at NM HC
  simp only [and_ok] at HC
  obtain ⟨n1, n2, n3⟩ := name_ok hn
  have hok : ∀ c ∈ nm, okc c := fun c hc => allowed_okc (h.okcs c (List.mem_of_mem_drop (show c ∈ d.cs.drop (d.i + 2) by rw [n1]; simp [hc])))
  have FO := fun w hF => fold_any2 nm [120, 109, 108] w hF hok xml_plain (by omega) (by decide)
  have hsm : ([120, 109, 108] : List UInt8).map (fun b => smallB b.toNat) = [120, 109, 108] := by decide
  rw [hsm] at FO
  clear hn n1 n3 hsm
  by_cases hx : nm.map small = [120, 109, 108]
  · rw [if_pos hx] at HC
    rw [decide_eq_true hx] at FO
    clear hx
    go_enter Tryz.func47, Tryz.ntmps47
    go_wp2_with fail
    refine NM.mono ?_
    rintro e w1 ⟨rfl, i1, a1, b1, d1, h1, g1⟩
    simp only at a1 b1 d1 h1
    replace a1 := Lib.hid a1
    go_wp2_with fail
    refine (FO _ (hF0.chg g1 hgs)).mono ?_
    rintro e w2 ⟨rfl, p2⟩
    have h2 := h1.pur p2
    go_wp2_with fail
    refine (fail_any h2 [p.s] d.i 21 (by omega)).mono ?_
    intro e w6 hf
    obtain ⟨b, rfl, hf2⟩ := id hf
    go_wp2
    refine ⟨rfl, ?_⟩
    rw [HC.out]
    simp only [Gives]
    rw [rest_len, show d.cs.length - (d.cs.length - d.i) = d.i by omega]
    exact Flt.after ((g0.trans g1).pur p2) hf
  rw [if_neg hx] at HC
  rw [decide_eq_false hx] at FO
  clear hx
  rcases hp : pre [63, 62] r with _ | _
  rotate_left
  · rw [hp] at HC
    have hlen := pre_len hp
    go_enter Tryz.func47, Tryz.ntmps47
    go_wp2_with fail
    refine NM.mono ?_
    rintro e w1 ⟨rfl, i1, a1, b1, d1, h1, g1⟩
    simp only at a1 b1 d1 h1
    go_wp2_with fail
    refine (FO _ (hF0.chg g1 hgs)).mono ?_
    rintro e w2 ⟨rfl, p2⟩
    have h2 := h1.pur p2
    have AT := at_any h2 [63, 62] d1 (by decide)
    have en : nats [63, 62] = [63, 62] := rfl
    simp only [Sd.rest] at AT
    rw [en, a1, hp] at AT
    have a1l : i1 + 2 ≤ d.cs.length := by
      have := congrArg List.length a1
      rw [List.length_drop] at this
      simp only [List.length_cons, List.length_nil] at hlen
      omega
    have HR := Lib.hid (show d.cs.drop (i1 + 2) = r.drop 2 by rw [← a1, List.drop_drop])
    clear hp a1 hlen
    go_wp2_with fail
    refine AT.mono ?_
    rintro e w3 ⟨rfl, p3⟩
    have h3 := h2.pur p3
    have c1 := h3.c1
    have f1 := h3.f 1
    simp only at c1
    have w1 : IntKind.i64.wrap ((i1 : Int) + 2) = (i1 : Int) + 2 := IntWalk.i64_in _ (by omega)
    have h4 := h3.seti (i1 + 2) ((i1 : Int) + 2) (by omega)
    go_wp2
    refine bodyPost_end (results_none rfl _ _ _) rfl ?_
    rw [HC.out]
    exact ⟨rfl, i1 + 2, HR.out, by omega, by omega, h4, (((g0.trans g1).pur p2).pur p3).setCell (.inl (by simp)) _⟩
  rw [hp] at HC
  simp only [Bool.false_eq_true, if_false] at HC
  rcases hb : hd blank r with _ | _
  · rw [hb] at HC
    simp only [Bool.false_eq_true, if_false] at HC
    go_enter Tryz.func47, Tryz.ntmps47
    go_wp2_with fail
    refine NM.mono ?_
    rintro e w1 ⟨rfl, i1, a1, b1, d1, h1, g1⟩
    simp only at a1 b1 d1 h1
    go_wp2_with fail
    refine (FO _ (hF0.chg g1 hgs)).mono ?_
    rintro e w2 ⟨rfl, p2⟩
    have h2 := h1.pur p2
    have AT := at_any h2 [63, 62] d1 (by decide)
    have en : nats [63, 62] = [63, 62] := rfl
    simp only [Sd.rest] at AT
    rw [en, a1, hp] at AT
    have PK : ∀ w', (hp : Pur w2 w') → _ := fun w' hp => peek_any (h2.pur hp)
    simp only [Sd.rest] at PK
    have BL := fun w => blank_any (pk (d.cs.drop i1)) w (pk_bd h2 i1).1
    rw [on_pk, a1, hb] at BL
    rw [a1] at PK
    have hrl : r.length = d.cs.length - i1 := by rw [← a1, List.length_drop]
    clear hp a1 hb
    go_wp2_with fail
    refine AT.mono ?_
    rintro e w3 ⟨rfl, p3⟩
    go_wp2_with fail
    refine (PK _ p3).mono ?_
    rintro e w4 ⟨rfl, p4⟩
    go_wp2_with fail
    refine (BL _).mono ?_
    rintro e w5 ⟨rfl, rfl⟩
    have h4 := h2.pur (p3.trans p4)
    have c1 := h4.c1
    simp only at c1
    go_wp2_with fail
    refine (fail_any h4 [p.s] i1 21 (by omega)).mono ?_
    intro e w6 hf
    obtain ⟨b, rfl, hf2⟩ := id hf
    go_wp2
    refine ⟨rfl, ?_⟩
    rw [HC.out]
    simp only [Gives]
    rw [hrl, show d.cs.length - (d.cs.length - i1) = i1 by omega]
    exact Flt.after (((g0.trans g1).pur p2).pur (p3.trans p4)) hf
  · rw [hb] at HC
    simp only [if_true] at HC
    go_enter Tryz.func47, Tryz.ntmps47
    go_wp2_with fail
    refine NM.mono ?_
    rintro e w1 ⟨rfl, i1, a1, b1, d1, h1, g1⟩
    simp only at a1 b1 d1 h1
    go_wp2_with fail
    refine (FO _ (hF0.chg g1 hgs)).mono ?_
    rintro e w2 ⟨rfl, p2⟩
    have h2 := h1.pur p2
    have AT := at_any h2 [63, 62] d1 (by decide)
    have en : nats [63, 62] = [63, 62] := rfl
    simp only [Sd.rest] at AT
    rw [en, a1, hp] at AT
    have PK : ∀ w', (hp : Pur w2 w') → _ := fun w' hp => peek_any (h2.pur hp)
    simp only [Sd.rest] at PK
    have BL := fun w => blank_any (pk (d.cs.drop i1)) w (pk_bd h2 i1).1
    rw [on_pk, a1, hb] at BL
    have UN : ∀ w', (hp : Pur w2 w') → _ := fun w' hp => until_any (h2.pur hp) d1 [63, 62] (by decide) (by decide)
    simp only [Sd.rest] at UN
    rw [en] at UN
    rw [a1] at PK UN
    have HR := Lib.hid a1
    clear hp a1 hb
    go_wp2_with fail
    refine AT.mono ?_
    rintro e w3 ⟨rfl, p3⟩
    go_wp2_with fail
    refine (PK _ p3).mono ?_
    rintro e w4 ⟨rfl, p4⟩
    go_wp2_with fail
    refine (BL _).mono ?_
    rintro e w5 ⟨rfl, rfl⟩
    have G4 := ((g0.trans g1).pur p2).pur (p3.trans p4)
    rcases hu : untilT [63, 62] r with ⟨k, n⟩ | ⟨x, z⟩
    · rw [hu] at HC UN
      simp only [and_error] at HC
      go_wp2_with fail
      refine (UN _ (p3.trans p4)).mono ?_
      intro e w6 hf
      obtain ⟨b, rfl, hf2⟩ := id hf
      go_wp2
      refine ⟨rfl, ?_⟩
      rw [HC.out]
      exact Flt.after G4 hf
    · rw [hu] at HC UN
      simp only [and_ok] at HC
      go_wp2_with fail
      refine (UN _ (p3.trans p4)).mono ?_
      rintro e w6 ⟨v, rfl, ⟨i6, a6, b6, d6, h6, g6⟩, -⟩
      simp only at a6 b6 d6 h6
      replace a6 := Lib.hid a6
      go_wp2
      refine bodyPost_end (results_none rfl _ _ _) rfl ?_
      rw [HC.out]
      exact ⟨rfl, i6, a6.out, by omega, d6, h6, G4.trans g6⟩
end Tk
end Go.Proofs.YtigfcchblfnnbaaGreatDoor
