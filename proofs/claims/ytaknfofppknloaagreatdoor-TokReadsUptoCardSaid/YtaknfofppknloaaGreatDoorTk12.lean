/- Layer 2: text between marks (chunk), and a comment. -/
import Derived.Test.YtaknfofppknloaaGreatDoorTk11
namespace Go.Proofs.YtaknfofppknloaaGreatDoor
open Go Go.RowKit
set_option linter.all false
namespace Tk
theorem IRead.one (w : World) (c : Nat) (y : Int) (hy : y = (c : Int)) (e : TypeId) (f : Nat × Nat) : IRead (w.alloc (.cells #[.int .i64 y] e f)) (.slice (some ⟨w.heap.size, 0, none⟩) 1 1) [c] := by
  subst hy
  refine ⟨_, 1, rfl, fun k hk => ⟨w.heap.size, 0, rfl, ?_, ?_⟩⟩
  · have : (w.alloc (.cells #[.int .i64 (c : Int)] e f)).heap.size = w.heap.size + 1 := Array.size_push _
    omega
  · have : k = 0 := by simp only [List.length_cons, List.length_nil] at hk; omega
    subst this
    rw [World.cell?_alloc_mark]
    rfl
/-- how 'chunk' ends -/
def Chunks (p : Pl) (d : Sd) (w : World) (r : R Cs) (e : Ending) (w' : World) : Prop := match r with
  | .ok (t, q) => e = .returned (.tuple #[]) ∧ ∃ p' j, d.cs.drop j = q ∧ d.i ≤ j ∧ j ≤ d.cs.length ∧ t.length + d.i ≤ j ∧ At w' p' { d with i := j, text := d.text ++ t, began := if d.text = [] then d.i else d.began } ∧ Step p w p' w'
  | .error (k, n) => Flt p.all w d.cs (d.cs.length - k) n e w'
theorem chunk_step {f : Nat} {xs z : Cs} {acc : Cs} {c : Nat} {r : R Cs} (h : r = (chunkGo (f + 1) xs).and fun a z => .ok (acc ++ a, z)) (g : chunkGo (f + 1) xs = (chunkGo f z).and fun a z => .ok (c :: a, z)) :
    r = (chunkGo f z).and fun a z => .ok ((acc ++ [c]) ++ a, z) := by
  rw [h, g]
  rcases chunkGo f z with x | ⟨x, q⟩
  · rfl
  · simp
set_option maxRecDepth 100000 in
set_option maxHeartbeats 16000000 in
theorem chunk_any {w : World} {p : Pl} {d : Sd} (h : At w p d) (hi : d.i ≤ d.cs.length) (hl : d.text.length ≤ 500000) : Calls Tryz.prog 32 #[.pointer (some ⟨p.s, 0, none⟩)] w fun e w' => Chunks p d w (chunk d.rest) e w' := by
  have hcl := h.clen
  have hrl := rest_len (d := d)
  obtain ⟨b0, hb0⟩ : ∃ b0, b0 = if d.text = [] then d.i else d.began := ⟨_, rfl⟩
  have BG := begin_any h
  rw [← hb0] at BG
  have HB := Lib.hid hb0
  clear hb0
  go_enter Tryz.func32, Tryz.ntmps32
  go_wp2_with fail
  refine BG.mono ?_
  rintro e w1 ⟨rfl, h1, g1⟩
  go_wp2
  go_loopw [4] (fun _ wr => ∃ (p' : Pl) (j f : Nat) (acc : Cs), p'.s = p.s ∧ d.i ≤ j ∧ j ≤ d.cs.length ∧ d.cs.length < j + f ∧ At wr p' { d with i := j, text := d.text ++ acc, began := b0 } ∧ Step p w p' wr ∧ acc.length + d.i ≤ j ∧ Hid (chunk d.rest = (chunkGo f (d.cs.drop j)).and fun a z => .ok (acc ++ a, z))) (fun _ wr => d.cs.length + 1 - natAt wr ⟨p.s, 1, none⟩)
  case atStart => exact ⟨p, d.i, d.rest.length + 1, [], rfl, by omega, hi, by omega, by rw [List.append_nil]; exact h1, Step.chg1 g1, by simp, Lib.hid (by unfold chunk Sd.rest; rcases chunkGo ((d.cs.drop d.i).length + 1) (d.cs.drop d.i) with x | ⟨x, z⟩ <;> rfl)⟩
  case round =>
    obtain ⟨p', j, f, acc, ps, j1, j2, j3, k3, k4, hal, H⟩ := hrel
    obtain ⟨f, rfl⟩ : ∃ g, f = g + 1 := ⟨f - 1, by omega⟩
    have e3 := k3.nat
    have PKj : ∀ w', Pur wr w' → Calls Tryz.prog 23 #[.pointer (some ⟨p.s, 0, none⟩)] w' fun e w'' => e = .returned (.int .i64 (pk (d.cs.drop j))) ∧ Pur w' w'' := fun w' hp => ps ▸ peek_any (k3.pur hp)
    have ATj : ∀ w', Pur wr w' → Calls Tryz.prog 24 #[.pointer (some ⟨p.s, 0, none⟩), .string ⟨#[93, 93, 62]⟩] w' fun e w'' => e = .returned (.bool (pre [93, 93, 62] (d.cs.drop j))) ∧ Pur w' w'' := fun w' hp => ps ▸ at_any (k3.pur hp) [93, 93, 62] j2 (by decide)
    obtain ⟨x0, x1⟩ := pk_bd k3 j
    rw [ps] at e3
    simp only at x0 x1 e3
    obtain ⟨x, hpk⟩ : ∃ x, pk (d.cs.drop j) = x := ⟨_, rfl⟩
    rw [hpk] at PKj x0 x1
    have w1 : IntKind.i64.wrap ((j : Int) + 1) = (j : Int) + 1 := IntWalk.i64_in _ (by omega)
    clear BG h1 g1
    by_cases hend : x = 60 ∨ x = -1
    · have HS := Lib.hid (show chunk d.rest = .ok (acc, d.cs.drop j) by
        rw [H.out]
        cases hd : d.cs.drop j with
        | nil => rw [chunkGo]; simp
        | cons c q =>
          rw [hd] at hpk
          simp only [pk] at hpk
          rw [chunkGo, if_pos (by omega)]
          simp)
      obtain ⟨b1, hb1⟩ : ∃ b, (x != 60) = b := ⟨_, rfl⟩
      obtain ⟨b2, hb2⟩ : ∃ b, (x != -1) = b := ⟨_, rfl⟩
      have hbb : (b1 && b2) = false := by
        rw [← hb1, ← hb2]
        rcases hend with rfl | rfl <;> rfl
      clear H hpk hend ATj
      rcases b1 with _ | _ <;> rcases b2 with _ | _ <;> (try (exfalso; simp at hbb; done))
      · go_wp2_with fail
        refine (PKj _ (Pur.refl _)).mono ?_
        rintro e w4 ⟨rfl, hp4⟩
        go_wp2
        refine bodyPost_end (results_none rfl _ _ _) rfl ?_
        rw [HS.out]
        exact ⟨rfl, p', j, rfl, j1, j2, hal, HB.out ▸ k3.pur hp4, k4.pur hp4⟩
      · go_wp2_with fail
        refine (PKj _ (Pur.refl _)).mono ?_
        rintro e w4 ⟨rfl, hp4⟩
        go_wp2
        refine bodyPost_end (results_none rfl _ _ _) rfl ?_
        rw [HS.out]
        exact ⟨rfl, p', j, rfl, j1, j2, hal, HB.out ▸ k3.pur hp4, k4.pur hp4⟩
      · go_wp2_with fail
        refine (PKj _ (Pur.refl _)).mono ?_
        rintro e w4 ⟨rfl, hp4⟩
        go_wp2_with fail
        refine (PKj _ hp4).mono ?_
        rintro e w5 ⟨rfl, hp5⟩
        go_wp2
        refine bodyPost_end (results_none rfl _ _ _) rfl ?_
        rw [HS.out]
        exact ⟨rfl, p', j, rfl, j1, j2, hal, HB.out ▸ k3.pur (hp4.trans hp5), k4.pur (hp4.trans hp5)⟩
    have hj : j < d.cs.length := by
      rcases Nat.lt_or_ge j d.cs.length with g | g
      · exact g
      · rw [List.drop_of_length_le g] at hpk; simp only [pk] at hpk; omega
    have hcons := drop_cons d.cs j hj
    have hxc : x = (d.cs.getD j 0 : Nat) := by rw [hcons] at hpk; exact hpk.symm
    have hokx : okc (d.cs.getD j 0) := by rw [List.getD_eq_getElem?_getD, List.getElem?_eq_getElem hj]; exact allowed_okc (h.okcs _ (List.getElem_mem hj))
    have d3 : (x != 60) = true := by simp; omega
    have d4 : (x != -1) = true := by simp; omega
    obtain ⟨bp, hbp⟩ : ∃ b, pre [93, 93, 62] (d.cs.drop j) = b := ⟨_, rfl⟩
    rw [hbp] at ATj
    rcases bp with _ | _
    rotate_left
    · -- a fault
      have HS := Lib.hid (show chunk d.rest = .error (d.cs.length - j, 21) by
        have hl2 : (d.cs.drop j).length = d.cs.length - j := List.length_drop
        rw [H.out]
        rw [hcons] at hbp hl2 ⊢
        rw [chunkGo, if_neg (by omega), if_pos hbp, hl2]; rfl)
      clear H hpk hcons hxc hokx hbp
      go_wp2_with fail
      refine (PKj _ (Pur.refl _)).mono ?_
      rintro e w4 ⟨rfl, hp4⟩
      go_wp2_with fail
      refine (PKj _ hp4).mono ?_
      rintro e w5 ⟨rfl, hp5⟩
      go_wp2_with fail
      refine (ATj _ (hp4.trans hp5)).mono ?_
      rintro e w6 ⟨rfl, hp6⟩
      have P6 := (hp4.trans hp5).trans hp6
      have k6 := k3.pur P6
      have c1 := k6.c1
      have FL := fail_any k6 [p'.s] j 21 (by omega)
      rw [ps] at c1 FL
      simp only at c1
      go_wp2_with fail
      refine FL.mono ?_
      intro e w7 hf
      obtain ⟨b, rfl, hf2⟩ := id hf
      go_wp2
      refine ⟨rfl, ?_⟩
      rw [HS.out]
      simp only [Chunks]
      rw [show d.cs.length - (d.cs.length - j) = j by omega]
      exact (k4.pur P6).flt1 (by rw [ps]; exact hf)
    by_cases hx3 : x = 38
    · -- a reference
      subst hx3
      have RF : ∀ w', (hp : Pur wr w') → _ := fun w' hp => reference_any (k3.pur hp) j2
      simp only [Sd.rest] at RF
      rw [ps] at RF
      have HV : chunkGo (f + 1) (d.cs.drop j) = (reference (d.cs.drop j)).and fun v q => (chunkGo f q).and fun a z => .ok (v :: a, z) := by
        rw [hcons] at hbp ⊢
        rw [chunkGo, if_neg (by omega), if_neg (by rw [hbp]; simp), if_pos (by omega)]
      have d5 : ((38 : Int) == 38) = true := rfl
      clear hcons hxc hokx hpk hbp
      rcases hrf : reference (d.cs.drop j) with ⟨k, n⟩ | ⟨v, q⟩
      · have HS := Lib.hid (show chunk d.rest = .error (k, n) by rw [H.out, HV, hrf]; rfl)
        rw [hrf] at RF
        clear H HV
        go_wp2_with fail
        refine (PKj _ (Pur.refl _)).mono ?_
        rintro e w4 ⟨rfl, hp4⟩
        go_wp2_with fail
        refine (PKj _ hp4).mono ?_
        rintro e w5 ⟨rfl, hp5⟩
        go_wp2_with fail
        refine (ATj _ (hp4.trans hp5)).mono ?_
        rintro e w6 ⟨rfl, hp6⟩
        have P6 := (hp4.trans hp5).trans hp6
        go_wp2_with fail
        refine (PKj _ P6).mono ?_
        rintro e w7 ⟨rfl, hp7⟩
        have P7 := P6.trans hp7
        go_wp2_with fail
        refine (RF _ P7).mono ?_
        intro e w8 hf
        obtain ⟨b, rfl, hf2⟩ := id hf
        go_wp2
        refine ⟨rfl, ?_⟩
        rw [HS.out]
        exact (k4.pur P7).flt1 hf
      · obtain ⟨hov, hqq⟩ := ref_ok hrf
        have HS := Lib.hid (chunk_step (c := v) (z := q) H.out (by rw [HV, hrf]; rfl))
        rw [hrf] at RF
        clear H HV hrf
        go_wp2_with fail
        refine (PKj _ (Pur.refl _)).mono ?_
        rintro e w4 ⟨rfl, hp4⟩
        go_wp2_with fail
        refine (PKj _ hp4).mono ?_
        rintro e w5 ⟨rfl, hp5⟩
        go_wp2_with fail
        refine (ATj _ (hp4.trans hp5)).mono ?_
        rintro e w6 ⟨rfl, hp6⟩
        have P6 := (hp4.trans hp5).trans hp6
        go_wp2_with fail
        refine (PKj _ P6).mono ?_
        rintro e w7 ⟨rfl, hp7⟩
        have P7 := P6.trans hp7
        go_wp2_with fail
        refine (RF _ P7).mono ?_
        rintro e w8 ⟨rfl, j', e1, e2, e4, h8, g8⟩
        simp only at h8 e1 e2 e4
        have hj' : j < j' := by
          have : (d.cs.drop j').length < (d.cs.drop j).length := by rw [e1]; exact hqq
          rw [List.length_drop, List.length_drop] at this
          omega
        replace e1 := Lib.hid e1
        have S8 := (k4.pur P7).trans (Step.chg1 g8)
        have SY := say_any (h8.pur ((Pur.refl w8).alloc (.cells #[.int .i64 (v : Int)] 3))) (.slice (some ⟨w8.heap.size, 0, none⟩) 1 1) [v] (IRead.one w8 v _ rfl _ _) (by simpa using hov) (by simp only [List.length_append]; omega) (by simp)
        rw [ps] at SY
        go_wp2_with fail
        refine SY.mono ?_
        rintro e w9 ⟨rfl, p9, h9, s9⟩
        have S9 := (S8.pur ((Pur.refl w8).alloc (.cells #[.int .i64 (v : Int)] 3))).trans s9
        have e9 := h9.nat
        have ps9 : p9.s = p.s := s9.s.trans ps
        rw [ps9] at e9
        simp only at e9
        go_wp2
        go_roundw
        case rel => exact ⟨p9, j', f, acc ++ [v], ps9, by omega, e4, by omega, by rw [← List.append_assoc]; exact h9, S9, by simp; omega, e1.out ▸ HS⟩
        case measure => rw [e3, e9]; omega
    · have d5 : (x == 38) = false := by simpa using hx3
      have HS := Lib.hid (chunk_step (c := d.cs.getD j 0) (z := d.cs.drop (j + 1)) H.out (by rw [hcons] at hbp ⊢; rw [chunkGo, if_neg (by omega), if_neg (by rw [hbp]; simp), if_neg (by omega)]))
      clear H hcons hpk hbp hx3
      obtain ⟨c, hc⟩ : ∃ c, c = d.cs.getD j 0 := ⟨_, rfl⟩
      rw [← hc] at hxc hokx HS
      clear hc
      subst hxc
      go_wp2_with fail
      refine (PKj _ (Pur.refl _)).mono ?_
      rintro e w4 ⟨rfl, hp4⟩
      go_wp2_with fail
      refine (PKj _ hp4).mono ?_
      rintro e w5 ⟨rfl, hp5⟩
      go_wp2_with fail
      refine (ATj _ (hp4.trans hp5)).mono ?_
      rintro e w6 ⟨rfl, hp6⟩
      have P6 := (hp4.trans hp5).trans hp6
      go_wp2_with fail
      refine (PKj _ P6).mono ?_
      rintro e w7 ⟨rfl, hp7⟩
      have P7 := P6.trans hp7
      go_wp2_with fail
      refine (PKj _ P7).mono ?_
      rintro e w8 ⟨rfl, hp8⟩
      have P8 := P7.trans hp8
      have h8 := k3.pur P8
      have SY := say_any (h8.pur ((Pur.refl w8).alloc (.cells #[.int .i64 (c : Int)] 3))) (.slice (some ⟨w8.heap.size, 0, none⟩) 1 1) [c] (IRead.one w8 c _ rfl _ _) (by simpa using hokx) (by simp only [List.length_append]; omega) (by simp)
      rw [ps] at SY
      go_wp2_with fail
      refine SY.mono ?_
      rintro e w9 ⟨rfl, p9, h9, s9⟩
      have S9 := ((k4.pur P8).pur ((Pur.refl w8).alloc (.cells #[.int .i64 (c : Int)] 3))).trans s9
      have ps9 : p9.s = p.s := s9.s.trans ps
      have c1 := h9.c1
      have f1 := h9.f 1
      have h10 := h9.seti (j + 1) ((j : Int) + 1) (by omega)
      have g10 : Chg [p9.s] w9 (w9.setCell ⟨p9.s, 1, none⟩ (.int .i64 ((j : Int) + 1))) := (Chg.refl _ _).setCell (.inl (by simp)) _
      have S10 := S9.trans (Step.chg1 g10)
      have e10 := h10.nat
      rw [ps9] at c1 f1 e10 h10 S10
      simp only at c1 e10
      go_wp2
      go_roundw
      case rel => exact ⟨p9, j + 1, f, acc ++ [c], ps9, by omega, by omega, by omega, by rw [← List.append_assoc]; exact h10, S10, by simp; omega, HS⟩
      case measure => rw [e3, e10]; omega
/-- what comes of the search for two hyphens -/
def cEnd (r : R Cs) : R Unit := r.and fun _ q => match q with
    | [] => .error (0, 21)
    | c :: z => if c = 62 then .ok ((), z) else .error (q.length + 2, 21)
theorem cEnd_cons (x : Nat) (r : R Cs) : cEnd (r.and fun a q => .ok (x :: a, q)) = cEnd r := by
  rcases r with e | ⟨a, q⟩ <;> rfl
set_option maxRecDepth 100000 in
set_option maxHeartbeats 4000000 in
theorem comment_any {w : World} {p : Pl} {d : Sd} (h : At w p d) (hi : d.i + 4 ≤ d.cs.length) : Calls Tryz.prog 26 #[.pointer (some ⟨p.s, 0, none⟩)] w fun e w' => Gives p d w (comment d.rest) (fun _ => .tuple #[]) e w' := by
  have hcl := h.clen
  have c1 := h.c1
  have f1 := h.f 1
  have ws : IntKind.i64.wrap ((d.i : Int) + 4) = (d.i : Int) + 4 := IntWalk.i64_in _ (by omega)
  have h0 := h.seti (d.i + 4) ((d.i : Int) + 4) (by omega)
  have HC := Lib.hid (show comment d.rest = cEnd (untilT [45, 45] (d.cs.drop (d.i + 4))) by
    unfold comment cEnd Sd.rest
    rw [List.drop_drop]
    rcases untilT [45, 45] (d.cs.drop (d.i + 4)) with e | ⟨a, q⟩
    · rfl
    · cases q <;> rfl)
  obtain ⟨ca, cc, hcv, -, hcc, -⟩ := h.cshape
  go_enter Tryz.func26, Tryz.ntmps26
  go_wp2
  go_loopw [9] (fun _ wr => ∃ j, d.i ≤ j ∧ j ≤ d.cs.length ∧ At wr p { d with i := j } ∧ Chg [p.s] w wr ∧ Hid (comment d.rest = cEnd (untilT [45, 45] (d.cs.drop j)))) (fun _ wr => d.cs.length + 1 - natAt wr ⟨p.s, 1, none⟩)
  case atStart => exact ⟨d.i + 4, by omega, by omega, h0, (Chg.refl _ _).setCell (.inl (by simp)) _, HC⟩
  case round =>
    obtain ⟨j, j1, j2, h3, h4, H⟩ := hrel
    have e3 := h3.nat
    have AT := at_any h3 [45, 45] j2 (by decide)
    have en : nats [45, 45] = [45, 45] := rfl
    rw [en] at AT
    simp only [Sd.rest] at AT
    clear HC h0
    rcases hp : pre [45, 45] (d.cs.drop j) with _ | _
    · rw [hp] at AT
      by_cases hj : j < d.cs.length
      · have hcons := drop_cons d.cs j hj
        have HS := Lib.hid (show comment d.rest = cEnd (untilT [45, 45] (d.cs.drop (j + 1))) by
          rw [H.out]
          rw [hcons] at hp ⊢
          rw [untilT, if_neg (by rw [hp]; simp), cEnd_cons])
        have hpk : (pk (d.cs.drop j) == -1) = false := by rw [hcons]; simp [pk]
        have w1 : IntKind.i64.wrap ((j : Int) + 1) = (j : Int) + 1 := IntWalk.i64_in _ (by omega)
        clear hcons H hp
        go_wp2_with fail
        refine AT.mono ?_
        rintro e w4 ⟨rfl, hp4⟩
        have k4 := h3.pur hp4
        have PK := peek_any k4
        simp only [Sd.rest] at PK
        go_wp2_with fail
        refine PK.mono ?_
        rintro e w5 ⟨rfl, hp5⟩
        have k5 := k4.pur hp5
        have c1 := k5.c1
        have f1 := k5.f 1
        have k6 := k5.seti (j + 1) ((j : Int) + 1) (by omega)
        have e6 := k6.nat
        simp only at c1 e3 e6
        clear PK AT
        go_wp2
        go_roundw
        case rel => exact ⟨j + 1, by omega, by omega, k6, ((h4.pur hp4).pur hp5).setCell (.inl (by simp)) _, HS⟩
        case measure => rw [e3, e6]; omega
      · have hx : d.cs.drop j = [] := List.drop_of_length_le (by omega)
        have HS := Lib.hid (show comment d.rest = .error (0, 21) by rw [H.out, hx]; rfl)
        have hpk : (pk (d.cs.drop j) == -1) = true := by rw [hx]; rfl
        clear hx H hp
        go_wp2_with fail
        refine AT.mono ?_
        rintro e w4 ⟨rfl, hp4⟩
        have k4 := h3.pur hp4
        have PK := peek_any k4
        simp only [Sd.rest] at PK
        go_wp2_with fail
        refine PK.mono ?_
        rintro e w5 ⟨rfl, hp5⟩
        have k5 := k4.pur hp5
        have c1 := k5.c1
        simp only at c1
        go_wp2_with fail
        refine (fail_any k5 [p.s] j 21 (by omega)).mono ?_
        intro e w6 hf
        obtain ⟨b, rfl, hf2⟩ := id hf
        go_wp2
        refine ⟨rfl, ?_⟩
        rw [HS.out]
        simp only [Gives]
        rw [show d.cs.length - 0 = j by omega]
        exact Flt.after ((h4.pur hp4).pur hp5) hf
    · rw [hp] at AT
      have hlen := pre_len hp
      rw [List.length_drop] at hlen
      simp only [List.length_cons, List.length_nil] at hlen
      have hcons := drop_cons d.cs j (by omega)
      have hq : untilT [45, 45] (d.cs.drop j) = .ok ([], d.cs.drop (j + 2)) := by
        have hd2 : d.cs.drop (j + 2) = (d.cs.getD j 0 :: d.cs.drop (j + 1)).drop 2 := by rw [← hcons, List.drop_drop]
        rw [hd2]
        rw [hcons] at hp ⊢
        rw [untilT, if_pos hp]
        rfl
      have hp3 : pre [45, 45, 62] (d.cs.drop j) = hd (fun c => c == 62) (d.cs.drop (j + 2)) := by
        have hs2 : d.cs.drop j = [45, 45] ++ d.cs.drop (j + 2) := by
          have e1 : (d.cs.drop j).take 2 = [45, 45] := by simpa [pre] using hp
          have e2 := (List.take_append_drop 2 (d.cs.drop j)).symm
          rw [e1, List.drop_drop] at e2
          exact e2
        rw [hs2]
        cases d.cs.drop (j + 2) with
        | nil => rfl
        | cons c z => by_cases hc : c = 62 <;> simp [pre, hd, hc]
      have hlz : (d.cs.drop (j + 2)).length = d.cs.length - (j + 2) := List.length_drop
      have AT3 : ∀ w', Pur wr w' → Calls Tryz.prog 24 #[.pointer (some ⟨p.s, 0, none⟩), .string ⟨#[45, 45, 62]⟩] w' fun e w'' => e = .returned (.bool (pre [45, 45, 62] (d.cs.drop j))) ∧ Pur w' w'' := fun w' hp => at_any (h3.pur hp) [45, 45, 62] j2 (by decide)
      have C0 : ∀ w', Pur wr w' → w'.cell? ⟨p.s, 0, none⟩ = some (.slice ca d.cs.length cc) := fun w' hp => hcv ▸ (h3.pur hp).c0
      have C1 : ∀ w', Pur wr w' → w'.cell? ⟨p.s, 1, none⟩ = some (.int .i64 (j : Int)) := fun w' hp => (h3.pur hp).c1
      have ws3 : IntKind.i64.wrap ((j : Int) + 3) = (j : Int) + 3 := IntWalk.i64_in _ (by omega)
      have ws2 : IntKind.i64.wrap ((j : Int) + 2) = (j : Int) + 2 := IntWalk.i64_in _ (by omega)
      rw [hp3] at AT3
      rcases hc : d.cs.drop (j + 2) with _ | ⟨c, z⟩
      · rw [hc] at AT3 hlz hq
        have HS := Lib.hid (show comment d.rest = .error (0, 21) by rw [H.out, hq]; rfl)
        have hjl : j + 2 = d.cs.length := by simp only [List.length_nil] at hlz; omega
        have dd : decide ((d.cs.length : Int) ≤ (j : Int) + 2) = true := by simp; omega
        simp only [hd] at AT3
        clear H hq hp hp3 hcons hc hlz
        go_wp2_with fail
        refine AT.mono ?_
        rintro e w4 ⟨rfl, hp4⟩
        go_wp2_with fail
        refine (AT3 _ hp4).mono ?_
        rintro e w5 ⟨rfl, hp5⟩
        have P5 := hp4.trans hp5
        have c0 := C0 _ P5
        have c1 := C1 _ P5
        go_wp2
        go_region
        have P6 := P5.trans ((Pur.refl w5).drew)
        have c1 := C1 _ P6
        have k6 := h3.pur P6
        have f1 := k6.f 1
        have k7 := k6.seti (j + 2) ((j : Int) + 2) (by omega)
        have c7 := k7.c1
        have g7 : Chg [p.s] w (w5.drew.setCell ⟨p.s, 1, none⟩ (.int .i64 ((j : Int) + 2))) := (h4.pur P6).setCell (.inl (by simp)) _
        have FL := fail_any k7 [p.s] (j + 2) 21 (by omega)
        have ej : ((j + 2 : Nat) : Int) = (j : Int) + 2 := by omega
        simp only at c7
        rw [ej] at c7 FL
        go_wp2_with fail
        refine FL.mono ?_
        intro e w8 hf
        obtain ⟨b, rfl, hf2⟩ := id hf
        go_wp2
        refine ⟨rfl, ?_⟩
        rw [HS.out]
        simp only [Gives]
        rw [show d.cs.length - 0 = j + 2 by omega]
        exact Flt.after g7 hf
      · rw [hc] at AT3 hlz hq
        by_cases h62 : c = 62
        · subst h62
          have HS := Lib.hid (show comment d.rest = .ok ((), d.cs.drop (j + 3)) by
            rw [H.out, hq]
            simp only [cEnd, and_ok, if_true]
            have : d.cs.drop (j + 3) = (d.cs.drop (j + 2)).drop 1 := by rw [List.drop_drop]
            rw [this, hc]
            rfl)
          simp only [hd, beq_self_eq_true] at AT3
          have hjl : j + 3 ≤ d.cs.length := by simp only [List.length_cons] at hlz; omega
          clear H hq hp hp3 hcons hc hlz
          go_wp2_with fail
          refine AT.mono ?_
          rintro e w4 ⟨rfl, hp4⟩
          go_wp2_with fail
          refine (AT3 _ hp4).mono ?_
          rintro e w5 ⟨rfl, hp5⟩
          have P5 := hp4.trans hp5
          have c1 := C1 _ P5
          have k6 := h3.pur P5
          have f1 := k6.f 1
          have k7 := k6.seti (j + 3) ((j : Int) + 3) (by omega)
          go_wp2
          refine bodyPost_end (results_none rfl _ _ _) rfl ?_
          rw [HS.out]
          exact ⟨rfl, j + 3, rfl, by omega, by omega, k7, (h4.pur P5).setCell (.inl (by simp)) _⟩
        · have HS := Lib.hid (show comment d.rest = .error ((c :: z).length + 2, 21) by
            rw [H.out, hq]
            simp only [cEnd, and_ok]
            rw [if_neg h62])
          have hb : hd (fun c => c == 62) (c :: z) = false := by simp [hd, h62]
          rw [hb] at AT3
          have dd : decide ((d.cs.length : Int) ≤ (j : Int) + 2) = false := by simp only [List.length_cons] at hlz; simp; omega
          have hfin : d.cs.length - ((c :: z).length + 2) = j := by simp only [List.length_cons] at hlz ⊢; omega
          have hlz2 : j + 2 < d.cs.length := by simp only [List.length_cons] at hlz; omega
          clear H hq hp hp3 hcons hc hlz hb
          go_wp2_with fail
          refine AT.mono ?_
          rintro e w4 ⟨rfl, hp4⟩
          go_wp2_with fail
          refine (AT3 _ hp4).mono ?_
          rintro e w5 ⟨rfl, hp5⟩
          have P5 := hp4.trans hp5
          have c0 := C0 _ P5
          have c1 := C1 _ P5
          go_wp2
          go_region
          have P6 := P5.trans ((Pur.refl w5).drew)
          have c1 := C1 _ P6
          have k6 := h3.pur P6
          go_wp2_with fail
          refine (fail_any k6 [p.s] j 21 (by omega)).mono ?_
          intro e w8 hf
          obtain ⟨b, rfl, hf2⟩ := id hf
          go_wp2
          refine ⟨rfl, ?_⟩
          rw [HS.out]
          simp only [Gives]
          rw [hfin]
          exact Flt.after (h4.pur P6) hf
end Tk
end Go.Proofs.YtaknfofppknloaaGreatDoor
