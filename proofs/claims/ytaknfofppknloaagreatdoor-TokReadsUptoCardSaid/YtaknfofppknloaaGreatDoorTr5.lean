/- Layer 2, the document's answer: what a reference means. -/
import Derived.Test.YtaknfofppknloaaGreatDoorTrP
namespace Go.Proofs.YtaknfofppknloaaGreatDoor
open Go Go.RowKit
set_option linter.all false
namespace Tk
variable {w : World} {r : Ro} {cs : Cs} {i e : Nat} {wh : Nat × Nat}
/-- what a name is: one of the five, a number, none -/
inductive NmWay (b : Cs) : Prop
  | lt (h : b = wLt)
  | gt (h : b = wGt)
  | amp (h : b = wAmp)
  | quot (h : b = wQuot)
  | apos (h : b = wApos)
  | num (d : Nat) (ds : Cs) (h : b = 35 :: d :: ds)
  | none (h1 : b ≠ wLt) (h2 : b ≠ wGt) (h3 : b ≠ wAmp) (h4 : b ≠ wQuot) (h5 : b ≠ wApos) (h6 : refNum b = Option.none) (h7 : ¬ 1 < (narrow b).length ∨ by8 (narrow b) 0 ≠ 35)
theorem nmWay (b : Cs) (hb : ∀ c ∈ b, rOk c = true) : NmWay b := by
  by_cases h1 : b = wLt
  · exact .lt h1
  by_cases h2 : b = wGt
  · exact .gt h2
  by_cases h3 : b = wAmp
  · exact .amp h3
  by_cases h4 : b = wQuot
  · exact .quot h4
  by_cases h5 : b = wApos
  · exact .apos h5
  rcases b with _ | ⟨c, b⟩
  · exact .none h1 h2 h3 h4 h5 rfl (.inl (by simp [narrow]))
  · have hc := (rOk_ne (hb c (by simp))).2
    by_cases h35 : c = 35
    · subst h35
      rcases b with _ | ⟨d, ds⟩
      · exact .none h1 h2 h3 h4 h5 rfl (.inl (by decide))
      · exact .num d ds rfl
    · refine .none h1 h2 h3 h4 h5 (refNum_no b h35) (.inr ?_)
      rw [narrow_one hc]
      show (UInt8.ofNat c).toNat ≠ 35
      rw [UInt8.toNat_ofNat']; omega
theorem narrow_inj : ∀ (a b : Cs), (∀ c ∈ a, rOk c = true) → (∀ c ∈ b, rOk c = true) → narrow a = narrow b → a = b
  | [], [], _, _, _ => rfl
  | [], d :: b, _, hb, h => by
    rw [narrow_one (rOk_ne (hb d (by simp))).2] at h
    cases h
  | c :: a, [], ha, _, h => by
    rw [narrow_one (rOk_ne (ha c (by simp))).2] at h
    cases h
  | c :: a, d :: b, ha, hb, h => by
    have hc := (rOk_ne (ha c (by simp))).2
    have hd := (rOk_ne (hb d (by simp))).2
    rw [narrow_one hc, narrow_one hd] at h
    obtain ⟨h1, h2⟩ := List.cons.inj h
    have h3 := congrArg UInt8.toNat h1
    rw [UInt8.toNat_ofNat', UInt8.toNat_ofNat'] at h3
    rw [show c = d by omega, narrow_inj a b (fun x hx => ha x (by simp [hx])) (fun x hx => hb x (by simp [hx])) h2]
theorem numB_ok (D : List UInt8) (v : Nat) (h : numB D = some v) : okc v := by
  have fin : ∀ base ds, numFin base ds = some v → okc v := by
    intro base ds h
    unfold numFin at h
    split at h
    · cases h
    · rcases hg : numBGo base 0 ds with _ | u
      · rw [hg] at h; cases h
      · rw [hg] at h
        simp only [Option.bind_some] at h
        split at h
        · rename_i hh
          cases h
          simp only [Bool.or_eq_true, beq_iff_eq] at hh
          rcases hh with hh | hh
          · exact allowed_okc hh
          · subst hh; unfold okc; omega
        · cases h
  unfold numB at h
  split at h
  · exact fin _ _ h
  · exact fin _ _ h
set_option maxRecDepth 100000 in
set_option maxHeartbeats 8000000 in
theorem rref_any (h : Sc w r cs i 0 wh) (h38 : ∃ q, cs.drop i = 38 :: q) : Calls Tryz.prog 44 #[.pointer (some ⟨r.p, 0, none⟩)] w fun e w' => Ends w r cs i wh (reference (cs.drop i)) (fun v => .string ⟨(enc v).toArray⟩) (fun u => u = .string ⟨#[]⟩) 0 e w' := by
  obtain ⟨q, hq⟩ := h38
  have hcl := h.clen
  have hil : i < cs.length := by
    rcases Nat.lt_or_ge i cs.length with g | g
    · exact g
    · rw [List.drop_of_length_le g] at hq; cases hq
  have c3 := h.c3
  have hq1 : cs.drop (i + 1) = q := by rw [← List.drop_drop, hq]; rfl
  have hlen : (38 :: q).length = cs.length - i := by rw [← hq, List.length_drop]
  have HE := Lib.hid (reference_end q)
  rw [hlen] at HE
  rw [hq]
  have wi : IntKind.i64.wrap ((i : Int) + 1) = (i : Int) + 1 := IntWalk.i64_in _ (by omega)
  go_enter Tryz.func44, Tryz.ntmps44
  go_wp2
  go_loopw [4] (fun k wr => ∃ t : Nat, i + 1 ≤ t ∧ t ≤ cs.length ∧ k = .int .i64 (t : Int) ∧ wr = w ∧ Hid (∀ k, i + 1 ≤ k → k < t → rOk (cs.getD k 0) = true)) (fun k _ => cs.length + 1 - (intOf k).toNat)
  case atStart => exact ⟨i + 1, by omega, by omega, by simp, rfl, Lib.hid (fun k _ _ => by omega)⟩
  case round =>
    obtain ⟨t, t1, t2, rfl, rfl, H⟩ := hrel
    have CC := c_any h t (by omega)
    have wt : IntKind.i64.wrap ((t : Int) + 1) = (t : Int) + 1 := IntWalk.i64_in _ (by omega)
    rcases hr : hd rOk (cs.drop t) with _ | _
    · obtain ⟨ht, hd2⟩ := takeWhile_drop rOk cs (i + 1) t t1 t2 H.out hr
      rw [hq1] at ht hd2
      have hbody := takeW_all rOk q
      rw [ht, hd2] at HE
      rw [ht] at hbody
      rcases h59 : hd (fun c => c == 59) (cs.drop t) with _ | _
      · -- no reference
        have hE : refEnd (cs.length - i) (q.take (t - (i + 1))) (cs.drop t) = .error (cs.length - i, 22) := by
          unfold refEnd
          split
          · rename_i e; rw [e] at h59; cases h59
          · rfl
        rw [hE] at HE
        have BO := bad_ok h i 22 (by omega)
        have hpk : pk (cs.drop t) < 0 ∨ 127 < pk (cs.drop t) := by
          cases hx : cs.drop t with
          | nil => exact .inl (by simp [pk])
          | cons x z =>
            rw [hx] at h59 hr
            right
            have hx59 : x ≠ 59 := by simpa [hd] using h59
            have hx127 : ¬ x ≤ 127 := by
              intro hle
              simp only [hd, rOk, Bool.and_eq_false_iff, bne_eq_false_iff_eq, decide_eq_false_iff_not] at hr
              omega
            simp only [pk]
            omega
        have hne : (pk (cs.drop t) != 59) = true := by simp; omega
        generalize pk (cs.drop t) = x at *
        have HE' := HE
        clear hE hr ht hd2 hbody h59 H HE
        rcases hpk with hx | hx
        · have d1 : decide (x < 0) = true := by simpa using hx
          clear hx
          go_wp2_with fail
          refine CC.mono ?_
          rintro e1 w1 ⟨rfl, rfl⟩
          go_wp2_with fail
          refine CC.mono ?_
          rintro e1 w1 ⟨rfl, rfl⟩
          go_wp2_with fail
          refine BO.mono ?_
          rintro e1 w4 ⟨rfl, h5, hc5⟩
          go_wp2
          go_ret
          rw [HE'.out]
          refine ⟨⟨_, rfl, rfl⟩, i, by omega, by omega, by omega, ?_, hc5⟩
          rw [show cs.length - (cs.length - i) = i by omega]
          exact h5
        · have d1 : decide (x < 0) = false := by simp; omega
          have d2 : decide (127 < x) = true := by simpa using hx
          clear hx
          go_wp2_with fail
          refine CC.mono ?_
          rintro e1 w1 ⟨rfl, rfl⟩
          go_wp2_with fail
          refine CC.mono ?_
          rintro e1 w1 ⟨rfl, rfl⟩
          go_wp2_with fail
          refine CC.mono ?_
          rintro e1 w1 ⟨rfl, rfl⟩
          go_wp2_with fail
          refine BO.mono ?_
          rintro e1 w4 ⟨rfl, h5, hc5⟩
          go_wp2
          go_ret
          rw [HE'.out]
          refine ⟨⟨_, rfl, rfl⟩, i, by omega, by omega, by omega, ?_, hc5⟩
          rw [show cs.length - (cs.length - i) = i by omega]
          exact h5
      · obtain ⟨z, hz⟩ : ∃ z, cs.drop t = 59 :: z := by
          cases hx : cs.drop t with
          | nil => rw [hx] at h59; cases h59
          | cons x z => rw [hx] at h59; exact ⟨z, by rw [show x = 59 by simpa [hd] using h59]⟩
        have htl : t < cs.length := by
          rcases Nat.lt_or_ge t cs.length with g | g
          · exact g
          · rw [List.drop_of_length_le g] at hz; cases hz
        have hz1 : cs.drop (t + 1) = z := by rw [← List.drop_drop, hz]; rfl
        have hpk : pk (cs.drop t) = 59 := by rw [hz]; rfl
        rw [hpk] at CC
        rw [hz] at HE
        simp only [refEnd] at HE
        have PT := part_any h (i + 1) t t1 t2
        rw [hq1] at PT
        have hNW := nmWay _ hbody
        have hbl : (narrow (q.take (t - (i + 1)))).length ≤ 262144 := by
          have h := narrow_len (q.take (t - (i + 1)))
          rw [List.length_take] at h
          have : q.length ≤ 65536 := by rw [← hq1, List.length_drop]; omega
          omega
        generalize q.take (t - (i + 1)) = b at *
        have k4 := h.seti (t + 1) ((t : Int) + 1) (by omega)
        have f3 := h.f 3
        have hc4 := Chg.seti r wr 3 (.int .i64 ((t : Int) + 1))
        have hi1 : ((i + 1 : Nat) : Int) = (i : Int) + 1 := by omega
        rw [hi1] at PT
        clear hr ht hd2 h59 H hpk hz
        rcases hNW with rfl | rfl | rfl | rfl | rfl | ⟨d, ds, rfl⟩ | ⟨h1, h2, h3, h4, h5, h6, h7⟩
        · have hres := Lib.hid (show reference (38 :: q) = .ok (60, z) by rw [HE.out]; rfl)
          rw [show narrow wLt = [108, 116] by decide] at PT
          clear HE hbody hbl
          go_wp2_with fail
          refine CC.mono ?_
          rintro e1 w1 ⟨rfl, rfl⟩
          go_wp2_with fail
          refine PT.mono ?_
          rintro e1 w1 ⟨rfl, rfl⟩
          go_wp2
          go_ret
          rw [hres.out]
          exact ⟨rfl, t + 1, hz1, by omega, by omega, k4, hc4⟩
        · have hres := Lib.hid (show reference (38 :: q) = .ok (62, z) by rw [HE.out]; rfl)
          rw [show narrow wGt = [103, 116] by decide] at PT
          clear HE hbody hbl
          go_wp2_with fail
          refine CC.mono ?_
          rintro e1 w1 ⟨rfl, rfl⟩
          go_wp2_with fail
          refine PT.mono ?_
          rintro e1 w1 ⟨rfl, rfl⟩
          go_wp2
          go_ret
          rw [hres.out]
          exact ⟨rfl, t + 1, hz1, by omega, by omega, k4, hc4⟩
        · have hres := Lib.hid (show reference (38 :: q) = .ok (38, z) by rw [HE.out]; rfl)
          rw [show narrow wAmp = [97, 109, 112] by decide] at PT
          clear HE hbody hbl
          go_wp2_with fail
          refine CC.mono ?_
          rintro e1 w1 ⟨rfl, rfl⟩
          go_wp2_with fail
          refine PT.mono ?_
          rintro e1 w1 ⟨rfl, rfl⟩
          go_wp2
          go_ret
          rw [hres.out]
          exact ⟨rfl, t + 1, hz1, by omega, by omega, k4, hc4⟩
        · have hres := Lib.hid (show reference (38 :: q) = .ok (34, z) by rw [HE.out]; rfl)
          rw [show narrow wQuot = [113, 117, 111, 116] by decide] at PT
          clear HE hbody hbl
          go_wp2_with fail
          refine CC.mono ?_
          rintro e1 w1 ⟨rfl, rfl⟩
          go_wp2_with fail
          refine PT.mono ?_
          rintro e1 w1 ⟨rfl, rfl⟩
          go_wp2
          go_ret
          rw [hres.out]
          exact ⟨rfl, t + 1, hz1, by omega, by omega, k4, hc4⟩
        · have hres := Lib.hid (show reference (38 :: q) = .ok (39, z) by rw [HE.out]; rfl)
          rw [show narrow wApos = [97, 112, 111, 115] by decide] at PT
          clear HE hbody hbl
          go_wp2_with fail
          refine CC.mono ?_
          rintro e1 w1 ⟨rfl, rfl⟩
          go_wp2_with fail
          refine PT.mono ?_
          rintro e1 w1 ⟨rfl, rfl⟩
          go_wp2
          go_ret
          rw [hres.out]
          exact ⟨rfl, t + 1, hz1, by omega, by omega, k4, hc4⟩
        · -- a number
          have hd127 := (rOk_ne (hbody d (by simp))).2
          have hn : narrow (35 :: d :: ds) = 35 :: narrow (d :: ds) := narrow_one (by omega) _
          have hn2 : narrow (d :: ds) = UInt8.ofNat d :: narrow ds := narrow_one hd127 _
          rw [hn] at PT hbl
          have HE' : reference (38 :: q) = match numB (narrow (d :: ds)) with | some v => .ok (v, z) | none => .error (cs.length - i, 22) := by
            rw [HE.out]
            have : refName (35 :: d :: ds) = numB (narrow (d :: ds)) := by
              unfold refName
              rw [if_neg (by simp [wLt]), if_neg (by simp [wGt]), if_neg (by simp [wAmp]), if_neg (by simp [wQuot]), if_neg (by simp [wApos])]
              rfl
            rw [this]
            rcases numB (narrow (d :: ds)) with _ | v <;> rfl
          have hsub : sub (35 :: narrow (d :: ds)) 1 ((narrow (d :: ds)).length + 1) = narrow (d :: ds) := by simp [sub]
          have hlen0 : 0 < (narrow (d :: ds)).length := by rw [hn2]; simp
          have NB := fun w => numbered_any (narrow (d :: ds)) w (by simp at hbl; omega)
          have hlen1 : 1 < (35 :: narrow (d :: ds)).length := by rw [hn2]; simp
          have hb35 : by8 (35 :: narrow (d :: ds)) 0 = 35 := by simp [by8]
          have hok := fun v => numB_ok (narrow (d :: ds)) v
          have n1 : ¬ (35 :: narrow (d :: ds) = [108, 116]) := by simp
          have n2 : ¬ (35 :: narrow (d :: ds) = [103, 116]) := by simp
          have n3 : ¬ (35 :: narrow (d :: ds) = [97, 109, 112]) := by simp
          have n4 : ¬ (35 :: narrow (d :: ds) = [113, 117, 111, 116]) := by simp
          have n5 : ¬ (35 :: narrow (d :: ds) = [97, 112, 111, 115]) := by simp
          generalize hNo : numB (narrow (d :: ds)) = o at *
          generalize narrow (d :: ds) = nb at *
          clear HE hn hn2 hbody
          rcases o with _ | v
          · have hres := Lib.hid HE'
            have BO := fun (h' : Sc (wr.setCell ⟨r.p, 3, none⟩ (.int .i64 ((t : Int) + 1))) r cs (t + 1) 0 wh) => bad_ok h' i 22 (by omega)
            simp only [optI] at NB
            clear HE' hok
            go_wp2_with fail
            refine CC.mono ?_
            rintro e1 w1 ⟨rfl, rfl⟩
            go_wp2_with fail
            refine PT.mono ?_
            rintro e1 w1 ⟨rfl, rfl⟩
            go_wp2_with fail
            refine (NB _).mono ?_
            rintro e1 w1 ⟨rfl, rfl⟩
            go_wp2_with fail
            refine (BO k4).mono ?_
            rintro e1 w4 ⟨rfl, h5, hc5⟩
            go_wp2
            go_ret
            rw [hres.out]
            refine ⟨⟨_, rfl, rfl⟩, t + 1, by omega, by omega, by omega, ?_, hc4.trans hc5⟩
            rw [show cs.length - (cs.length - i) = i by omega]
            exact h5
          · have hres := Lib.hid HE'
            have UT := fun w => utf_any v (hok v rfl) w
            have dv : decide ((v : Int) < 0) = false := by simp <;> omega
            simp only [optI] at NB
            clear HE' hok hNo
            go_wp2_with fail
            refine CC.mono ?_
            rintro e1 w1 ⟨rfl, rfl⟩
            go_wp2_with fail
            refine PT.mono ?_
            rintro e1 w1 ⟨rfl, rfl⟩
            go_wp2_with fail
            refine (NB _).mono ?_
            rintro e1 w1 ⟨rfl, rfl⟩
            go_wp2_with fail
            refine (UT _).mono ?_
            rintro e1 w4 ⟨rfl, p5⟩
            go_wp2
            go_ret
            rw [hres.out]
            exact ⟨rfl, t + 1, hz1, by omega, by omega, k4.pur p5, hc4.pur p5⟩
        · -- no name
          have hres := Lib.hid (show reference (38 :: q) = .error (cs.length - i, 22) by
            rw [HE.out]
            have : refName b = none := by
              unfold refName
              rw [if_neg h1, if_neg h2, if_neg h3, if_neg h4, if_neg h5, h6]
            rw [this])
          have inj := fun (W : Cs) (hW : ∀ c ∈ W, rOk c = true) (hne : b ≠ W) (e : narrow b = narrow W) => hne (narrow_inj b W hbody hW e)
          have n1 : (narrow b == [108, 116]) = false := by rw [beq_eq_false_iff_ne]; exact fun e => inj wLt (by decide) h1 (e.trans (by decide))
          have n2 : (narrow b == [103, 116]) = false := by rw [beq_eq_false_iff_ne]; exact fun e => inj wGt (by decide) h2 (e.trans (by decide))
          have n3 : (narrow b == [97, 109, 112]) = false := by rw [beq_eq_false_iff_ne]; exact fun e => inj wAmp (by decide) h3 (e.trans (by decide))
          have n4 : (narrow b == [113, 117, 111, 116]) = false := by rw [beq_eq_false_iff_ne]; exact fun e => inj wQuot (by decide) h4 (e.trans (by decide))
          have n5 : (narrow b == [97, 112, 111, 115]) = false := by rw [beq_eq_false_iff_ne]; exact fun e => inj wApos (by decide) h5 (e.trans (by decide))
          have BO := fun (h' : Sc (wr.setCell ⟨r.p, 3, none⟩ (.int .i64 ((t : Int) + 1))) r cs (t + 1) 0 wh) => bad_ok h' i 22 (by omega)
          clear inj HE hbody h1 h2 h3 h4 h5 h6
          generalize narrow b = nb at *
          by_cases h71 : 1 < nb.length
          · have h72 : by8 nb 0 ≠ 35 := h7.resolve_left fun hh => hh h71
            have d35 : ((by8 nb 0 : Int) == 35) = false := by rw [beq_eq_false_iff_ne]; omega
            clear h7 h72
            go_wp2_with fail
            refine CC.mono ?_
            rintro e1 w1 ⟨rfl, rfl⟩
            go_wp2_with fail
            refine PT.mono ?_
            rintro e1 w1 ⟨rfl, rfl⟩
            go_wp2_with fail
            refine (BO k4).mono ?_
            rintro e1 w4 ⟨rfl, h5, hc5⟩
            go_wp2
            go_ret
            rw [hres.out]
            refine ⟨⟨_, rfl, rfl⟩, t + 1, by omega, by omega, by omega, ?_, hc4.trans hc5⟩
            rw [show cs.length - (cs.length - i) = i by omega]
            exact h5
          · clear h7
            go_wp2_with fail
            refine CC.mono ?_
            rintro e1 w1 ⟨rfl, rfl⟩
            go_wp2_with fail
            refine PT.mono ?_
            rintro e1 w1 ⟨rfl, rfl⟩
            go_wp2_with fail
            refine (BO k4).mono ?_
            rintro e1 w4 ⟨rfl, h5, hc5⟩
            go_wp2
            go_ret
            rw [hres.out]
            refine ⟨⟨_, rfl, rfl⟩, t + 1, by omega, by omega, by omega, ?_, hc4.trans hc5⟩
            rw [show cs.length - (cs.length - i) = i by omega]
            exact h5
    · -- on
      have hx : ∃ x z, cs.drop t = x :: z ∧ x ≠ 59 ∧ x ≤ 127 := by
        cases hx : cs.drop t with
        | nil => rw [hx] at hr; cases hr
        | cons x z =>
          rw [hx] at hr
          obtain ⟨k1, k2⟩ := rOk_ne (show rOk x = true from hr)
          exact ⟨x, z, rfl, k1, k2⟩
      obtain ⟨x, z, hxz, hx59, hx127⟩ := hx
      have htl : t < cs.length := by
        rcases Nat.lt_or_ge t cs.length with g | g
        · exact g
        · rw [List.drop_of_length_le g] at hxz; cases hxz
      have hxg : cs.getD t 0 = x := by
        rw [drop_cons cs t htl] at hxz
        exact (List.cons.inj hxz).1
      have H' := Lib.hid (show ∀ k, i + 1 ≤ k → k < t + 1 → rOk (cs.getD k 0) = true from fun k k1 k2 => by
        rcases Nat.lt_or_ge k t with k3 | k3
        · exact H.out k k1 k3
        · obtain rfl : k = t := by omega
          rw [hxz] at hr; rw [hxg]; exact hr)
      have hpk : pk (cs.drop t) = (x : Int) := by rw [hxz]; rfl
      rw [hpk] at CC
      have hne : ((x : Int) != 59) = true := by simp; omega
      have d1 : decide ((x : Int) < 0) = false := by simp <;> omega
      have d2 : decide ((127 : Int) < (x : Int)) = false := by simp <;> omega
      clear hr hpk hxz hx59 hx127 H hxg HE
      go_wp2_with fail
      refine CC.mono ?_
      rintro e1 w1 ⟨rfl, rfl⟩
      go_wp2_with fail
      refine CC.mono ?_
      rintro e1 w1 ⟨rfl, rfl⟩
      go_wp2_with fail
      refine CC.mono ?_
      rintro e1 w1 ⟨rfl, rfl⟩
      go_wp2
      go_roundw
      case rel => exact ⟨t + 1, by omega, by omega, by go_num, trivial, H'⟩
      case measure => simp [intOf]; omega
end Tk
end Go.Proofs.YtaknfofppknloaaGreatDoor
