/- Layer 2, the document's answer: text up to the next '<'. -/
import Derived.Test.YtaknfofppknloaaGreatDoorTr7
import Derived.Test.YtaknfofppknloaaGreatDoorTk12
namespace Go.Proofs.YtaknfofppknloaaGreatDoor
open Go Go.RowKit
set_option linter.all false
namespace Tk
variable {w : World} {r : Ro} {cs : Cs} {i e : Nat} {wh : Nat × Nat}
set_option maxRecDepth 100000 in
set_option maxHeartbeats 16000000 in
theorem rwords_any (h : Sc w r cs i 0 wh) (hi : i ≤ cs.length) : Calls Tryz.prog 18 #[.pointer (some ⟨r.p, 0, none⟩)] w fun e w' => Ends w r cs i wh (chunk (cs.drop i)) (fun v => .string ⟨(narrow v).toArray⟩) Str 0 e w' := by
  have hcl := h.clen
  go_enter Tryz.func18, Tryz.ntmps18
  go_wp2
  go_loopw [3] (fun s wr => (∃ (j f : Nat) (acc : Cs), i ≤ j ∧ j ≤ cs.length ∧ cs.length - j < f ∧ acc.length ≤ j ∧ s = .string ⟨(narrow acc).toArray⟩ ∧ Sc wr r cs j 0 wh ∧ Chg [r.p] w wr ∧ Hid (chunk (cs.drop i) = (chunkGo f (cs.drop j)).and fun a z => .ok (acc ++ a, z))) ∨
    (∃ (j k n : Nat) (u : List UInt8), i ≤ j ∧ j ≤ cs.length ∧ n ≠ 0 ∧ s = .string ⟨u.toArray⟩ ∧ u.length ≤ 300000 ∧ Sc wr r cs j n (place cs (cs.length - k)) ∧ Chg [r.p] w wr ∧ Hid (chunk (cs.drop i) = .error (k, n)))) (fun _ wr => if natAt wr ⟨r.p, 4, none⟩ = 0 then cs.length + 2 - natAt wr ⟨r.p, 3, none⟩ else 0)
  case atStart => exact .inl ⟨i, (cs.drop i).length + 1, [], by omega, by omega, by rw [List.length_drop]; omega, by simp, rfl, h, Chg.refl _ _, Lib.hid (by unfold chunk; rcases chunkGo ((cs.drop i).length + 1) (cs.drop i) with x | ⟨x, y⟩ <;> simp)⟩
  case round =>
    rcases hrel with ⟨j, f, acc, j1, j2, hf, hac, rfl, h3, h4, H⟩ | ⟨j, k, n, u, j1, j2, hn, rfl, hu, h3, h4, H⟩
    · have c3 := h3.c3
      have c4 := h3.c4
      have CJ := c_any h3 j (by omega)
      have e3 := h3.nat
      have e4 := h3.err
      obtain ⟨f, rfl⟩ : ∃ g, f = g + 1 := ⟨f - 1, by omega⟩
      have hnl := narrow_len acc
      by_cases hx : pk (cs.drop j) < 0
      · -- the document's end
        have hz : cs.drop j = [] := by
          cases hh : cs.drop j with
          | nil => rfl
          | cons x z => rw [hh] at hx; simp only [pk] at hx; omega
        have hres := Lib.hid (show chunk (cs.drop i) = .ok (acc, cs.drop j) by rw [H.out, hz, chunkGo, and_ok, List.append_nil])
        have d1 : decide (0 ≤ pk (cs.drop j)) = false := by simp <;> omega
        clear H hz hx
        generalize hpv : pk (cs.drop j) = pv at *
        clear hpv
        go_wp2_with fail
        refine CJ.mono ?_
        rintro e1 w1 ⟨rfl, rfl⟩
        go_wp2
        go_ret
        rw [hres.out]
        exact ⟨rfl, j, rfl, j1, j2, h3, h4⟩
      by_cases h60 : pk (cs.drop j) = 60
      · -- the next '<'
        have hd : ∃ z, cs.drop j = 60 :: z := by
          cases hh : cs.drop j with
          | nil => rw [hh] at h60; simp [pk] at h60
          | cons x z => rw [hh] at h60; simp only [pk] at h60; exact ⟨z, by rw [show x = 60 by omega]⟩
        obtain ⟨z, hz⟩ := hd
        have hres := Lib.hid (show chunk (cs.drop i) = .ok (acc, cs.drop j) by rw [H.out, hz, chunkGo, if_pos rfl, and_ok, List.append_nil])
        rw [h60] at CJ
        clear H hz hx h60
        go_wp2_with fail
        refine CJ.mono ?_
        rintro e1 w1 ⟨rfl, rfl⟩
        go_wp2_with fail
        refine CJ.mono ?_
        rintro e1 w1 ⟨rfl, rfl⟩
        go_wp2
        go_ret
        rw [hres.out]
        exact ⟨rfl, j, rfl, j1, j2, h3, h4⟩
      obtain ⟨x, z, hxz, hx60⟩ : ∃ x z, cs.drop j = x :: z ∧ x ≠ 60 := by
        cases hh : cs.drop j with
        | nil => rw [hh] at hx; simp [pk] at hx
        | cons x z => rw [hh] at h60; simp only [pk] at h60; exact ⟨x, z, rfl, by omega⟩
      have hjl : j < cs.length := by
        rcases Nat.lt_or_ge j cs.length with g | g
        · exact g
        · rw [List.drop_of_length_le g] at hxz; cases hxz
      have hxg : cs.getD j 0 = x := by
        rw [drop_cons cs j hjl] at hxz
        exact (List.cons.inj hxz).1
      have hz1 : cs.drop (j + 1) = z := by rw [← List.drop_drop, hxz]; rfl
      have hpk : pk (cs.drop j) = (x : Int) := by rw [hxz]; rfl
      have hpk' := Lib.hid hpk
      rw [hpk] at CJ
      have d1 : decide ((0 : Int) ≤ (x : Int)) = true := by simp
      have d2 : ((x : Int) != 60) = true := by simp <;> omega
      have HE := here_any h3 [93, 93, 62] (by omega) (by decide)
      rw [show nats [93, 93, 62] = [93, 93, 62] from rfl] at HE
      rcases hpre : pre [93, 93, 62] (cs.drop j) with _ | _
      · rw [hpre] at HE
        by_cases h38 : x = 38
        · -- a reference
          have hg : chunkGo (f + 1) (cs.drop j) = (reference (cs.drop j)).and fun v q => (chunkGo f q).and fun a z => .ok (v :: a, z) := by
            rw [hxz] at hpre ⊢
            rw [h38] at hpre ⊢
            rw [chunkGo, if_neg (by omega), if_neg (by rw [hpre]; simp), if_pos rfl]
          have d38 : ((x : Int) == 38) = true := by rw [beq_iff_eq]; omega
          have RFd := fun w' (h' : Sc w' r cs j 0 wh) => rref_any h' ⟨z, by rw [hxz, h38]⟩
          rcases hrf : reference (cs.drop j) with ⟨k, n⟩ | ⟨v, y⟩
          · rw [hrf] at RFd hg
            have hres := Lib.hid (show chunk (cs.drop i) = .error (k, n) by rw [H.out, hg]; rfl)
            have z0 : ¬ 9223372036854775807 < (narrow acc).length := by omega
            generalize hna : narrow acc = na at *
            clear H hg hrf hx hpk hxz hx60 hxg h38 h60 hpre
            go_wp2_with fail
            refine CJ.mono ?_
            rintro e1 w1 ⟨rfl, rfl⟩
            go_wp2_with fail
            refine CJ.mono ?_
            rintro e1 w1 ⟨rfl, rfl⟩
            go_wp2_with fail
            refine HE.mono ?_
            rintro e1 w3 ⟨rfl, p3⟩
            have h5 := h3.pur p3
            have c3 := h5.c3
            have c4 := h5.c4
            have CJ := c_any h5 j (by omega)
            rw [hpk'.out] at CJ
            go_wp2_with fail
            refine CJ.mono ?_
            rintro e1 w1 ⟨rfl, rfl⟩
            go_wp2_with fail
            refine (RFd _ h5).mono ?_
            rintro e1 w4 ⟨⟨u', rfl, rfl⟩, j', m1, m2, m3, h6, hc6⟩
            have e5 := h6.err
            go_wp2
            go_roundw
            case rel => exact .inr ⟨j', k, n, na, by omega, by omega, m3, (by first | rfl | simp), by omega, h6, (h4.pur p3).trans hc6, hres⟩
            case measure => rw [e5, e4, e3, if_neg m3, if_pos rfl]; omega
          · rw [hrf] at RFd hg
            simp only [and_ok] at hg
            have HS := Lib.hid (chunk_step H.out hg)
            have hyl := (ref_ok hrf).2
            rw [List.length_drop] at hyl
            have hel := enc_length_le v
            have z0 : ¬ 9223372036854775807 < (narrow acc).length + (enc v).length := by omega
            have hns := Lib.hid (narrow_snc acc v)
            generalize hna : narrow acc = na at *
            clear H hg hrf hx hpk hxz hx60 hxg h38 hna h60 hpre
            go_wp2_with fail
            refine CJ.mono ?_
            rintro e1 w1 ⟨rfl, rfl⟩
            go_wp2_with fail
            refine CJ.mono ?_
            rintro e1 w1 ⟨rfl, rfl⟩
            go_wp2_with fail
            refine HE.mono ?_
            rintro e1 w3 ⟨rfl, p3⟩
            have h5 := h3.pur p3
            have c3 := h5.c3
            have c4 := h5.c4
            have CJ := c_any h5 j (by omega)
            rw [hpk'.out] at CJ
            go_wp2_with fail
            refine CJ.mono ?_
            rintro e1 w1 ⟨rfl, rfl⟩
            go_wp2_with fail
            refine (RFd _ h5).mono ?_
            rintro e1 w4 ⟨rfl, j', m0, m1, m2, h6, hc6⟩
            have m4 : j < j' := by
              have : y.length = cs.length - j' := by rw [← m0, List.length_drop]
              omega
            have m0 := Lib.hid m0
            clear hyl
            have e5 := h6.err
            have e6 := h6.nat
            go_wp2
            go_roundw
            case rel => exact .inl ⟨j', f, acc ++ [v], by omega, m2, by omega, by simp; omega, by rw [hns.out], h6, (h4.pur p3).trans hc6, by rw [m0.out]; exact HS⟩
            case measure => rw [e5, e4, e3, e6, if_pos rfl, if_pos rfl]; omega
        · -- a character
          have d38 : ((x : Int) == 38) = false := by rw [beq_eq_false_iff_ne]; omega
          have hg : chunkGo (f + 1) (cs.drop j) = (chunkGo f (cs.drop (j + 1))).and fun a z => .ok (x :: a, z) := by
            rw [hz1]
            rw [hxz] at hpre ⊢
            rw [chunkGo, if_neg hx60, if_neg (by rw [hpre]; simp), if_neg h38]
          have HS := Lib.hid (chunk_step H.out hg)
          have wj : IntKind.i64.wrap ((j : Int) + 1) = (j : Int) + 1 := IntWalk.i64_in _ (by omega)
          obtain ⟨ta, tc, htv, htc, hcell⟩ := h3.tshape
          obtain ⟨g, rfl, -⟩ := hcell j hjl
          have T0 : ∀ y : PW wr, y.to.cell? ⟨r.p, 0, none⟩ = some (.slice (some ⟨g, 0, none⟩) cs.length tc) := fun y => htv ▸ (h3.pur y.pur).c0
          have T3 : ∀ y : PW wr, y.to.cell? ⟨r.p, 3, none⟩ = some (.int .i64 (j : Int)) := fun y => (h3.pur y.pur).c3
          have TX : ∀ y : PW wr, y.to.cell? ⟨g, j, none⟩ = some (.string ⟨(enc x).toArray⟩) := fun y => by
            obtain ⟨ta', tc', htv', -, hcell'⟩ := (h3.pur y.pur).tshape
            rw [htv] at htv'
            cases htv'
            obtain ⟨g', hg', hk'⟩ := hcell' j hjl
            cases hg'
            rw [hxg] at hk'
            exact hk'
          have hjl' : (j : Int) < cs.length := by omega
          have hel := enc_length_le x
          have z0 : ¬ 9223372036854775807 < (narrow acc).length + (enc x).length := by omega
          have hns := Lib.hid (narrow_snc acc x)
          generalize hna : narrow acc = na at *
          generalize hev : enc x = ev at *
          clear H hg hx hpk hxz hx60 hxg h38 hev hna hcell htv hz1 h60 hpre
          go_wp2_with fail
          refine CJ.mono ?_
          rintro e1 w1 ⟨rfl, rfl⟩
          go_wp2_with fail
          refine CJ.mono ?_
          rintro e1 w1 ⟨rfl, rfl⟩
          go_wp2_with fail
          refine HE.mono ?_
          rintro e1 w3 ⟨rfl, p3⟩
          have h5 := h3.pur p3
          have c3 := h5.c3
          have c4 := h5.c4
          have CJ := c_any h5 j (by omega)
          rw [hpk'.out] at CJ
          have T0' : ∀ y : PW w3, y.to.cell? ⟨r.p, 0, none⟩ = some (.slice (some ⟨g, 0, none⟩) cs.length tc) := fun y => T0 ⟨y.to, p3.trans y.pur⟩
          have T3' : ∀ y : PW w3, y.to.cell? ⟨r.p, 3, none⟩ = some (.int .i64 (j : Int)) := fun y => T3 ⟨y.to, p3.trans y.pur⟩
          have TX' : ∀ y : PW w3, y.to.cell? ⟨g, j, none⟩ = some (.string ⟨ev.toArray⟩) := fun y => TX ⟨y.to, p3.trans y.pur⟩
          clear T0 T3 TX
          go_wp2_with fail
          refine CJ.mono ?_
          rintro e1 w1 ⟨rfl, rfl⟩
          go_wp2
          refine wp_region_pur (by kernel_rfl) (by kernel_rfl) ?_
          repeat (go_big_quiet_step (fail))
          refine wpQuiet_nil ?_
          intro wq hq2
          have k6 := h5.pur hq2
          have c3 := k6.c3
          have f3 := k6.f 3
          have k7 := k6.seti (j + 1) ((j : Int) + 1) (by omega)
          have e5 := k7.err
          have e6 := k7.nat
          have hc7 := ((h4.pur p3).pur hq2).trans (Chg.seti r wq 3 (.int .i64 ((j : Int) + 1)))
          clear T0' T3' TX'
          go_wp2
          go_roundw
          case rel => exact .inl ⟨j + 1, f, acc ++ [x], by omega, by omega, by omega, by simp; omega, by rw [hns.out], k7, hc7, HS⟩
          case measure => rw [e5, e4, e3, e6, if_pos rfl, if_pos rfl]; omega
      · -- what may not stand here
        rw [hpre] at HE
        have hres := Lib.hid (show chunk (cs.drop i) = .error (cs.length - j, 21) by
          rw [H.out, ← List.length_drop]
          rw [hxz] at hpre ⊢
          rw [chunkGo, if_neg hx60, if_pos hpre]; rfl)
        clear H hx hpk hxz hx60 hxg h60 hpre
        go_wp2_with fail
        refine CJ.mono ?_
        rintro e1 w1 ⟨rfl, rfl⟩
        go_wp2_with fail
        refine CJ.mono ?_
        rintro e1 w1 ⟨rfl, rfl⟩
        go_wp2_with fail
        refine HE.mono ?_
        rintro e1 w3 ⟨rfl, p3⟩
        have h5 := h3.pur p3
        have c3 := h5.c3
        have c4 := h5.c4
        have BO := bad_ok h5 j 21 (by omega)
        go_wp2_with fail
        refine BO.mono ?_
        rintro e1 w4 ⟨rfl, h6, hc6⟩
        have e5 := h6.err
        go_wp2
        go_roundw
        case rel => exact .inr ⟨j, cs.length - j, 21, narrow acc, by omega, by omega, by omega, rfl, by omega, by rw [show cs.length - (cs.length - j) = j by omega]; exact h6, (h4.pur p3).trans hc6, hres⟩
        case measure => rw [e5, e4, e3, if_neg (by omega), if_pos rfl]; omega
    · -- a fault has been told
      have c4 := h3.c4
      have dn : ((n : Int) == 0) = false := by rw [beq_eq_false_iff_ne]; omega
      go_wp2
      go_ret
      rw [H.out]
      exact ⟨⟨_, rfl, u, rfl, by omega⟩, j, j1, j2, hn, h3, h4⟩
end Tk
end Go.Proofs.YtaknfofppknloaaGreatDoor
