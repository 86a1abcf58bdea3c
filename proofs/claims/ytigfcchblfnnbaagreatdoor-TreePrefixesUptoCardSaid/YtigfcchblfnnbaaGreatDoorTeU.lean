/- Layer 3, in plain words: the document's Local; texts of plain bytes. Layer 3, the document: which characters and names are right. -/
import Derived.Test.YtigfcchblfnnbaaGreatDoorTeS
import Derived.Test.YtigfcchblfnnbaaGreatDoorTeP
import Derived.Test.YtigfcchblfnnbaaGreatDoorTeR
import Derived.Test.YtigfcchblfnnbaaGreatDoorTu
namespace Go.Proofs.YtigfcchblfnnbaaGreatDoor
open Go Go.RowKit
set_option linter.all false
namespace Te
open Tk
def rlocB (i : Nat) (c : UInt8) : Bool := !decide (c.toNat = 58) && ((decide (i ≠ 0) || begins c.toNat) && goesOn c.toNat)
def rlocGo : Nat → Bs → Bool
  | _, [] => true
  | i, c :: r => rlocB i c && rlocGo (i + 1) r
/-- the document's Local -/
def rLocal (l : Bs) : Bool := (chars l).isSome && (decide (l ≠ []) && (decide (runes l ≤ 48) && rlocGo 0 l))
theorem chars_narrow : ∀ (f : Nat) (l : Bs) (i : Nat) (cs : Cs), i ≤ l.length → charsGo l f i = some cs → l.drop i = narrow cs ∧ ∀ c ∈ cs, okc c ∧ xok c = true
  | 0, _, _, _, _, h => by cases h
  | f + 1, l, i, cs, hi, h => by
    rw [charsGo] at h
    by_cases hlt : i < l.length
    · rw [if_pos hlt] at h
      by_cases h0 : (chr l i).2 = 0
      · rw [if_pos h0] at h; cases h
      rw [if_neg h0] at h
      by_cases hx : xok (chr l i).1 = true
      · rw [if_pos hx] at h
        obtain ⟨cs', h1, rfl⟩ := Option.map_eq_some_iff.1 h
        have hend := chr_end l i h0
        obtain ⟨h2, h3⟩ := chars_narrow f l _ cs' hend h1
        have hd := chr_drop l i hi
        obtain ⟨b, m, hb⟩ : ∃ b m, l.drop i = b :: m := by
          rcases h4 : l.drop i with _ | ⟨b, m⟩
          · have := congrArg List.length h4
            rw [List.length_drop] at this; simp at this; omega
          · exact ⟨b, m, rfl⟩
        rw [hb] at hd
        rcases first_char b m with h4 | ⟨c, t, h4, h5⟩
        · rw [hd] at h0; exact absurd h4 h0
        rw [h5, chr_char c t h4] at hd
        rw [hd] at h2 hx ⊢
        dsimp only at h2 hx ⊢
        have e2 : l.drop (i + (enc c).length) = t := by
          rw [← List.drop_drop, hb, h5, List.drop_left]
        rw [e2] at h2
        refine ⟨by rw [hb, h5, h2]; simp [narrow], fun x hx' => ?_⟩
        rcases List.mem_cons.1 hx' with rfl | hx'
        · exact ⟨h4, hx⟩
        · exact h3 x hx'
      · rw [if_neg hx] at h; cases h
    · rw [if_neg hlt] at h
      cases h
      exact ⟨by rw [List.drop_eq_nil_of_le (by omega)]; rfl, by simp⟩
theorem rlocGo_mem : ∀ (l : Bs) (i : Nat), rlocGo i l = true → ∀ b ∈ l, b.toNat ≠ 58 ∧ goesOn b.toNat = true
  | [], _, _ => by simp
  | c :: r, i, h => by
    rw [rlocGo, Bool.and_eq_true] at h
    intro b hb
    rcases List.mem_cons.1 hb with rfl | hb
    · have := h.1
      simp only [rlocB, Bool.and_eq_true, Bool.not_eq_true', decide_eq_false_iff_not] at this
      exact ⟨this.1, this.2.2⟩
    · exact rlocGo_mem r _ h.2 b hb
theorem narrow_cons (c : Nat) (cs : Cs) : narrow (c :: cs) = enc c ++ narrow cs := rfl
theorem rlocal_loc {l : Bs} (h : rLocal l = true) : ∃ cs, l = narrow cs ∧ LocC cs := by
  unfold rLocal at h
  simp only [Bool.and_eq_true, decide_eq_true_eq] at h
  obtain ⟨h1, h2, h3, h4⟩ := h
  obtain ⟨cs, hcs⟩ := Option.isSome_iff_exists.1 h1
  obtain ⟨e, hok⟩ := chars_narrow _ _ _ _ (Nat.zero_le _) hcs
  rw [List.drop_zero] at e
  have hm := rlocGo_mem l 0 h4
  have hin : ∀ c ∈ cs, ∀ b ∈ enc c, b ∈ l := fun c hc b hb => by rw [e]; exact List.mem_flatMap.2 ⟨c, hc, hb⟩
  have hlow : ∀ c ∈ cs, c < 128 → c ≠ 58 ∧ goesOn c = true := fun c hc hlt => by
    have := hm (UInt8.ofNat c) (hin c hc _ (by rw [enc_dn hlt]; simp))
    rw [UInt8.toNat_ofNat', Nat.mod_eq_of_lt (by omega)] at this
    exact this
  have hhigh : ∀ c, 128 ≤ c → begins c = true := fun c hc => by simp only [begins, decide_eq_true_eq]; omega
  have hgo : ∀ c ∈ cs, goesOn c = true := fun c hc => by
    rcases Nat.lt_or_ge c 128 with h5 | h5
    · exact (hlow c hc h5).2
    · unfold goesOn; rw [hhigh c h5]; rfl
  refine ⟨cs, e, hgo, ?_, ?_, ?_, ?_⟩
  · cases cs with
    | nil => exact absurd e h2
    | cons c r =>
      show begins c = true
      rcases Nat.lt_or_ge c 128 with h5 | h5
      · rw [narrow_cons, enc_dn h5] at e
        rw [e] at h4
        have : rlocGo 0 (UInt8.ofNat c :: narrow r) = true := h4
        rw [rlocGo, Bool.and_eq_true] at this
        have := this.1
        simp only [rlocB, ne_eq, not_true_eq_false, decide_false, Bool.false_or, Bool.and_eq_true] at this
        have := this.2.1
        rw [UInt8.toNat_ofNat', Nat.mod_eq_of_lt (by omega)] at this
        exact this
      · exact hhigh c h5
  · rw [e, runes_narrow cs fun c hc => (hok c hc).1] at h3; exact h3
  · intro h5
    exact (hlow 58 h5 (by decide)).1 rfl
  · intro c hc
    have h5 := hok c hc
    have h6 := hgo c hc
    have h7 := h5.1
    simp only [xok, decide_eq_true_eq] at h5
    simp only [goesOn, begins, Bool.or_eq_true, decide_eq_true_eq] at h6
    simp only [okc] at h7
    simp only [allowed, decide_eq_true_eq]
    omega
/-- a byte of a plain value -/
def plainB (c : UInt8) : Bool := !decide (c.toNat < 32) && (!decide (126 < c.toNat) && (!decide (c.toNat = 60) && (!decide (c.toNat = 38) && !decide (c.toNat = 34))))
theorem plain_bytes {l : Bs} (h : l.all plainB = true) : ∃ cs, l = narrow cs ∧ ∀ c ∈ cs, plainC c := by
  refine ⟨l.map UInt8.toNat, ?_, ?_⟩
  · rw [List.all_eq_true] at h
    induction l with
    | nil => rfl
    | cons b l ih =>
      have := h b (by simp)
      simp only [plainB, Bool.and_eq_true, Bool.not_eq_true', decide_eq_false_iff_not] at this
      rw [List.map_cons, narrow_cons, enc_dn (by omega), UInt8.ofNat_toNat, ← ih fun x hx => h x (by simp [hx])]
      rfl
  · intro c hc
    obtain ⟨b, hb, rfl⟩ := List.mem_map.1 hc
    have := List.all_eq_true.1 h b hb
    simp only [plainB, Bool.and_eq_true, Bool.not_eq_true', decide_eq_false_iff_not] at this
    unfold plainC
    omega
theorem narrow_app (a b : Cs) : narrow (a ++ b) = narrow a ++ narrow b := by simp [narrow]
/-- the two documents, in bytes -/
def bytesP (L O T a b : Bs) : Bs := [60, 112, 58] ++ (L ++ ([32, 120, 109, 108, 110, 115, 58, 112, 61, 34, 117, 34, 32, 112, 58] ++ (O ++ ([61, 34] ++ (a ++ ([34, 32, 112, 58] ++ (T ++ ([61, 34] ++ (b ++ [34, 47, 62])))))))))
def bytesQ (L O T a b : Bs) : Bs := [60] ++ (L ++ ([32, 120, 109, 108, 110, 115, 61, 34, 117, 34, 32, 113, 58] ++ (T ++ ([61, 34] ++ (b ++ ([34, 32, 120, 109, 108, 110, 115, 58, 113, 61, 34, 117, 34, 32, 113, 58] ++ (O ++ ([61, 34] ++ (a ++ ([34, 62, 60, 47] ++ (L ++ [62])))))))))))
theorem enc_low (c : Nat) (h : c < 128) : enc c = [UInt8.ofNat c] := enc_dn h
theorem bytesP_eq (L O T a b : Cs) : narrow (docP L O T a b) = bytesP (narrow L) (narrow O) (narrow T) (narrow a) (narrow b) := by
  unfold docP openT bytesP tP
  simp only [List.flatMap_cons, List.flatMap_nil, AtT.txt, List.cons_append, List.append_assoc, List.nil_append, List.append_nil, narrow_cons, narrow_app]
  simp only [enc_low _ (show 60 < 128 by decide), enc_low _ (show 112 < 128 by decide), enc_low _ (show 58 < 128 by decide), enc_low _ (show 32 < 128 by decide), enc_low _ (show 120 < 128 by decide), enc_low _ (show 109 < 128 by decide), enc_low _ (show 108 < 128 by decide), enc_low _ (show 110 < 128 by decide), enc_low _ (show 115 < 128 by decide), enc_low _ (show 61 < 128 by decide), enc_low _ (show 34 < 128 by decide), enc_low _ (show 117 < 128 by decide), enc_low _ (show 47 < 128 by decide), enc_low _ (show 62 < 128 by decide), List.cons_append, List.nil_append]
  rfl
theorem bytesQ_eq (L O T a b : Cs) : narrow (docQ L O T a b) = bytesQ (narrow L) (narrow O) (narrow T) (narrow a) (narrow b) := by
  unfold docQ openT bytesQ tX tQ endT
  simp only [List.flatMap_cons, List.flatMap_nil, AtT.txt, List.cons_append, List.append_assoc, List.nil_append, List.append_nil, narrow_cons, narrow_app]
  simp only [enc_low _ (show 60 < 128 by decide), enc_low _ (show 113 < 128 by decide), enc_low _ (show 58 < 128 by decide), enc_low _ (show 32 < 128 by decide), enc_low _ (show 120 < 128 by decide), enc_low _ (show 109 < 128 by decide), enc_low _ (show 108 < 128 by decide), enc_low _ (show 110 < 128 by decide), enc_low _ (show 115 < 128 by decide), enc_low _ (show 61 < 128 by decide), enc_low _ (show 34 < 128 by decide), enc_low _ (show 117 < 128 by decide), enc_low _ (show 47 < 128 by decide), enc_low _ (show 62 < 128 by decide), List.cons_append, List.nil_append]
  rfl
/-- TREEPREFIXES, in plain words -/
theorem prefixes_plain {L O T a b : Bs} (hL : rLocal L = true) (hO : rLocal O = true) (hT : rLocal T = true) (hOT : O ≠ T) (ha : a.all plainB = true) (hb : b.all plainB = true) (hn : a.length + b.length ≤ 200) :
    ∃ n m : NodeV, parse (bytesP L O T a b) = .ok [n] ∧ parse (bytesQ L O T a b) = .ok [m] ∧ n.bare = m.bare ∧ n.ex.length = 2 := by
  obtain ⟨cL, rfl, kL⟩ := rlocal_loc hL
  obtain ⟨cO, rfl, kO⟩ := rlocal_loc hO
  obtain ⟨cT, rfl, kT⟩ := rlocal_loc hT
  obtain ⟨ca, rfl, ka⟩ := plain_bytes ha
  obtain ⟨cb, rfl, kb⟩ := plain_bytes hb
  have l1 := narrow_4 cL
  have l2 := narrow_4 cO
  have l3 := narrow_4 cT
  have m1 := kL.len
  have m2 := kO.len
  have m3 := kT.len
  obtain ⟨q2, q3, q, hP⟩ := parse_P kL kO kT ka kb hOT (by rw [bytesP_eq]; unfold bytesP; simp only [List.length_append, List.length_cons, List.length_nil]; omega)
  obtain ⟨p2, p3, p, hQ⟩ := parse_Q kL kO kT ka kb hOT (by rw [bytesQ_eq]; unfold bytesQ; simp only [List.length_append, List.length_cons, List.length_nil]; omega)
  rw [bytesP_eq] at hP
  rw [bytesQ_eq] at hQ
  refine ⟨_, _, hP, hQ, ?_, by show (sortEx _).length = 2; rw [sort_len]; rfl⟩
  unfold NodeV.bare
  dsimp only
  rw [sort_two [117] _ _ (narrow ca) (narrow cb) q2 q3 p3 p2 hOT]
end Te
end Go.Proofs.YtigfcchblfnnbaaGreatDoor
namespace Go.Proofs.YtigfcchblfnnbaaGreatDoor
open Go Go.RowKit
set_option linter.all false
namespace Te
open Tk (Cs begins goesOn allowed)
set_option maxRecDepth 100000 in
set_option maxHeartbeats 20000000 in
theorem rbegins (n : Nat) (w : World) : Calls Tryz.prog 15 #[.int .i64 (n : Int)] w fun e w' => e = .returned (.bool (begins n)) ∧ w = w' := by
  obtain ⟨c, hc⟩ : ∃ c : Int, (n : Int) = c := ⟨_, rfl⟩
  have hb : begins n = ((decide (65 ≤ c) && decide (c ≤ 90)) || ((decide (97 ≤ c) && decide (c ≤ 122)) || (c == 95 || (c == 58 || decide (128 ≤ c))))) := by
    rw [Bool.eq_iff_iff]
    simp only [begins, Bool.and_eq_true, Bool.or_eq_true, decide_eq_true_eq, beq_iff_eq]
    omega
  rw [hb, hc]
  clear hb hc
  rcases d1 : decide (97 ≤ c) with _ | _ <;> rcases d2 : decide (c ≤ 122) with _ | _ <;> rcases d3 : decide (65 ≤ c) with _ | _ <;> rcases d4 : decide (c ≤ 90) with _ | _ <;> rcases d5 : (c == 95) with _ | _ <;> rcases d6 : (c == 58) with _ | _ <;> rcases d7 : decide (128 ≤ c) with _ | _
  all_goals
    go_enter Tryz.func15, Tryz.ntmps15
    go_wp2
    go_ret
    exact ⟨rfl, rfl⟩
set_option maxRecDepth 100000 in
set_option maxHeartbeats 20000000 in
theorem rgoes (n : Nat) (w : World) : Calls Tryz.prog 16 #[.int .i64 (n : Int)] w fun e w' => e = .returned (.bool (goesOn n)) ∧ w = w' := by
  have B := fun w => rbegins n w
  obtain ⟨c, hc⟩ : ∃ c : Int, (n : Int) = c := ⟨_, rfl⟩
  have hb : goesOn n = (begins n || ((decide (48 ≤ c) && decide (c ≤ 57)) || (c == 46 || c == 45))) := by
    rw [Bool.eq_iff_iff]
    simp only [goesOn, begins, Bool.and_eq_true, Bool.or_eq_true, decide_eq_true_eq, beq_iff_eq]
    omega
  rw [hc] at B
  rw [hb, hc]
  clear hb hc
  rcases d0 : begins n with _ | _ <;> rcases d1 : decide (48 ≤ c) with _ | _ <;> rcases d2 : decide (c ≤ 57) with _ | _ <;> rcases d3 : (c == 45) with _ | _ <;> rcases d4 : (c == 46) with _ | _
  all_goals
    rw [d0] at B
    go_enter Tryz.func16, Tryz.ntmps16
    go_wp2_with fail
    refine (B _).mono ?_
    rintro e w1 ⟨rfl, rfl⟩
    go_wp2
    go_ret
    exact ⟨rfl, rfl⟩
set_option maxRecDepth 100000 in
set_option maxHeartbeats 20000000 in
theorem rallowed (n : Nat) (w : World) : Calls Tryz.prog 26 #[.int .i64 (n : Int)] w fun e w' => e = .returned (.bool (allowed n)) ∧ w = w' := by
  obtain ⟨c, hc⟩ : ∃ c : Int, (n : Int) = c := ⟨_, rfl⟩
  have hb : allowed n = ((decide (c < 32) && ((c == 9) || (c == 10))) || (!decide (c < 32) && (decide (c ≤ 55295) || ((decide (57344 ≤ c) && decide (c ≤ 65533)) || (decide (65536 ≤ c) && decide (c ≤ 1114111)))))) := by
    rw [Bool.eq_iff_iff]
    simp only [allowed, Bool.and_eq_true, Bool.or_eq_true, decide_eq_true_eq, beq_iff_eq, Bool.not_eq_true', decide_eq_false_iff_not]
    omega
  rw [hb, hc]
  clear hb hc
  rcases d1 : decide (c < 32) with _ | _
  · rcases d4 : decide (c ≤ 55295) with _ | _ <;> rcases d5 : decide (57344 ≤ c) with _ | _ <;> rcases d6 : decide (c ≤ 65533) with _ | _ <;> rcases d7 : decide (65536 ≤ c) with _ | _ <;> rcases d8 : decide (c ≤ 1114111) with _ | _
    all_goals
      go_enter Tryz.func26, Tryz.ntmps26
      go_wp2
      go_ret
      exact ⟨rfl, rfl⟩
  · rcases d2 : (c == 9) with _ | _ <;> rcases d3 : (c == 10) with _ | _
    all_goals
      go_enter Tryz.func26, Tryz.ntmps26
      go_wp2
      go_ret
      exact ⟨rfl, rfl⟩
theorem cgo_step (l : Bs) (f i : Nat) : charsGo l (f + 1) i = if i < l.length then (if (chr l i).2 = 0 then none else if xok (chr l i).1 then (charsGo l f (i + (chr l i).2)).map ((chr l i).1 :: ·) else none) else some [] := rfl
theorem xok_al (c : Nat) (h : c ≤ 1114111) : xok c = (allowed c || decide (c = 13)) := by
  rw [Bool.eq_iff_iff]
  simp only [xok, allowed, Bool.or_eq_true, decide_eq_true_eq]
  omega
set_option maxRecDepth 100000 in
set_option maxHeartbeats 8000000 in
/-- Good -/
theorem rgood_any (l : Bs) (w : World) (hl : l.length ≤ 4611686018427387903) :
    Calls Tryz.prog 13 #[.string ⟨l.toArray⟩] w fun e w' => e = .returned (.bool (chars l).isSome) ∧ Pur w w' := by
  obtain ⟨R, hR⟩ : ∃ R, (chars l).isSome = R := ⟨_, rfl⟩
  rw [hR]
  have HR := Lib.hid hR
  clear hR
  go_enter Tryz.func13, Tryz.ntmps13
  go_wp2
  go_loopw [3] (fun k wx => ∃ (i f : Nat), i ≤ l.length ∧ l.length < i + f ∧ k = .int .i64 i ∧ Pur w wx ∧ Hid (R = (charsGo l f i).isSome)) (fun k _ => l.length + 1 - (intOf k).toNat)
  case atStart => exact ⟨0, l.length + 1, by omega, by omega, rfl, Pur.refl _, Lib.hid (by rw [← HR.out]; rfl)⟩
  case round =>
    obtain ⟨i, f, hi, hf, rfl, hpr, H⟩ := hrel
    obtain ⟨f, rfl⟩ : ∃ g, f = g + 1 := ⟨f - 1, by omega⟩
    have HS := Lib.hid (cgo_step l f i)
    by_cases hlt : i < l.length
    · have hlt' : (i : Int) < l.length := by omega
      have RC := rchar_in l i wr hl hlt
      have hbd := chr_bd l i
      have hend := chr_end l i
      obtain ⟨⟨ch, n⟩, hch⟩ : ∃ q, chr l i = q := ⟨_, rfl⟩
      rw [hch] at RC hbd hend
      have HC := Lib.hid hch
      clear hch
      dsimp only at RC hbd hend
      have hx := xok_al ch hbd.1
      have RA := fun w => rallowed ch w
      rcases Nat.eq_zero_or_pos n with hn | hn
      · have HE := Lib.hid (show R = false by rw [H.out, HS.out, if_pos hlt, HC.out, if_pos hn]; rfl)
        subst hn
        clear H HS hlt hend hx RA
        go_wp2_with fail
        refine RC.mono ?_
        rintro e w1 ⟨rfl, hw1⟩
        have p1 : Pur wr w1 := by first | exact hw1 | (subst hw1; exact Pur.refl _)
        clear RC
        go_wp2
        go_ret
        rw [HE.out]
        exact ⟨rfl, hpr.trans p1⟩
      · have hn0 : ¬ n = 0 := by omega
        have hn' : ((n : Int) == 0) = false := by rw [beq_eq_false_iff_ne]; omega
        have he := hend hn0
        have hw : IntKind.i64.wrap ((i : Int) + n) = (i : Int) + n := IntWalk.i64_in _ (by omega)
        rcases ha : allowed ch with _ | _
        · rw [ha] at hx RA
          rcases h13 : ((ch : Int) == 13) with _ | _
          · have h13n : ¬ ch = 13 := by rw [beq_eq_false_iff_ne] at h13; omega
            have HE := Lib.hid (show R = false by rw [H.out, HS.out, if_pos hlt, HC.out, if_neg hn0, hx, decide_eq_false h13n]; rfl)
            clear H HS hlt hend hx ha h13n
            go_wp2_with fail
            refine RC.mono ?_
            rintro e w1 ⟨rfl, hw1⟩
            have p1 : Pur wr w1 := by first | exact hw1 | (subst hw1; exact Pur.refl _)
            clear RC hw1
            go_wp2_with fail
            refine (RA _).mono ?_
            rintro e w2 ⟨rfl, hw2⟩
            subst w2
            go_wp2
            go_ret
            rw [HE.out]
            exact ⟨rfl, hpr.trans p1⟩
          · have h13n : ch = 13 := by rw [beq_iff_eq] at h13; omega
            have HE := Lib.hid (show R = (charsGo l f (i + n)).isSome by rw [H.out, HS.out, if_pos hlt, HC.out, if_neg hn0, hx, decide_eq_true h13n]; simp)
            clear H HS hlt hend hx ha h13n
            go_wp2_with fail
            refine RC.mono ?_
            rintro e w1 ⟨rfl, hw1⟩
            have p1 : Pur wr w1 := by first | exact hw1 | (subst hw1; exact Pur.refl _)
            clear RC hw1
            go_wp2_with fail
            refine (RA _).mono ?_
            rintro e w2 ⟨rfl, hw2⟩
            subst w2
            go_wp2
            go_roundw
            case rel => exact ⟨i + n, f, by omega, by omega, by go_num, hpr.trans p1, HE⟩
            case measure => simp [intOf]; omega
        · rw [ha] at hx RA
          have HE := Lib.hid (show R = (charsGo l f (i + n)).isSome by rw [H.out, HS.out, if_pos hlt, HC.out, if_neg hn0, hx]; simp)
          clear H HS hlt hend hx ha
          go_wp2_with fail
          refine RC.mono ?_
          rintro e w1 ⟨rfl, hw1⟩
          have p1 : Pur wr w1 := by first | exact hw1 | (subst hw1; exact Pur.refl _)
          clear RC hw1
          go_wp2_with fail
          refine (RA _).mono ?_
          rintro e w2 ⟨rfl, hw2⟩
          subst w2
          go_wp2
          go_roundw
          case rel => exact ⟨i + n, f, by omega, by omega, by go_num, hpr.trans p1, HE⟩
          case measure => simp [intOf]; omega
    · have HE := Lib.hid (show R = true by rw [H.out, HS.out, if_neg hlt]; rfl)
      have hlt' : ¬ (i : Int) < l.length := by omega
      clear H HS hlt
      go_wp2
      go_ret
      rw [HE.out]
      exact ⟨rfl, hpr⟩
theorem runes_step (l : Bs) (f i : Nat) : runesGo l (f + 1) i = if i < l.length then runesGo l f (i + max (chr l i).2 1) + 1 else 0 := rfl
theorem runes_past (l : Bs) : ∀ (f i : Nat), l.length ≤ i → runesGo l f i = 0
  | 0, _, _ => rfl
  | f + 1, i, h => by rw [runes_step, if_neg (by omega)]
set_option maxRecDepth 100000 in
set_option maxHeartbeats 8000000 in
/-- Chars -/
theorem rchars_any (l : Bs) (w : World) (hl : l.length ≤ 4611686018427387903) :
    Calls Tryz.prog 14 #[.string ⟨l.toArray⟩] w fun e w' => e = .returned (.int .i64 (runes l : Int)) ∧ Pur w w' := by
  obtain ⟨R, hR⟩ : ∃ R, runes l = R := ⟨_, rfl⟩
  rw [hR]
  have HR := Lib.hid hR
  clear hR
  go_enter Tryz.func14, Tryz.ntmps14
  go_wp2
  go_loopw [3, 4] (fun c k wx => ∃ (i f N : Nat), i ≤ l.length + 3 ∧ l.length ≤ i + f ∧ k = .int .i64 i ∧ c = .int .i64 N ∧ N ≤ i ∧ Pur w wx ∧ Hid (R = N + runesGo l f i)) (fun _ k _ => l.length + 4 - (intOf k).toNat)
  case atStart => exact ⟨0, l.length, 0, by omega, by omega, rfl, rfl, by omega, Pur.refl _, Lib.hid (by rw [← HR.out]; unfold runes; omega)⟩
  case round =>
    obtain ⟨i, f, N, hi, hf, rfl, rfl, hNi, hpr, H⟩ := hrel
    by_cases hlt : i < l.length
    · obtain ⟨f, rfl⟩ : ∃ g, f = g + 1 := ⟨f - 1, by omega⟩
      have HS := Lib.hid (runes_step l f i)
      have hlt' : (i : Int) < l.length := by omega
      have RC := rchar_in l i wr hl hlt
      have hbd := chr_bd l i
      obtain ⟨⟨ch, n⟩, hch⟩ : ∃ q, chr l i = q := ⟨_, rfl⟩
      rw [hch] at RC hbd
      have HC := Lib.hid hch
      clear hch
      dsimp only at RC hbd
      obtain ⟨m, hm⟩ : ∃ m, m = max n 1 := ⟨_, rfl⟩
      have hmx : max (n : Int) 1 = (m : Int) := by omega
      have hm1 : 1 ≤ m ∧ m ≤ 4 := by omega
      have HE := Lib.hid (show R = N + 1 + runesGo l f (i + m) by rw [H.out, HS.out, if_pos hlt, HC.out, hm]; dsimp only; omega)
      have hw : IntKind.i64.wrap ((i : Int) + m) = (i : Int) + m := IntWalk.i64_in _ (by omega)
      have hw2 : IntKind.i64.wrap ((N : Int) + 1) = (N : Int) + 1 := IntWalk.i64_in _ (by omega)
      clear H HS hm
      go_wp2_with fail
      refine RC.mono ?_
      rintro e w1 ⟨rfl, hw1⟩
      have p1 : Pur wr w1 := by first | exact hw1 | (subst hw1; exact Pur.refl _)
      clear RC hw1
      go_wp2
      go_roundw
      case rel => exact ⟨i + m, f, N + 1, by omega, by omega, by go_num, by go_num, by omega, hpr.trans p1, HE⟩
      case measure => simp [intOf]; omega
    · have HE := Lib.hid (show R = N by rw [H.out, runes_past l f i (by omega)]; rfl)
      have hlt' : ¬ (i : Int) < l.length := by omega
      clear H hlt
      go_wp2
      go_ret
      rw [HE.out]
      exact ⟨rfl, hpr⟩
theorem rloc_step (l : Bs) (i : Nat) (c : UInt8) (h : l[i]? = some c) : rlocGo i (l.drop i) = (rlocB i c && rlocGo (i + 1) (l.drop (i + 1))) := by
  obtain ⟨hi, e⟩ := List.getElem?_eq_some_iff.1 h
  rw [List.drop_eq_getElem_cons hi, e, rlocGo]
set_option maxRecDepth 100000 in
set_option maxHeartbeats 16000000 in
/-- Local -/
theorem rlocal_any (l : Bs) (w : World) (hl : l.length ≤ 4611686018427387903) :
    Calls Tryz.prog 6 #[.string ⟨l.toArray⟩] w fun e w' => e = .returned (.bool (rLocal l)) ∧ Pur w w' := by
  have RG := fun w => rgood_any l w hl
  have RH := fun w => rchars_any l w hl
  obtain ⟨R, hR⟩ : ∃ R, rLocal l = R := ⟨_, rfl⟩
  rw [hR]
  have HR : Hid (R = ((chars l).isSome && (decide (l ≠ []) && (decide (runes l ≤ 48) && rlocGo 0 l)))) := Lib.hid hR.symm
  clear hR
  rcases d1 : (chars l).isSome with _ | _
  · have HE := Lib.hid (show R = false by rw [HR.out, d1]; rfl)
    rw [d1] at RG
    go_enter Tryz.func6, Tryz.ntmps6
    go_wp2_with fail
    refine (RG _).mono ?_
    rintro e w1 ⟨rfl, p1⟩
    go_wp2
    go_ret
    rw [HE.out]
    exact ⟨rfl, p1⟩
  rw [d1] at RG
  by_cases d2 : l = []
  · have HE := Lib.hid (show R = false by rw [HR.out, d1, decide_eq_false (fun h => h d2)]; rfl)
    subst d2
    go_enter Tryz.func6, Tryz.ntmps6
    go_wp2_with fail
    refine (RG _).mono ?_
    rintro e w1 ⟨rfl, p1⟩
    go_wp2
    go_ret
    rw [HE.out]
    exact ⟨rfl, p1⟩
  have d2' : l.isEmpty = false := by cases l with | nil => exact absurd rfl d2 | cons a b => rfl
  have HR2 : Hid (R = (decide (runes l ≤ 48) && rlocGo 0 l)) := Lib.hid (by rw [HR.out, d1, decide_eq_true d2]; rfl)
  clear HR d1
  generalize runes l = N at *
  rcases d3 : decide ((48 : Int) < (N : Int)) with _ | _
  · have d3n : N ≤ 48 := by rw [decide_eq_false_iff_not] at d3; omega
    have HR3 : Hid (R = rlocGo 0 l) := Lib.hid (by rw [HR2.out, decide_eq_true d3n]; rfl)
    clear HR2
    go_enter Tryz.func6, Tryz.ntmps6
    go_wp2_with fail
    refine (RG _).mono ?_
    rintro e w1 ⟨rfl, p1⟩
    go_wp2_with fail
    refine (RH _).mono ?_
    rintro e w2 ⟨rfl, p2⟩
    have p12 := p1.trans p2
    clear RG RH p1 p2
    go_wp2
    go_loopw [3] (fun k wx => ∃ (i : Nat), i ≤ l.length ∧ k = .int .i64 i ∧ wx = w2 ∧ Hid (R = rlocGo i (l.drop i))) (fun k _ => l.length + 1 - (intOf k).toNat)
    case atStart => exact ⟨0, by omega, rfl, rfl, Lib.hid (by rw [HR3.out]; rfl)⟩
    case round =>
      obtain ⟨i, hi, rfl, e0, H⟩ := hrel
      subst wr
      by_cases hlt : i < l.length
      · have hlt' : (i : Int) < l.length := by omega
        obtain ⟨c, hci⟩ : ∃ c, l[i]? = some c := ⟨_, List.getElem?_eq_getElem hlt⟩
        have hb8 : by8 l i = c.toNat := by unfold by8; rw [List.getD_eq_getElem?_getD, hci]; rfl
        have hstep := rloc_step l i c hci
        have RB := fun w => rbegins (by8 l i) w
        have RO := fun w => rgoes (by8 l i) w
        have hbl := by8_lt l i
        rcases k1 : ((by8 l i : Int) == 58) with _ | _
        · have k1n : ¬ c.toNat = 58 := by rw [beq_eq_false_iff_ne] at k1; omega
          rcases k2 : ((i : Int) == 0) with _ | _
          · have k2n : i ≠ 0 := by rw [beq_eq_false_iff_ne] at k2; omega
            rcases k4 : goesOn (by8 l i) with _ | _
            · have HE := Lib.hid (show R = false by rw [H.out, hstep, rlocB, ← hb8, k4]; simp)
              rw [k4] at RO
              clear H HR3 hci hb8 hstep hlt k2n k1n RB
              go_wp2_with fail
              refine (RO _).mono ?_
              rintro e w3 ⟨rfl, hw3⟩
              subst w3
              go_wp2
              go_ret
              rw [HE.out]
              exact ⟨rfl, p12⟩
            · have HE := Lib.hid (show R = rlocGo (i + 1) (l.drop (i + 1)) by rw [H.out, hstep, rlocB, ← hb8, k4, hb8, decide_eq_false k1n, decide_eq_true k2n]; simp)
              rw [k4] at RO
              clear H HR3 hci hb8 hstep hlt k2n k1n RB
              go_wp2_with fail
              refine (RO _).mono ?_
              rintro e w3 ⟨rfl, hw3⟩
              subst w3
              go_wp2
              go_roundw
              case rel => exact ⟨i + 1, by omega, by go_num, trivial, HE⟩
              case measure => simp [intOf]; omega
          · have k2n : i = 0 := by rw [beq_iff_eq] at k2; omega
            subst k2n
            rcases k3 : begins (by8 l 0) with _ | _
            · have HE := Lib.hid (show R = false by rw [H.out, hstep, rlocB, ← hb8, k3]; simp)
              rw [k3] at RB
              clear H HR3 hci hb8 hstep hlt k1n
              go_wp2_with fail
              refine (RB _).mono ?_
              rintro e w3 ⟨rfl, hw3⟩
              subst w3
              go_wp2
              go_ret
              rw [HE.out]
              exact ⟨rfl, p12⟩
            · have k4 : goesOn (by8 l 0) = true := by unfold goesOn; rw [k3]; rfl
              have HE := Lib.hid (show R = rlocGo (0 + 1) (l.drop (0 + 1)) by rw [H.out, hstep, rlocB, ← hb8, k3, k4, hb8, decide_eq_false k1n]; simp)
              rw [k3] at RB
              rw [k4] at RO
              clear H HR3 hci hb8 hstep hlt k1n k4
              go_wp2_with fail
              refine (RB _).mono ?_
              rintro e w3 ⟨rfl, hw3⟩
              subst w3
              go_wp2_with fail
              refine (RO _).mono ?_
              rintro e w3 ⟨rfl, hw3⟩
              subst w3
              go_wp2
              go_roundw
              case rel => exact ⟨0 + 1, by omega, by go_num, trivial, HE⟩
              case measure => simp [intOf] <;> omega
        · have k1n : c.toNat = 58 := by rw [beq_iff_eq] at k1; omega
          have HE := Lib.hid (show R = false by rw [H.out, hstep, rlocB, decide_eq_true k1n]; rfl)
          clear H HR3 hci hb8 hstep hlt k1n RB RO
          go_wp2
          go_ret
          rw [HE.out]
          exact ⟨rfl, p12⟩
      · have HE := Lib.hid (show R = true by rw [H.out, List.drop_eq_nil_of_le (by omega)]; rfl)
        have hlt' : ¬ (i : Int) < l.length := by omega
        clear H hlt
        go_wp2
        go_ret
        rw [HE.out]
        exact ⟨rfl, p12⟩
  · have d3n : ¬ N ≤ 48 := by rw [decide_eq_true_eq] at d3; omega
    have HE := Lib.hid (show R = false by rw [HR2.out, decide_eq_false d3n]; rfl)
    clear HR2
    go_enter Tryz.func6, Tryz.ntmps6
    go_wp2_with fail
    refine (RG _).mono ?_
    rintro e w1 ⟨rfl, p1⟩
    go_wp2_with fail
    refine (RH _).mono ?_
    rintro e w2 ⟨rfl, p2⟩
    go_wp2
    go_ret
    rw [HE.out]
    exact ⟨rfl, p1.trans p2⟩
end Te
end Go.Proofs.YtigfcchblfnnbaaGreatDoor
