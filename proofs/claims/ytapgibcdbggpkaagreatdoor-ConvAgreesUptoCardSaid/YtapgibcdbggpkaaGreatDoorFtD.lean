/- esnum.Text: comparisons of floats ahead of it. esnum.Text in plain words: what is cut out of d.ddde+dd, and read. esnum.Text at a finite float above 0. esnum.Text at every float. -/
import Derived.Test.YtapgibcdbggpkaaGreatDoorFtC
import Derived.Test.YtapgibcdbggpkaaGreatDoorIeX
namespace Go.Proofs.YtapgibcdbggpkaaGreatDoor
open Go Go.RowKit Go.Sort Go.Lib
set_option linter.all false
namespace Ft
open Us
/-- how two finite floats above 0 stand to each other -/
theorem ord_pos {a b : Nat} (ha : a < 9218868437227405312) (hb : b < 9218868437227405312) : FloatKind.f64.format.order a b = some (compare a b) := by
  have h := Ie.order_sv false false ha hb
  have e : ∀ r, Ieee.double.word false r = r := fun r => rfl
  rw [e, e] at h
  show Ieee.double.order a b = _
  rw [h]
  congr 1
  unfold Ie.sv
  simp only [Bool.false_eq_true, if_false, compare, compareOfLessAndEq]
  have c1 : ((Ie.V a : Int) < (Ie.V b : Int)) ↔ a < b := by
    rw [Int.ofNat_lt]
    constructor
    · intro h
      rcases Nat.lt_or_ge a b with g | g
      · exact g
      · have := (Ie.V_le (a := b) (b := a)).2 g; omega
    · exact Ie.V_lt
  have c2 : ((Ie.V a : Int) = (Ie.V b : Int)) ↔ a = b := by
    rw [Int.ofNat_inj]
    exact ⟨Ie.V_inj, fun h => by rw [h]⟩
  simp only [c1, c2]
set_option maxRecDepth 100000 in
theorem isinf_any (b : Nat) (w : World) (h : b < 9218868437227405312) : Calls Tryz.prog 75 #[.float .f64 b, .int .i64 1] w fun e w' => e = .returned (.bool false) ∧ w = w' := by
  have ho := ord_pos h (show 9218868437227405311 < 9218868437227405312 by decide)
  have hc : compare b 9218868437227405311 = .lt ∨ compare b 9218868437227405311 = .eq := by
    simp only [compare, compareOfLessAndEq]
    split
    · exact .inl rfl
    · split
      · exact .inr rfl
      · omega
  rcases hc with hc | hc
  all_goals
    rw [hc] at ho
    clear hc h
    go_enter Tryz.func75, Tryz.ntmps75
    go_wp2
    go_ret
    exact ⟨rfl, rfl⟩
end Ft
end Go.Proofs.YtapgibcdbggpkaaGreatDoor
namespace Go.Proofs.YtapgibcdbggpkaaGreatDoor
open Go Go.RowKit Go.Sort Go.Lib
set_option linter.all false
namespace Ft
open Us
theorem index_at (c : UInt8) (Y : List UInt8) : ∀ X : List UInt8, c ∉ X → Lib.index (X ++ c :: Y) [c] = (X.length : Int)
  | [], _ => by
    rw [List.nil_append, Lib.index, if_pos (by simp)]
    rfl
  | x :: X, h => by
    have hx : x ≠ c := fun e => h (by rw [e]; exact List.mem_cons_self ..)
    have ih := index_at c Y X (fun e => h (List.mem_cons_of_mem _ e))
    rw [List.cons_append, Lib.index, if_neg (by simpa using fun e => hx e.symm), ih, if_neg (by rw [beq_iff_eq]; omega)]
    simp
theorem index_no (c : UInt8) : ∀ X : List UInt8, c ∉ X → Lib.index X [c] = -1
  | [], _ => rfl
  | x :: X, h => by
    have hx : x ≠ c := fun e => h (by rw [e]; exact List.mem_cons_self ..)
    have ih := index_no c X (fun e => h (List.mem_cons_of_mem _ e))
    rw [Lib.index, if_neg (by simpa using fun e => hx e.symm), ih]
    rfl
theorem cut_at (c : UInt8) (X Y : List UInt8) (h : c ∉ X) : Lib.cut (X ++ c :: Y) [c] = (X, Y, true) := by
  unfold Lib.cut
  rw [index_at c Y X h, if_pos (by omega), Int.toNat_natCast, List.take_left]
  rw [List.drop_append]
  simp
theorem atoi_expo : ∀ n : Nat, n < 402 → Lib.atoi (expo (n : Int)) = some (n : Int) ∧ Lib.atoi (expo (-(n : Int))) = some (-(n : Int)) := by decide +kernel
theorem atoi_ex {X : Int} (h : -401 ≤ X ∧ X ≤ 401) : Lib.atoi (expo X) = some X := by
  rcases Int.le_total 0 X with g | g
  · obtain ⟨n, rfl⟩ := Int.eq_ofNat_of_zero_le g
    exact (atoi_expo n (by omega)).1
  · obtain ⟨n, hn⟩ := Int.eq_ofNat_of_zero_le (show 0 ≤ -X by omega)
    obtain rfl : X = -(n : Int) := by omega
    exact (atoi_expo n (by omega)).2
/-- the digits with their point -/
def mant (T : List UInt8) : List UInt8 := T.take 1 ++ if T.length ≤ 1 then [] else 46 :: T.drop 1
theorem replace_mant (c : UInt8) (R : List UInt8) (h : 46 ∉ c :: R) : Lib.replace (mant (c :: R)) [46] [] 1 = c :: R := by
  have hc : (46 : UInt8) ∉ [c] := fun e => h (by rw [List.mem_singleton.1 e]; exact List.mem_cons_self ..)
  unfold Lib.replace mant
  rw [if_neg (by decide)]
  by_cases hR : R = []
  · subst hR
    rw [if_pos (by simp), List.append_nil]
    have : Lib.index (List.take 1 [c]) [46] = -1 := index_no 46 [c] hc
    unfold Lib.replaceNum
    split
    · unfold Lib.count Lib.countFrom
      rw [this]
      rfl
    · rw [show (1 : Int).toNat = 0 + 1 from rfl, Lib.replaceK, this]
      rfl
  · have hl : ¬ (c :: R).length ≤ 1 := by
      have := List.length_pos_iff.2 hR
      rw [List.length_cons]; omega
    rw [if_neg hl]
    show Lib.replaceK [46] [] (Lib.replaceNum ([c] ++ 46 :: R) [46] 1) ([c] ++ 46 :: R) = c :: R
    have hi := index_at 46 R [c] hc
    have hcnt : 1 ≤ Lib.count ([c] ++ 46 :: R) [46] := by
      unfold Lib.count Lib.countFrom
      rw [hi]
      simp
    unfold Lib.replaceNum
    rw [if_neg (by omega), show (1 : Int).toNat = 0 + 1 from rfl, Lib.replaceK_hit _ _ _ _ _ hi]
    simp [Lib.replaceK]
end Ft
end Go.Proofs.YtapgibcdbggpkaaGreatDoor
namespace Go.Proofs.YtapgibcdbggpkaaGreatDoor
open Go Go.RowKit Go.Sort Go.Lib
set_option linter.all false
namespace Ft
open Us
theorem dec_digit (u : Nat) : ∀ c ∈ decDigits u, 48 ≤ c.toNat ∧ c.toNat ≤ 57 := by
  induction u using Nat.strongRecOn with
  | _ u ih =>
    intro c hc
    by_cases g : u < 10
    · rw [decDigits, dif_pos g, List.mem_singleton] at hc
      rw [hc, byte48 g]; omega
    · rw [decDigits, dif_neg g] at hc
      rcases List.mem_append.1 hc with e | e
      · exact ih (u / 10) (by omega) c e
      · rw [List.mem_singleton] at e
        rw [e, byte48 (by omega)]; omega
theorem dgT_digit (d : Nat) : ∀ c ∈ dgT d, 48 ≤ c.toNat ∧ c.toNat ≤ 57 := fun c hc => by
  unfold dgT at hc
  rw [cutz_take] at hc
  exact dec_digit d c (List.mem_of_mem_take hc)
/-- what esnum.Text asks of the world -/
structure XW (Hi Lo : Nat → Nat) (w : World) : Prop where
  pt : PT Hi Lo w
  big : Big Hi Lo
  lt : 15 < w.heap.size
  tab : Lib.TabIs Tryz.prog w "internal/strconv.uint64pow10" .u64 Lib.pow10Tab
  mx : ∃ m, w.cell? ⟨6, 0, none⟩ = some (.int .i64 m)
theorem XW.pur {Hi Lo : Nat → Nat} {w w' : World} (h : XW Hi Lo w) (hp : Pur w w') : XW Hi Lo w' :=
  ⟨h.pt.pur hp, h.big, Nat.lt_of_lt_of_le h.lt hp.size, TabIs_below (g := 5) (by kernel_rfl) h.tab hp, h.mx.imp fun m hm => Us.cellp hm hp⟩
/-- a finite float's text -/
def tx (Hi Lo : Nat → Nat) (b : Nat) : List UInt8 := lay (dgT (dO Hi Lo b).1) ((nDigits (dO Hi Lo b).1 : Int) + (dO Hi Lo b).2)
set_option maxRecDepth 100000 in
set_option maxHeartbeats 16000000 in
theorem text_pos {Hi Lo : Nat → Nat} {w : World} (b : Nat) (hW : XW Hi Lo w) (h0 : 0 < b) (h1 : b < 9218868437227405312) :
    Calls Tryz.prog 61 #[.float .f64 b] w fun e w' => e = .returned (.string ⟨(tx Hi Lo b).toArray⟩) ∧ Pur w w' := by
  have o1 : FloatKind.f64.format.order b b = some .eq := by
    rw [ord_pos h1 h1]; simp [compare, compareOfLessAndEq]
  have o2 : FloatKind.f64.format.order b 0 = some .gt := by
    rw [ord_pos h1 (by decide)]
    simp only [compare, compareOfLessAndEq]
    rw [if_neg (by omega), if_neg (by omega)]
  have II := fun w => isinf_any b w h1
  have FM := format_any b hW.pt hW.big hW.lt hW.tab h0 h1
  obtain ⟨D, hD⟩ : ∃ D, dO Hi Lo b = D := ⟨_, rfl⟩
  have hV := (v_of h0 h1).1
  have hpos := sh_pos hV hW.big
  rw [show sh Hi Lo (mO b) (EO b) = D from hD] at hpos
  obtain ⟨c, R, hT, -, hRl⟩ := dgT_form hpos.1
  have hn20 : nDigits D.1 ≤ 20 := by have := numDigits_eq D.1 hpos.1 (by omega); split at this <;> omega
  have hdg := dgT_digit D.1
  rw [hT] at hdg
  obtain ⟨dp, hdp⟩ : ∃ dp, (nDigits D.1 : Int) + D.2 = dp := ⟨_, rfl⟩
  have hfo : fo Hi Lo b = mant (c :: R) ++ 101 :: expo (dp - 1) := by unfold fo; rw [hD, hT, hdp]; rfl
  have htx := Lib.hid (show tx Hi Lo b = lay (c :: R) dp by unfold tx; rw [hD, hT, hdp])
  have hn101 : (101 : UInt8) ∉ mant (c :: R) := by
    unfold mant
    intro h
    rcases List.mem_append.1 h with e | e
    · have := hdg 101 (List.mem_of_mem_take e); exact absurd this (by decide)
    · split at e
      · cases e
      · rcases List.mem_cons.1 e with e | e
        · exact absurd e (by decide)
        · have := hdg 101 (List.mem_of_mem_drop e); exact absurd this (by decide)
  have hn46 : (46 : UInt8) ∉ c :: R := fun h => absurd (hdg 46 h) (by decide)
  have hml : (mant (c :: R)).length ≤ 30 := by
    unfold mant
    rw [List.length_append]
    split <;> simp <;> omega
  have hel : (expo (dp - 1)).length ≤ 4 := by
    unfold expo
    rw [List.length_cons]
    generalize (if dp - 1 < 0 then (45 : UInt8) else 43) = s
    split <;> simp
  rw [hfo] at FM
  have CU := fun (W : World) (hp : Pur w W) => (hW.pur hp).mx.elim fun m hm => Tryz.strings_Cut ⟨(mant (c :: R) ++ 101 :: expo (dp - 1)).toArray⟩ ⟨#[101]⟩ m W (by show (mant (c :: R) ++ 101 :: expo (dp - 1)).length < _; rw [List.length_append, List.length_cons]; omega) hm
  have hcut : Lib.cut (mant (c :: R) ++ 101 :: expo (dp - 1)) [101] = (mant (c :: R), expo (dp - 1), true) := cut_at 101 _ _ hn101
  have AT := fun (W : World) => Tryz.strconv_Atoi ⟨(expo (dp - 1)).toArray⟩ (dp - 1) (by show (expo (dp - 1)).length ≤ 18; omega) (atoi_ex (by omega)) W
  have RPL := fun (W : World) (hp : Pur w W) => (hW.pur hp).mx.elim fun m hm => Tryz.strings_Replace ⟨(mant (c :: R)).toArray⟩ ⟨#[46]⟩ ⟨#[]⟩ 1 m W (by show (mant (c :: R)).length < _; omega) hm (by decide) (by show (mant (c :: R)).length + _ * 0 ≤ _; omega)
  have hrep := replace_mant c R hn46
  have LY := fun (W : World) (hp : Pur w W) => lay_any (w := W) (c :: R) dp (by simp) (by rw [List.length_cons]; omega) (by omega) (hW.pur hp).tab
  simp only [hcut] at CU
  simp only [hrep] at RPL
  have w1 : IntKind.i64.wrap (dp - 1 + 1) = dp := by rw [show dp - 1 + 1 = dp by omega]; exact IntWalk.i64_in _ (by omega)
  clear hfo hn101 hn46 hml hel hcut hrep hD hT hdg hV hpos hRl hn20 h1 hdp
  obtain ⟨Y, hY⟩ : ∃ Y, expo (dp - 1) = Y := ⟨_, rfl⟩
  obtain ⟨X, hX⟩ : ∃ X, mant (c :: R) = X := ⟨_, rfl⟩
  rw [hX, hY] at FM
  simp only [hX, hY] at CU RPL AT
  clear hX hY
  obtain ⟨E, hE⟩ : ∃ E, dp - 1 = E := ⟨_, rfl⟩
  rw [hE] at w1
  simp only [hE] at AT
  clear hE
  obtain ⟨T, hT⟩ : ∃ T, c :: R = T := ⟨_, rfl⟩
  simp only [hT] at RPL LY htx
  clear hT
  go_enter Tryz.func61, Tryz.ntmps61
  go_wp2_with fail
  refine (II _).mono ?_
  rintro e w2 ⟨rfl, rfl⟩
  go_wp2_with fail
  refine FM.mono ?_
  rintro e w2 ⟨rfl, p2⟩
  go_wp2_with fail
  refine (CU _ p2).mono ?_
  rintro e w3 ⟨rfl, n3, rfl⟩
  have p3 : Pur w (w2.drewN n3) := Pur.drewN n3 p2
  go_wp2_with fail
  refine (AT _).mono ?_
  rintro e w4 ⟨rfl, t4, hw4⟩
  have p4 : Pur w w4 := by
    rw [hw4]
    exact p3.trans (Lib.bytesWorld_below _ _ _)
  clear hw4
  go_wp2_with fail
  refine (RPL _ p4).mono ?_
  rintro e w5 ⟨rfl, b5⟩
  have p5 : Pur w w5 := p4.trans b5
  go_wp2_with fail
  refine (LY _ p5).mono ?_
  rintro e w6 ⟨rfl, b6⟩
  go_wp2
  go_ret
  rw [htx.out]
  exact ⟨rfl, p5.trans b6⟩
end Ft
end Go.Proofs.YtapgibcdbggpkaaGreatDoor
namespace Go.Proofs.YtapgibcdbggpkaaGreatDoor
open Go Go.RowKit Go.Sort Go.Lib
set_option linter.all false
namespace Ft
open Us
/-- a float's text, above 0 -/
def txp (Hi Lo : Nat → Nat) (r : Nat) : List UInt8 := if r = 9218868437227405312 then [73, 110, 102, 105, 110, 105, 116, 121] else tx Hi Lo r
/-- any float's text -/
def txt (Hi Lo : Nat → Nat) (b : Nat) : List UInt8 :=
  if Ie.nan b = true then [78, 97, 78]
  else if b % 9223372036854775808 = 0 then [48]
  else if 9223372036854775808 ≤ b then 45 :: txp Hi Lo (b % 9223372036854775808) else txp Hi Lo (b % 9223372036854775808)
theorem lay_len {T : List UInt8} {n : Int} (hT : T.length ≤ 20) (h0 : -1000 ≤ n) (h1 : n ≤ 1000) : (lay T n).length ≤ 70 := by
  have hs : ∀ a b, (Go.Proofs.YtapgibcdbggpkaaGreatDoor.sub T a b).length ≤ 20 := fun a b => by
    unfold Go.Proofs.YtapgibcdbggpkaaGreatDoor.sub
    simp only [List.length_drop, List.length_take]
    omega
  have i1 := Lib.itoa_length_le (n - 1)
  have i2 := Lib.itoa_length_le (1 - n)
  have s1 := hs 0 1
  have s2 := hs 1 T.length
  have s3 := hs 0 n.toNat
  have s4 := hs n.toNat T.length
  unfold lay
  split
  · rw [List.length_append, rep_len]; omega
  · split
    · rw [List.length_append, List.length_cons]; omega
    · split
      · rw [List.length_cons, List.length_cons, List.length_append, rep_len]; omega
      · rw [List.length_append, List.length_append]
        split <;> split <;> simp only [List.length_cons, List.length_nil] <;> omega
theorem tx_len {Hi Lo : Nat → Nat} (hB : Big Hi Lo) {b : Nat} (h0 : 0 < b) (h1 : b < 9218868437227405312) : (tx Hi Lo b).length ≤ 70 := by
  obtain ⟨D, hD⟩ : ∃ D, dO Hi Lo b = D := ⟨_, rfl⟩
  have hV := (v_of h0 h1).1
  have hpos := sh_pos hV hB
  rw [show sh Hi Lo (mO b) (EO b) = D from hD] at hpos
  obtain ⟨c, R, hT, -, hRl⟩ := dgT_form hpos.1
  have hn20 : nDigits D.1 ≤ 20 := by have := numDigits_eq D.1 hpos.1 (by omega); split at this <;> omega
  unfold tx
  rw [hD]
  exact lay_len (by rw [hT, List.length_cons]; omega) (by omega) (by omega)
theorem txp_len {Hi Lo : Nat → Nat} (hB : Big Hi Lo) {b : Nat} (h0 : 0 < b) (h1 : b ≤ 9218868437227405312) : (txp Hi Lo b).length ≤ 70 := by
  unfold txp
  split
  · simp
  · exact tx_len hB h0 (by omega)
set_option maxRecDepth 100000 in
theorem text_inf {Hi Lo : Nat → Nat} {w : World} : Calls Tryz.prog 61 #[.float .f64 9218868437227405312] w fun e w' => e = .returned (.string ⟨(txp Hi Lo 9218868437227405312).toArray⟩) ∧ Pur w w' := by
  have HT := Lib.hid (show txp Hi Lo 9218868437227405312 = [73, 110, 102, 105, 110, 105, 116, 121] by unfold txp; rw [if_pos rfl])
  have o1 : FloatKind.f64.format.order 9218868437227405312 9218868437227405312 = some .eq := by decide
  have o2 : FloatKind.f64.format.order 9218868437227405312 0 = some .gt := by decide
  have o3 : FloatKind.f64.format.order 9218868437227405312 9218868437227405311 = some .gt := by decide
  have II : ∀ w : World, Calls Tryz.prog 75 #[.float .f64 9218868437227405312, .int .i64 1] w fun e w' => e = .returned (.bool true) ∧ w = w' := fun w => by
    go_enter Tryz.func75, Tryz.ntmps75
    go_wp2
    go_ret
    exact ⟨rfl, rfl⟩
  go_enter Tryz.func61, Tryz.ntmps61
  go_wp2_with fail
  refine (II _).mono ?_
  rintro e w2 ⟨rfl, rfl⟩
  go_wp2
  go_ret
  rw [HT.out]
  exact ⟨rfl, Pur.refl _⟩
theorem text_up {Hi Lo : Nat → Nat} {w : World} (b : Nat) (hW : XW Hi Lo w) (h0 : 0 < b) (h1 : b ≤ 9218868437227405312) :
    Calls Tryz.prog 61 #[.float .f64 b] w fun e w' => e = .returned (.string ⟨(txp Hi Lo b).toArray⟩) ∧ Pur w w' := by
  by_cases g : b = 9218868437227405312
  · subst g; exact text_inf
  · have := text_pos b hW h0 (by omega)
    rwa [show txp Hi Lo b = tx Hi Lo b by unfold txp; rw [if_neg g]]
set_option maxRecDepth 100000 in
theorem text_any {Hi Lo : Nat → Nat} {w : World} (b : Nat) (hW : XW Hi Lo w) (hb : b < 18446744073709551616) :
    Calls Tryz.prog 61 #[.float .f64 b] w fun e w' => e = .returned (.string ⟨(txt Hi Lo b).toArray⟩) ∧ Pur w w' := by
  by_cases gn : Ie.nan b = true
  · have HT := Lib.hid (show txt Hi Lo b = [78, 97, 78] by unfold txt; rw [if_pos gn])
    have o1 : FloatKind.f64.format.order b b = none := Ie.order_nan1 gn b
    clear gn
    go_enter Tryz.func61, Tryz.ntmps61
    go_wp2
    go_ret
    rw [HT.out]
    exact ⟨rfl, Pur.refl _⟩
  have gn : Ie.nan b = false := by simpa using gn
  have gn2 := of_decide_eq_false gn
  have o1 : FloatKind.f64.format.order b b = some .eq := Ie.order_self hb gn
  have cmp : ∀ x y : Int, compare x y = if x < y then .lt else if x = y then .eq else .gt := fun x y => rfl
  have o2 := Ie.order_rk (decide (9223372036854775808 ≤ b)) false (a := b % 9223372036854775808) (b := 0) (by omega) (by decide)
  rw [← Ie.word_ex b hb, cmp] at o2
  by_cases g0 : b % 9223372036854775808 = 0
  · have HT := Lib.hid (show txt Hi Lo b = [48] by unfold txt; rw [if_neg (by rw [gn]; decide), if_pos g0])
    have o2 : FloatKind.f64.format.order b 0 = some .eq := by
      refine Eq.trans o2 ?_
      rw [g0]
      unfold Ie.rk
      split <;> simp
    clear gn gn2 g0
    go_enter Tryz.func61, Tryz.ntmps61
    go_wp2
    go_ret
    rw [HT.out]
    exact ⟨rfl, Pur.refl _⟩
  by_cases gs : 9223372036854775808 ≤ b
  · have HT := Lib.hid (show txt Hi Lo b = 45 :: txp Hi Lo (b % 9223372036854775808) by unfold txt; rw [if_neg (by rw [gn]; decide), if_neg g0, if_pos gs])
    have o2 : FloatKind.f64.format.order b 0 = some .lt := by
      refine Eq.trans o2 ?_
      rw [decide_eq_true gs]
      show some (if -((b % 9223372036854775808 : Nat) : Int) < 0 then Ordering.lt else _) = _
      rw [if_pos (by omega)]
    have n1 : Op.negFloat .f64 b = b % 9223372036854775808 := by
      have := Ie.neg_word (decide (9223372036854775808 ≤ b)) (r := b % 9223372036854775808) (by omega)
      rw [← Ie.word_ex b hb] at this
      rw [this, decide_eq_true gs]; rfl
    have TU := fun {w : World} (hW : XW Hi Lo w) => text_up (b % 9223372036854775808) hW (by omega) (by omega)
    obtain ⟨r, hr⟩ : ∃ r, b % 9223372036854775808 = r := ⟨_, rfl⟩
    have TL := txp_len hW.big (b := b % 9223372036854775808) (by omega) (by omega)
    obtain ⟨L, hL⟩ : ∃ L, txp Hi Lo r = L := ⟨_, rfl⟩
    rw [hr, hL] at TL
    have z1 : ¬ 9223372036854775807 < 1 + L.length := by omega
    rw [hr, hL] at HT
    rw [hr] at n1
    have nf : ∀ w : World, (Op.unary .neg (.float .f64 b)).run Tryz.prog w = .ok (.float .f64 r) w := fun w => by
      show Result.ok (Value.float .f64 (Op.negFloat .f64 b)) w = _
      rw [n1]
    clear n1
    simp only [hr, hL] at TU
    clear gn gn2 g0 gs hr hL
    go_enter Tryz.func61, Tryz.ntmps61
    go_wp2_with fail
    refine (TU hW).mono ?_
    rintro e w2 ⟨rfl, p2⟩
    go_wp2
    go_ret
    rw [HT.out]
    exact ⟨rfl, p2⟩
  · have HT : txt Hi Lo b = txp Hi Lo b := by unfold txt; rw [if_neg (by rw [gn]; decide), if_neg g0, if_neg gs, Nat.mod_eq_of_lt (by omega)]
    rw [HT]
    exact text_up b hW (by omega) (by omega)
end Ft
end Go.Proofs.YtapgibcdbggpkaaGreatDoor
