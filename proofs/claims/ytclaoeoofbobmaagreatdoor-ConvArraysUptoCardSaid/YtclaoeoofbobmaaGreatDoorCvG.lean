/- Layer 9: an array of two values that are no objects, and its text, in plain words. A region that draws: another condition from here on; and, from here on, operations that all yield one value. Layer 9: what the document says of a right value; the same in plain words. Layer 9: the law ConvArrays, walked. -/
import Derived.Test.YtclaoeoofbobmaaGreatDoorCvA
import Derived.Test.YtclaoeoofbobmaaGreatDoorTbE
import Derived.BigQuiet
import Derived.Test.YtclaoeoofbobmaaGreatDoorCvE
namespace Go.Proofs.YtclaoeoofbobmaaGreatDoor
namespace Cv
/-- an item's text -/
def itT (T : Nat → List UInt8) (v : Va) : List UInt8 :=
  if v.kind ≤ 1 then [] else if v.kind = 2 then (if eqB v.num one = true then wTrue else wFalse) else if v.kind = 3 then wide8 (T v.num) else v.text
theorem tell_it (T : Nat → List UInt8) (d : Hd) (arr : Int → Option (List UInt8)) (v : Va) (h2 : 1 < v.kind) (h4 : v.kind ≤ 4) : tellV T d arr v = some (itT T v) := by
  obtain ⟨k, n, t, r⟩ := v
  simp only at h2 h4
  have : k = 2 ∨ k = 3 ∨ k = 4 := by omega
  rcases this with rfl | rfl | rfl <;> rfl
theorem text_it (T : Nat → List UInt8) (d : Hd) (v : Va) (h2 : 1 < v.kind) (h4 : v.kind ≤ 4) : text T d v = some (itT T v) := tell_it T d _ v h2 h4
theorem item_it (T : Nat → List UInt8) (d : Hd) (arr : Int → Option (List UInt8)) (v : Va) (h0 : 0 ≤ v.kind) (h4 : v.kind ≤ 4) : (if some' v = true then tellV T d arr v else some []) = some (itT T v) := by
  by_cases h2 : 1 < v.kind
  · rw [if_pos (show some' v = true by unfold some'; simp; omega), tell_it T d arr v h2 h4]
  · rw [if_neg (show ¬some' v = true by unfold some'; simp; omega)]
    unfold itT
    rw [if_pos (by omega)]
theorem it_len {T : Nat → List UInt8} (hT : ∀ x, (T x).length ≤ 100) (v : Va) : (itT T v).length ≤ 200 + v.text.length := by
  unfold itT
  split
  · simp
  · split
    · split
      · rw [show wTrue.length = 8 from rfl]; omega
      · rw [show wFalse.length = 10 from rfl]; omega
    · split
      · rw [wide8_len]
        have := hT v.num
        omega
      · omega
/-- an array of these values alone -/
def aloneD (left : Int) (vs : List Va) : Hd := ⟨left, [Ob.fresh 2 (-1) 0 0 0 vs]⟩
theorem alone_new {a b : Va} (ha : a.right 0 = true) (hb : b.right 0 = true) : (Hd.mk 100 []).array [a, b] = ((0, 0), aloneD 97 [a, b]) := by
  unfold Hd.array Hd.add
  simp only [List.length_nil, List.all_cons, List.all_nil, ha, hb, Bool.and_self, if_true]
  rw [if_neg (by simp only [List.length_cons, List.length_nil]; omega)]
  rfl
theorem alone_text {T : Nat → List UInt8} {left : Int} {a b : Va} (ha : 0 ≤ a.kind ∧ a.kind ≤ 4) (hb : 0 ≤ b.kind ∧ b.kind ≤ 4) (hl : (itT T a).length + (itT T b).length ≤ 10000) :
    text T (aloneD left [a, b]) (objV 0) = some (itT T a ++ [0, 44] ++ itT T b) := by
  show arrT T (aloneD left [a, b]) 2 [] 0 = _
  rw [arrT, if_neg (by simp)]
  show joinL _ [a, b] true [] = _
  rw [joinL, item_it T _ _ a ha.1 ha.2]
  simp only [if_true, List.nil_append]
  rw [if_neg (by omega), joinL, item_it T _ _ b hb.1 hb.2]
  simp only [Bool.false_eq_true, if_false]
  rw [if_neg (by simp only [List.length_append, List.length_cons, List.length_nil]; omega), joinL]
theorem three_text {T : Nat → List UInt8} {left : Int} {a b : Va} (ha : 0 ≤ a.kind ∧ a.kind ≤ 4) (hb : 0 ≤ b.kind ∧ b.kind ≤ 4) (hl : (itT T a).length + (itT T b).length ≤ 10000) :
    text T (aloneD left [a, b, objV 0]) (objV 0) = some (itT T a ++ [0, 44] ++ itT T b ++ [0, 44]) := by
  show arrT T (aloneD left [a, b, objV 0]) 2 [] 0 = _
  rw [arrT, if_neg (by simp)]
  show joinL _ [a, b, objV 0] true [] = _
  rw [joinL, item_it T _ _ a ha.1 ha.2]
  simp only [if_true, List.nil_append]
  rw [if_neg (by omega), joinL, item_it T _ _ b hb.1 hb.2]
  simp only [Bool.false_eq_true, if_false]
  rw [if_neg (by simp only [List.length_append, List.length_cons, List.length_nil]; omega), joinL]
  have h3 : (if some' (objV 0) = true then tellV T (aloneD left [a, b, objV 0]) (arrT T (aloneD left [a, b, objV 0]) 1 [0]) (objV 0) else some []) = some [] := by
    rw [if_pos (by decide)]
    show arrT T (aloneD left [a, b, objV 0]) 1 [0] 0 = _
    rw [arrT, if_pos (by simp)]
  rw [h3]
  simp only [Bool.false_eq_true, if_false, List.append_nil]
  rw [if_neg (by simp only [List.length_append, List.length_cons, List.length_nil]; omega), joinL]
theorem alone_put (a b : Va) : (aloneD 97 [a, b]).put 0 (keyOf 2) (objV 0) = (0, aloneD 96 [a, b, objV 0]) := by
  have hr : (objV 0).right 1 = true := by
    unfold Va.right objV
    simp
    decide
  have hk : keyOf 2 = [0, 50] := by decide +kernel
  have hi : index [0, 50] = some 2 := by decide +kernel
  rw [hk]
  unfold Hd.put
  rw [show (aloneD 97 [a, b]).obj 0 = some (Ob.fresh 2 (-1) 0 0 0 [a, b]) from rfl]
  simp only
  rw [show (aloneD 97 [a, b]).xs.length = 1 from rfl, hr, if_neg (by simp), if_neg (fun h => absurd h.2 (by decide)), if_pos (show (Ob.fresh 2 (-1) 0 0 0 [a, b]).kind = 2 from rfl), hi]
  rfl
end Cv
end Go.Proofs.YtclaoeoofbobmaaGreatDoor
namespace Go.Proofs.YtclaoeoofbobmaaGreatDoor
open Go Go.RowKit
set_option linter.all false
section
variable {P : Program} {ops : Array Oper} {Q : Exit → Act → World → Prop} {md : Region.Mode} {T T' : World → Prop} {d d' : Nat}
/-- d is done: on with another condition, up to another operation -/
theorem wpAnyU_turn {f : Nat} {s : Array Bool} {a : Act} {w : World} (hs : s.getD d true = true) (h : wpAnyU P md ops Q T' d' f s a w) : wpAnyU P md ops Q T d f s a w :=
  wpAnyU_of_any f s a w hs (wpAny_of_until f s a w h)
/-- d is done: the rest yields one value each, in every world in which nothing has turned since -/
theorem wpAnyU_quiet {l : List Oper} {s : Array Bool} {a : Act} {w : World} (k : Nat) (hs : s.getD d true = true) (hsel : Region.noSelect l.toArray = true) (hB : Region.lexFrom md l.toArray (l.drop k).length k s = true)
    (h : wpQuiet P l.toArray (fun w' => ∃ x : PW w, w' = x.to) (fun a' => ∀ w', Pur w w' → Q .normal a' w') (l.drop k) a) : wpAnyU P md l.toArray Q T d (l.drop k).length s a w :=
  wpAnyU_of_any _ s a w hs (wpAny_of_quiet (C := fun w' => ∃ x : PW w, w' = x.to) (Q := fun a' => ∀ w', Pur w w' → Q .normal a' w') (fun a' w' ⟨x, hx⟩ h' => h' w' (hx ▸ x.pur)) _ s a w ⟨⟨w, Pur.refl w⟩, rfl⟩
    (wpAnyQ_lex hsel (l.drop k) k s a (fun j => by simp [List.getElem?_drop]) hB h))
end
end Go.Proofs.YtclaoeoofbobmaaGreatDoor
namespace Go.Proofs.YtclaoeoofbobmaaGreatDoor
open Go Go.RowKit
set_option linter.all false
namespace Cv
open P10
theorem zord9 (b : Nat) (hb : b < 18446744073709551616) : FloatKind.f64.format.order b 0 = if Ie.nan b = true then none else if b % 9223372036854775808 = 0 then some .eq else if 9223372036854775808 ≤ b then some .lt else some .gt := by
  by_cases gn : Ie.nan b = true
  · rw [if_pos gn]; exact Ie.order_nan1 gn 0
  rw [if_neg gn]
  have gn : Ie.nan b = false := by simpa using gn
  have gn2 := of_decide_eq_false gn
  have cmp : ∀ x y : Int, compare x y = if x < y then .lt else if x = y then .eq else .gt := fun x y => rfl
  have o2 := Ie.order_rk (decide (9223372036854775808 ≤ b)) false (a := b % 9223372036854775808) (b := 0) (by omega) (by decide)
  rw [← Ie.word_ex b hb, cmp] at o2
  refine Eq.trans o2 ?_
  by_cases g0 : b % 9223372036854775808 = 0
  · rw [if_pos g0, g0]
    unfold Ie.rk
    split <;> simp
  · rw [if_neg g0]
    by_cases gs : 9223372036854775808 ≤ b
    · rw [if_pos gs, decide_eq_true gs]
      show some (if -((b % 9223372036854775808 : Nat) : Int) < 0 then Ordering.lt else _) = _
      rw [if_pos (by omega)]
    · rw [if_neg gs, decide_eq_false gs]
      show some (if ((b % 9223372036854775808 : Nat) : Int) < 0 then Ordering.lt else if ((b % 9223372036854775808 : Nat) : Int) = 0 then _ else _) = _
      rw [if_neg (by omega), if_neg (by omega)]
theorem same0 (n : Nat) (hn : n < 18446744073709551616) : sameB n 0 = decide (n = 0) := by
  have hz := zord9 n hn
  have h0 : nanB 0 = false := by decide +kernel
  unfold sameB
  rw [h0, Bool.or_false, Bool.and_false]
  by_cases gn : Ie.nan n = true
  · have h1 : nanB n = true := by
      unfold nanB
      rw [show FloatKind.f64.format.order n n = none from Ie.order_nan1 gn n]; rfl
    rw [h1, if_pos rfl]
    have : n ≠ 0 := fun e => by rw [e] at gn; revert gn; decide
    rw [decide_eq_false this]
  · have gf : Ie.nan n = false := by simpa using gn
    have h1 : nanB n = false := by
      unfold nanB
      rw [show FloatKind.f64.format.order n n = some .eq from Ie.order_self hn gf]; rfl
    rw [h1, if_neg (by decide)]
    rw [if_neg gn] at hz
    unfold eqB
    rw [hz]
    by_cases g0 : n % 9223372036854775808 = 0
    · rw [if_pos g0]
      by_cases e : n = 0
      · rw [e]; decide
      · have : 9223372036854775808 ≤ n := by omega
        unfold signB
        rw [decide_eq_true this, decide_eq_false e]
        rfl
    · rw [if_neg g0]
      have : n ≠ 0 := fun e => g0 (by rw [e])
      rw [decide_eq_false this]
      split <;> rfl
set_option maxRecDepth 100000 in
theorem rsame0 (n : Nat) (hn : n < 18446744073709551616) (w : World) : Calls Tryz.prog 37 #[.float .f64 n, .float .f64 0] w fun e w' => e = .returned (.bool (decide (n = 0))) ∧ w = w' := by
  have h6 := @run_callFunc_extern Tryz.prog 65 _ Go.Extern.MathFloatBits.float64bits Tryz.func65 (by kernel_rfl) (by kernel_rfl) (by kernel_rfl) (by kernel_rfl)
  have fb : ∀ (n : Nat) (w : World), (Go.Extern.MathFloatBits.float64bits #[.float .f64 n]).run Tryz.prog w = .ok (.int .u64 (n : Nat)) w := fun n w => rfl
  have e0 : (FloatKind.f64.format.order 0 0 != some Ordering.eq) = false := by decide +kernel
  obtain ⟨b, hb⟩ : ∃ b, (FloatKind.f64.format.order n n != some Ordering.eq) = b := ⟨_, rfl⟩
  have hbn : b = true → n ≠ 0 := fun h e => by rw [e, e0] at hb; rw [← hb] at h; cases h
  have d1 : ((n : Int) == 0) = decide (n = 0) := by
    rw [Bool.eq_iff_iff, beq_iff_eq, decide_eq_true_eq]; omega
  rcases b with _ | _
  · go_enter Tryz.func37, Tryz.ntmps37
    go_wp2
    go_ret
    exact ⟨by simp [d1], rfl⟩
  · have hf : decide (n = 0) = false := decide_eq_false (hbn rfl)
    rw [hf]
    go_enter Tryz.func37, Tryz.ntmps37
    go_wp2
    go_ret
    exact ⟨rfl, rfl⟩
/-- the document's Right, where no object is named -/
def rr (v : Va) : Bool :=
  if v.kind = 0 ∨ v.kind = 1 then decide (v.num = 0) && (v.text == []) && decide (v.ref = 0)
  else if v.kind = 2 then (decide (v.num = 0) || eqB v.num 4607182418800017408) && (v.text == []) && decide (v.ref = 0)
  else if v.kind = 3 then (v.text == []) && decide (v.ref = 0)
  else if v.kind = 4 then decide (v.num = 0) && decide (v.ref = 0) && ((v.text.length : Int) % 2 == 0)
  else false
theorem rr_right (v : Va) (m : Nat) (h4 : v.kind ≤ 4) (hv : v.wf) : rr v = v.right m := by
  unfold rr Va.right
  rw [same0 v.num hv.1]
  have h5 : ¬(v.kind = 5 ∨ v.kind = 6) := by omega
  rw [if_neg h5]
set_option maxRecDepth 100000 in
set_option maxHeartbeats 16000000 in
theorem rright_any (hp : Value) (v : Va) (h4 : v.kind ≤ 4) (hv : v.wf) (w : World) : Calls Tryz.prog 20 #[hp, v.v] w fun e w' => e = .returned (.bool (rr v)) ∧ Pur w w' := by
  have S := fun w => rsame0 v.num hv.1 w
  have hl := hv.2
  obtain ⟨k, n, t, r⟩ := v
  simp only [Va.v, Va.cells] at S ⊢
  simp only at h4 hl
  have P := (Pur.refl w).alloc (.cells #[.int .i64 k, .float .f64 n, .string ⟨t.toArray⟩, .int .i64 r] 30)
  obtain ⟨b0, hb0⟩ : ∃ b, decide (n = 0) = b := ⟨_, rfl⟩
  obtain ⟨b1, hb1⟩ : ∃ b, eqB n 4607182418800017408 = b := ⟨_, rfl⟩
  obtain ⟨b2, hb2⟩ : ∃ b, (t == []) = b := ⟨_, rfl⟩
  obtain ⟨b3, hb3⟩ : ∃ b, decide (r = 0) = b := ⟨_, rfl⟩
  obtain ⟨b4, hb4⟩ : ∃ b, ((t.length : Int) % 2 == 0) = b := ⟨_, rfl⟩
  have e1 : (FloatKind.f64.format.order n 4607182418800017408 == some Ordering.eq) = b1 := hb1
  have e2 : t.isEmpty = b2 := by rw [← hb2]; cases t <;> rfl
  have e3 : (r == 0) = b3 := hb3
  have e4 : ((t.length : Int).tmod 2 == 0) = b4 := by rw [Int.tmod_eq_emod_of_nonneg (by omega)]; exact hb4
  have HR0 : rr ⟨k, n, t, r⟩ = (if k = 0 ∨ k = 1 then b0 && b2 && b3 else if k = 2 then (b0 || b1) && b2 && b3 else if k = 3 then b2 && b3 else if k = 4 then b0 && b3 && b4 else false) := by
    unfold rr
    simp only [hb0, hb1, hb2, hb3, hb4]
  rw [hb0] at S
  by_cases k0 : k = 0
  · subst k0
    have HR := Lib.hid (show rr ⟨0, n, t, r⟩ = (b0 && b2 && b3) by rw [HR0]; rfl)
    clear HR0 hb0 hb1 hb4 e1 e4
    cases b0 <;> cases b2 <;> cases b3
    all_goals
      go_enter Tryz.func20, Tryz.ntmps20
      go_wp2_with fail
      refine (S _).mono ?_
      rintro e w' ⟨rfl, rfl⟩
      go_wp2
      go_ret
      exact ⟨by rw [HR.out]; rfl, P⟩
  by_cases k1 : k = 1
  · subst k1
    have HR := Lib.hid (show rr ⟨1, n, t, r⟩ = (b0 && b2 && b3) by rw [HR0]; rfl)
    clear HR0 hb0 hb1 hb4 e1 e4
    cases b0 <;> cases b2 <;> cases b3
    all_goals
      go_enter Tryz.func20, Tryz.ntmps20
      go_wp2_with fail
      refine (S _).mono ?_
      rintro e w' ⟨rfl, rfl⟩
      go_wp2
      go_ret
      exact ⟨by rw [HR.out]; rfl, P⟩
  by_cases k2 : k = 2
  · subst k2
    have HR := Lib.hid (show rr ⟨2, n, t, r⟩ = ((b0 || b1) && b2 && b3) by rw [HR0]; rfl)
    clear HR0 hb0 hb1 hb4 e4
    cases b0 <;> cases b1 <;> cases b2 <;> cases b3
    all_goals
      go_enter Tryz.func20, Tryz.ntmps20
      go_wp2_with fail
      refine (S _).mono ?_
      rintro e w' ⟨rfl, rfl⟩
      go_wp2
      go_ret
      exact ⟨by rw [HR.out]; rfl, P⟩
  by_cases k3 : k = 3
  · subst k3
    have HR := Lib.hid (show rr ⟨3, n, t, r⟩ = (b2 && b3) by rw [HR0]; rfl)
    clear HR0 hb0 hb1 hb4 e1 e4
    cases b2 <;> cases b3
    all_goals
      go_enter Tryz.func20, Tryz.ntmps20
      go_wp2_with fail
      refine (S _).mono ?_
      rintro e w' ⟨rfl, rfl⟩
      go_wp2
      go_ret
      exact ⟨by rw [HR.out]; rfl, P⟩
  by_cases k4 : k = 4
  · subst k4
    have HR := Lib.hid (show rr ⟨4, n, t, r⟩ = (b0 && b3 && b4) by rw [HR0]; rfl)
    clear HR0 hb0 hb1 hb2 e1 e2
    cases b0 <;> cases b3 <;> cases b4
    all_goals
      go_enter Tryz.func20, Tryz.ntmps20
      go_wp2_with fail
      refine (S _).mono ?_
      rintro e w' ⟨rfl, rfl⟩
      go_wp2
      go_ret
      exact ⟨by rw [HR.out]; rfl, P⟩
  · have HR := Lib.hid (show rr ⟨k, n, t, r⟩ = false by rw [HR0]; simp [k0, k1, k2, k3, k4])
    have q0 : (k == 0) = false := beq_eq_false_iff_ne.2 k0
    have q1 : (k == 1) = false := beq_eq_false_iff_ne.2 k1
    have q2 : (k == 2) = false := beq_eq_false_iff_ne.2 k2
    have q3 : (k == 3) = false := beq_eq_false_iff_ne.2 k3
    have q4 : (k == 4) = false := beq_eq_false_iff_ne.2 k4
    have q5 : (k == 5) = false := beq_eq_false_iff_ne.2 (by omega)
    have q6 : (k == 6) = false := beq_eq_false_iff_ne.2 (by omega)
    clear HR0 hb0 hb1 hb2 hb3 hb4 e1 e2 e3 e4 k0 k1 k2 k3 k4 h4
    go_enter Tryz.func20, Tryz.ntmps20
    go_wp2_with fail
    refine (S _).mono ?_
    rintro e w' ⟨rfl, rfl⟩
    go_wp2
    go_ret
    exact ⟨by rw [HR.out]; rfl, P⟩
theorem rnew_any (c : Int) (w : World) : Calls Tryz.prog 19 #[.int .i64 c] w fun e w' => ∃ g, e = .returned (.pointer (some ⟨g, 0, none⟩)) ∧ Pur w w' := by
  go_enter Tryz.func19, Tryz.ntmps19
  go_wp2
  go_ret
  exact ⟨_, rfl, (Pur.refl w).alloc _⟩
end Cv
end Go.Proofs.YtclaoeoofbobmaaGreatDoor
namespace Go.Proofs.YtclaoeoofbobmaaGreatDoor
open Go Go.RowKit
set_option linter.all false
open Lx (w16)
namespace Cv
open P10
theorem hd_new' (c : Int) (h0 : 0 ≤ c) (h1 : c ≤ 10000) : Hd.new c = ⟨c, []⟩ := by
  unfold Hd.new cellsOf
  rw [show min (max c 0) 10000 = c by omega, show ((c.toNat : Nat) : Int) = c by omega]
theorem alone_wf {left : Int} {vs : List Va} (h : ∀ v ∈ vs, v.wf) : ∀ x ∈ (aloneD left vs).xs, ∀ v ∈ x.items, v.wf := by
  intro x hx v hv
  simp only [aloneD, List.mem_singleton] at hx
  subst hx
  exact h v hv
theorem rr_kind {v : Va} (h : rr v = true) : 0 ≤ v.kind ∧ v.kind ≤ 4 := by
  unfold rr at h
  split at h
  · omega
  · split at h
    · omega
    · split at h
      · omega
      · split at h
        · omega
        · cases h
set_option maxRecDepth 100000 in
set_option maxHeartbeats 64000000 in
theorem arrays_law (a b : Va) (tw : Bool) (w : World) (ha : a.wf) (hb : b.wf) (hW : CW w) :
    Calls Tryz.prog 5 #[a.v, b.v, .bool tw] w fun e w' => e = .returned (.bool true) ∧ Pur w w' := by
  have AW := fun w' (hp : Pur w w') => awake_any (hW.pur hp)
  have N1 := fun w => new_st 100 w
  simp only [hd_new' 100 (by decide) (by decide)] at N1
  have TB := two_blocks w a b
  have RA := fun (hk : a.kind ≤ 4) (hp : Value) w => rright_any hp a hk ha w
  have RB := fun (hk : b.kind ≤ 4) (hp : Value) w => rright_any hp b hk hb w
  have KA := fun (h : rr a = true) => rr_kind h
  have KB := fun (h : rr b = true) => rr_kind h
  have RRa := fun (h : a.kind ≤ 4) => rr_right a 0 h ha
  have RRb := fun (h : b.kind ≤ 4) => rr_right b 0 h hb
  have hal := ha.2
  have hbl := hb.2
  have L3 := fun (h1 : (a.text.length : Int) + b.text.length ≤ 4000) => (show (itT TX a).length + (itT TX b).length ≤ 10000 by
    have h3 := it_len (T := TX) (fun x => txt_short hW.k.x.big x) a
    have h4 := it_len (T := TX) (fun x => txt_short hW.k.x.big x) b
    omega)
  have o1 := fun w => Ft.of_any [44] w (by decide)
  rw [show w16 [44] = [0, 44] from rfl] at o1
  obtain ⟨qa, hqa⟩ : ∃ q, rr a = q := ⟨_, rfl⟩
  obtain ⟨qb, hqb⟩ : ∃ q, rr b = q := ⟨_, rfl⟩
  obtain ⟨x, hx⟩ : ∃ x, itT TX a = x := ⟨_, rfl⟩
  obtain ⟨y, hy⟩ : ∃ y, itT TX b = y := ⟨_, rfl⟩
  rw [hqa] at RA KA RRa
  rw [hqb] at RB KB RRb
  rw [hx, hy] at L3
  have XT := fun (d : Hd) (h2 : 1 < a.kind) (h4 : a.kind ≤ 4) => (text_it TX d a h2 h4).trans (congrArg some hx)
  have YT := fun (d : Hd) (h2 : 1 < b.kind) (h4 : b.kind ≤ 4) => (text_it TX d b h2 h4).trans (congrArg some hy)
  have X0 := fun (h2 : a.kind ≤ 1) => (show x = [] by rw [← hx]; unfold itT; rw [if_pos h2])
  have Y0 := fun (h2 : b.kind ≤ 1) => (show y = [] by rw [← hy]; unfold itT; rw [if_pos h2])
  have TXT := fun (left : Int) (h1 : 0 ≤ a.kind ∧ a.kind ≤ 4) (h2 : 0 ≤ b.kind ∧ b.kind ≤ 4) (h3 : x.length + y.length ≤ 10000) => (alone_text (T := TX) (left := left) h1 h2 (by rw [hx, hy]; exact h3)).trans (by rw [hx, hy])
  have TXT3 := fun (left : Int) (h1 : 0 ≤ a.kind ∧ a.kind ≤ 4) (h2 : 0 ≤ b.kind ∧ b.kind ≤ 4) (h3 : x.length + y.length ≤ 10000) => (three_text (T := TX) (left := left) h1 h2 (by rw [hx, hy]; exact h3)).trans (by rw [hx, hy])
  have NEW := fun (h1 : a.right 0 = true) (h2 : b.right 0 = true) => alone_new h1 h2
  have PUT := alone_put a b
  clear hx hy hqa hqb
  obtain ⟨k, n, t, r⟩ := a
  obtain ⟨k', n', t', r'⟩ := b
  simp only [Va.v, Va.cells] at *
  go_enter Tryz.func5, Tryz.ntmps5
  go_wp2_with fail
  obtain ⟨PW, Z0, Z1⟩ := TB
  have NW : (w.alloc (.cells #[.int .i64 k, .float .f64 n, .string ⟨t.toArray⟩, .int .i64 r] 30)).heap.size = w.heap.size + 1 := Array.size_push _
  generalize (w.alloc (.cells #[.int .i64 k, .float .f64 n, .string ⟨t.toArray⟩, .int .i64 r] 30)).alloc (.cells #[.int .i64 k', .float .f64 n', .string ⟨t'.toArray⟩, .int .i64 r'] 30) = W at *
  try rw [NW]
  refine (AW _ PW).mono ?_
  rintro e w1 ⟨rfl, h1⟩
  go_wp2_with fail
  refine (N1 _).mono ?_
  rintro e w2 ⟨hh, rfl, A2⟩
  have P2 := h1.trans A2.pur
  have CF : ∀ w', Pur W w' → (w'.cell? ⟨w.heap.size, 0, none⟩ = some (.int .i64 k) ∧ w'.cell? ⟨w.heap.size, 1, none⟩ = some (.float .f64 n) ∧ w'.cell? ⟨w.heap.size, 2, none⟩ = some (.string ⟨t.toArray⟩) ∧ w'.cell? ⟨w.heap.size, 3, none⟩ = some (.int .i64 r) ∧ w'.cell? ⟨w.heap.size + 1, 0, none⟩ = some (.int .i64 k') ∧ w'.cell? ⟨w.heap.size + 1, 1, none⟩ = some (.float .f64 n') ∧ w'.cell? ⟨w.heap.size + 1, 2, none⟩ = some (.string ⟨t'.toArray⟩) ∧ w'.cell? ⟨w.heap.size + 1, 3, none⟩ = some (.int .i64 r')) := fun w' hp =>
    have E0 := bk_pur Z0 hp
    have E1 := bk_pur Z1 hp
    ⟨bk_cell E0 0 _ rfl, bk_cell E0 1 _ rfl, bk_cell E0 2 _ rfl, bk_cell E0 3 _ rfl, bk_cell E1 0 _ rfl, bk_cell E1 1 _ rfl, bk_cell E1 2 _ rfl, bk_cell E1 3 _ rfl⟩
  obtain ⟨c0, c1, c2, c3, c4, c5, c6, c7⟩ := CF w2 P2
  have hW1 := (hW.pur PW).pur h1
  clear AW N1 Z0 Z1 hW NW
  go_upto_region 6 with (fail)
  go_cut [50] from 21 to 50 (fun v wx => ∃ B, v = .bool B ∧ Pur w2 wx ∧ (B = false → k ≤ 4 ∧ k' ≤ 4 ∧ qa = true ∧ qb = true ∧ (t.length : Int) + t'.length ≤ 4000))
  case first =>
    have RN : ∀ w', Pur w2 w' → Calls Tryz.prog 19 #[.int .i64 0] w' fun e w'' => ∃ g, e = .returned (.pointer (some ⟨g, 0, none⟩)) ∧ Pur w2 w'' := fun w' hp => (rnew_any 0 w').mono fun e w'' ⟨g, h1, h2⟩ => ⟨g, h1, hp.trans h2⟩
    have CF := fun w' (hp : Pur w2 w') => CF w' (P2.trans hp)
    clear TXT TXT3 XT YT X0 Y0 L3 KA KB RRa RRb NEW PUT o1 A2 h1 P2 hW1 PW
    have q0 : ∀ z : PW w2, z.to.cell? ⟨w.heap.size, 0, none⟩ = some (.int .i64 k) := fun z => (CF z.to z.pur).1
    have q4 : ∀ z : PW w2, z.to.cell? ⟨w.heap.size + 1, 0, none⟩ = some (.int .i64 k') := fun z => (CF z.to z.pur).2.2.2.2.1
    by_cases g1 : 4 < k
    · have d1 : decide ((4 : Int) < k) = true := decide_eq_true g1
      clear RA RB CF
      go_wp2_with fail
      refine wp_region_pur (by kernel_rfl) (by kernel_rfl) ?_
      repeat (go_big_quiet_step (fail))
      refine wpQuiet_nil ?_
      intro wq hq
      go_wp2
      go_meet
      exact ⟨true, rfl, hq, fun h => by cases h⟩
    by_cases g2 : 4 < k'
    · have d1 : decide ((4 : Int) < k) = false := decide_eq_false g1
      have d2 : decide ((4 : Int) < k') = true := decide_eq_true g2
      clear RA RB CF
      go_wp2_with fail
      refine wp_region_pur (by kernel_rfl) (by kernel_rfl) ?_
      repeat (go_big_quiet_step (fail))
      refine wpQuiet_nil ?_
      intro wq hq
      go_wp2
      go_meet
      exact ⟨true, rfl, hq, fun h => by cases h⟩
    have d1 : decide ((4 : Int) < k) = false := decide_eq_false g1
    have d2 : decide ((4 : Int) < k') = false := decide_eq_false g2
    have RA : ∀ hp w', Pur w2 w' → Calls Tryz.prog 20 #[hp, .agg #[.int .i64 k, .float .f64 n, .string ⟨t.toArray⟩, .int .i64 r]] w' fun e w'' => e = .returned (.bool qa) ∧ Pur w2 w'' := fun hp w' h => (RA (by omega) hp w').mono fun e w'' ⟨h1, h2⟩ => ⟨h1, h.trans h2⟩
    have RB : ∀ hp w', Pur w2 w' → Calls Tryz.prog 20 #[hp, .agg #[.int .i64 k', .float .f64 n', .string ⟨t'.toArray⟩, .int .i64 r']] w' fun e w'' => e = .returned (.bool qb) ∧ Pur w2 w'' := fun hp w' h => (RB (by omega) hp w').mono fun e w'' ⟨h1, h2⟩ => ⟨h1, h.trans h2⟩
    have hP0 : Pur w2 w2 := Pur.refl _
    have z1 : ¬ 9223372036854775807 < (t.length : Int) + t'.length := by omega
    have g1 : k ≤ 4 := by omega
    have g2 : k' ≤ 4 := by omega
    obtain ⟨bg, hbg⟩ : ∃ b, decide ((4000 : Int) < (t.length : Int) + t'.length) = b := ⟨_, rfl⟩
    have d3 : IntKind.i64.wrap ((t.length : Int) + t'.length) = (t.length : Int) + t'.length := IntWalk.i64_in _ (by omega)
    clear q0 q4
    go_wp2_with fail
    refine wp_region_until (T := fun w' => Pur w2 w') 11 (by kernel_rfl) (Pur.drew (Pur.refl _)) (fun hT => ?_)
    refine wpAnyU_next (i := 0) (by kernel_rfl) rfl (fun K hK => ?_)
    go_simp
    refine hK.out _ _ ?_ (fun hT => ?_)
    clear hK K
    try simp only [Act.put, List.setIfInBounds_toArray, List.set_cons_zero, List.set_cons_succ]
    · exact hT
    refine wpAnyU_next (i := 1) (by kernel_rfl) rfl (fun K hK => ?_)
    go_simp
    refine hK.out _ _ ?_ (fun hT => ?_)
    clear hK K
    try simp only [Act.put, List.setIfInBounds_toArray, List.set_cons_zero, List.set_cons_succ]
    · exact hT
    refine wpAnyU_next (i := 2) (by kernel_rfl) rfl (fun K hK => ?_)
    go_simp
    refine hK.out _ _ ?_ (fun hT => ?_)
    clear hK K
    try simp only [Act.put, List.setIfInBounds_toArray, List.set_cons_zero, List.set_cons_succ]
    · exact hT
    refine wpAnyU_next (i := 3) (by kernel_rfl) rfl (fun K hK => ?_)
    go_simp
    refine hK.out _ _ ?_ (fun hT => ?_)
    clear hK K
    try simp only [Act.put, List.setIfInBounds_toArray, List.set_cons_zero, List.set_cons_succ]
    · exact hT
    refine wpAnyU_next (i := 4) (by kernel_rfl) rfl (fun K hK => ?_)
    go_simp
    refine hK.out _ _ ?_ (fun hT => ?_)
    clear hK K
    try simp only [Act.put, List.setIfInBounds_toArray, List.set_cons_zero, List.set_cons_succ]
    · exact hT
    refine wpAnyU_next (i := 5) (by kernel_rfl) rfl (fun K hK => ?_)
    go_simp
    refine hK.out _ _ ?_ (fun hT => ?_)
    clear hK K
    try simp only [Act.put, List.setIfInBounds_toArray, List.set_cons_zero, List.set_cons_succ]
    · exact hT
    refine wpAnyU_next (i := 6) (by kernel_rfl) rfl (fun K hK => ?_)
    go_simp
    refine hK.out _ _ ?_ (fun hT => ?_)
    clear hK K
    try simp only [Act.put, List.setIfInBounds_toArray, List.set_cons_zero, List.set_cons_succ]
    · exact hT
    refine wpAnyU_next (i := 7) (by kernel_rfl) rfl (fun K hK => ?_)
    go_simp
    refine hK.out _ _ ?_ (fun hT => ?_)
    clear hK K
    try simp only [Act.put, List.setIfInBounds_toArray, List.set_cons_zero, List.set_cons_succ]
    · exact hT
    refine wpAnyU_next (i := 8) (by kernel_rfl) rfl (fun K hK => ?_)
    go_simp
    refine hK.out _ _ ?_ (fun hT => ?_)
    clear hK K
    try simp only [Act.put, List.setIfInBounds_toArray, List.set_cons_zero, List.set_cons_succ]
    · exact hT
    refine wpAnyU_take (i := 10) (v := ?v1) rfl (by kernel_rfl) (by kernel_rfl) (by kernel_rfl) (by kernel_rfl) (by kernel_rfl) (fun _ _ _ h => h) (Or.inl ⟨by rfl, ?h1⟩) (by assumption) ?r1
    case h1 => (intro w9 hSw; obtain ⟨f0, f1, f2, f3, f4, f5, f6, f7⟩ := CF w9 hSw; go_simp; (try with_reducible rfl))
    simp only [Act.put, List.setIfInBounds_toArray, List.set_cons_zero, List.set_cons_succ]
    refine wpAnyU_next (i := 9) (by kernel_rfl) rfl (fun K hK => ?_)
    go_simp
    refine (RN _ (by assumption)).mono ?_
    rintro e wha1 ⟨ga, rfl, ha1⟩
    refine hK.out _ _ ?_ (fun hT => ?_)
    clear hK K
    try simp only [Act.put, List.setIfInBounds_toArray, List.set_cons_zero, List.set_cons_succ]
    · exact ha1
    refine wpAnyU_next (i := 11) (by kernel_rfl) rfl (fun K hK => ?_)
    go_simp
    refine (RA _ _ (by assumption)).mono ?_
    rintro e wha2 ⟨rfl, ha2⟩
    refine hK.out _ _ ?_ (fun hT => ?_)
    clear hK K
    try simp only [Act.put, List.setIfInBounds_toArray, List.set_cons_zero, List.set_cons_succ]
    · exact ha2
    cases qa with
    | false =>
      refine wpAnyU_quiet 12 (by kernel_rfl) (by kernel_rfl) (by kernel_rfl) ?_
      simp only [List.drop_succ_cons, List.drop_zero]
      have q2 : ∀ z : PW wha2, z.to.cell? ⟨w.heap.size, 2, none⟩ = some (.string ⟨t.toArray⟩) := fun z => (CF z.to (ha2.trans z.pur)).2.2.1
      have q6 : ∀ z : PW wha2, z.to.cell? ⟨w.heap.size + 1, 2, none⟩ = some (.string ⟨t'.toArray⟩) := fun z => (CF z.to (ha2.trans z.pur)).2.2.2.2.2.2.1
      repeat (go_big_quiet_step (fail))
      refine wpQuiet_nil ?_
      intro wq hq
      go_wp2
      go_meet
      exact ⟨_, rfl, ha2.trans hq, fun h => by cases h⟩
    | true =>
      refine wpAnyU_turn (T' := fun w' => Pur w2 w') (d' := 17) (by kernel_rfl) ?_
      refine wpAnyU_next (i := 12) (by kernel_rfl) rfl (fun K hK => ?_)
      go_simp
      refine hK.out _ _ ?_ (fun hT => ?_)
      clear hK K
      try simp only [Act.put, List.setIfInBounds_toArray, List.set_cons_zero, List.set_cons_succ]
      · exact hT
      refine wpAnyU_next (i := 13) (by kernel_rfl) rfl (fun K hK => ?_)
      go_simp
      refine hK.out _ _ ?_ (fun hT => ?_)
      clear hK K
      try simp only [Act.put, List.setIfInBounds_toArray, List.set_cons_zero, List.set_cons_succ]
      · exact hT
      refine wpAnyU_next (i := 14) (by kernel_rfl) rfl (fun K hK => ?_)
      go_simp
      refine hK.out _ _ ?_ (fun hT => ?_)
      clear hK K
      try simp only [Act.put, List.setIfInBounds_toArray, List.set_cons_zero, List.set_cons_succ]
      · exact hT
      refine wpAnyU_take (i := 16) (v := ?v2) rfl (by kernel_rfl) (by kernel_rfl) (by kernel_rfl) (by kernel_rfl) (by kernel_rfl) (fun _ _ _ h => h) (Or.inl ⟨by rfl, ?h2⟩) (by assumption) ?r2
      case h2 => (intro w9 hSw; obtain ⟨f0, f1, f2, f3, f4, f5, f6, f7⟩ := CF w9 hSw; go_simp; (try with_reducible rfl))
      simp only [Act.put, List.setIfInBounds_toArray, List.set_cons_zero, List.set_cons_succ]
      refine wpAnyU_next (i := 15) (by kernel_rfl) rfl (fun K hK => ?_)
      go_simp
      refine (RN _ (by assumption)).mono ?_
      rintro e whb1 ⟨gb, rfl, hb1⟩
      refine hK.out _ _ ?_ (fun hT => ?_)
      clear hK K
      try simp only [Act.put, List.setIfInBounds_toArray, List.set_cons_zero, List.set_cons_succ]
      · exact hb1
      refine wpAnyU_next (i := 17) (by kernel_rfl) rfl (fun K hK => ?_)
      go_simp
      refine (RB _ _ (by assumption)).mono ?_
      rintro e whb2 ⟨rfl, hb2⟩
      refine hK.out _ _ ?_ (fun hT => ?_)
      clear hK K
      try simp only [Act.put, List.setIfInBounds_toArray, List.set_cons_zero, List.set_cons_succ]
      · exact hb2
      cases qb with
      | false =>
        refine wpAnyU_quiet 18 (by kernel_rfl) (by kernel_rfl) (by kernel_rfl) ?_
        simp only [List.drop_succ_cons, List.drop_zero]
        have q2 : ∀ z : PW whb2, z.to.cell? ⟨w.heap.size, 2, none⟩ = some (.string ⟨t.toArray⟩) := fun z => (CF z.to (hb2.trans z.pur)).2.2.1
        have q6 : ∀ z : PW whb2, z.to.cell? ⟨w.heap.size + 1, 2, none⟩ = some (.string ⟨t'.toArray⟩) := fun z => (CF z.to (hb2.trans z.pur)).2.2.2.2.2.2.1
        repeat (go_big_quiet_step (fail))
        refine wpQuiet_nil ?_
        intro wq hq
        go_wp2
        go_meet
        exact ⟨_, rfl, hb2.trans hq, fun h => by cases h⟩
      | true =>
        refine wpAnyU_quiet 18 (by kernel_rfl) (by kernel_rfl) (by kernel_rfl) ?_
        simp only [List.drop_succ_cons, List.drop_zero]
        have q2 : ∀ z : PW whb2, z.to.cell? ⟨w.heap.size, 2, none⟩ = some (.string ⟨t.toArray⟩) := fun z => (CF z.to (hb2.trans z.pur)).2.2.1
        have q6 : ∀ z : PW whb2, z.to.cell? ⟨w.heap.size + 1, 2, none⟩ = some (.string ⟨t'.toArray⟩) := fun z => (CF z.to (hb2.trans z.pur)).2.2.2.2.2.2.1
        repeat (go_big_quiet_step (fail))
        refine wpQuiet_nil ?_
        intro wq hq
        go_wp2
        go_meet
        exact ⟨_, rfl, hb2.trans hq, fun h => ⟨g1, g2, trivial, trivial, by first | (have h2 := of_decide_eq_false h; omega) | (rw [h] at hbg; have h2 := of_decide_eq_false hbg; omega)⟩⟩
  case rest =>
    clear RA RB c0 c1 c2 c3 c4 c5 c6 c7
    obtain ⟨B, rfl, hq, hB⟩ := hcut
    cases B with
    | true =>
      have PP := PW.trans (P2.trans hq)
      clear hB CF TXT TXT3 XT YT X0 Y0 L3 KA KB RRa RRb NEW PUT o1 A2 h1 P2 hW1 PW hq
      go_wp2
      go_ret
      exact ⟨rfl, PP⟩
    | false =>
      obtain ⟨hk, hk', rfl, rfl, hl⟩ := hB rfl
      have ka := KA rfl
      have kb := KB rfl
      have l3 := L3 hl
      have NEW := NEW (RRa hk).symm (RRb hk').symm
      have TX1 := TXT 97 ka kb l3
      have TX3 := TXT3 96 ka kb l3
      clear hB KA KB L3 RRa RRb TXT TXT3 ka kb hl
      obtain ⟨c0, c1, c2, c3, c4, c5, c6, c7⟩ := CF _ (P2.trans hq)
      have R4 := array_st (A2.pure (hq.alloc (.cells #[.int .i64 k, .float .f64 n, .string ⟨t.toArray⟩, .int .i64 r, .int .i64 k', .float .f64 n', .string ⟨t'.toArray⟩, .int .i64 r'] 30))).1 (.slice (some ⟨wc.heap.size, 0, none⟩) 2 2) [⟨k, n, t, r⟩, ⟨k', n', t', r'⟩] (vread_new wc [⟨k, n, t, r⟩, ⟨k', n', t', r'⟩] _ _ rfl) (by intro x hx; simp only [List.mem_cons, List.not_mem_nil, or_false] at hx; rcases hx with rfl | rfl <;> assumption) (by show 2 ≤ 1000000; decide)
      rw [NEW] at R4
      clear A2 NEW P2 hq
      go_wp2_with fail
      refine R4.mono ?_
      rintro e w3 ⟨rfl, A4, -⟩
      clear R4 c0 c1 c2 c3 c4 c5 c6 c7
      obtain ⟨s, HW4, hs, hd⟩ := At.hw A4 hW1 (alone_wf (by intro x hx; simp only [List.mem_cons, List.not_mem_nil, or_false] at hx; rcases hx with rfl | rfl <;> assumption))
      subst hs
      have P4 : Pur W w3 := h1.trans A4.pur
      have T5 := fun w' (hp : Pur w3 w') => text_any (objV 0) (HW4.pur hp) (wf_obj _)
      rw [hd, TX1] at T5
      unfold tv at T5
      simp only [Option.getD_some, Option.isSome_some, if_true, objV, Va.v, Va.cells] at T5
      go_wp2_with fail
      refine (T5 _ (Pur.refl _)).mono ?_
      rintro e w4 ⟨rfl, p4⟩
      obtain ⟨c0, c1, c2, c3, c4, c5, c6, c7⟩ := CF _ (P4.trans p4)
      obtain ⟨ba, hba⟩ : ∃ z, decide ((1 : Int) < k) = z := ⟨_, rfl⟩
      go_upto_if 68 with (fail)
      go_cut [12] from 69 to 74 (fun v wx => v = .string ⟨x.toArray⟩ ∧ Pur w3 wx)
      case first =>
        cases ba with
        | true =>
          have g := of_decide_eq_true hba
          have T := text_any ⟨k, n, t, r⟩ (HW4.pur p4) ha
          rw [XT _ g hk] at T
          unfold tv at T
          simp only [Option.getD_some, Option.isSome_some, if_true, Va.v, Va.cells] at T
          clear T5 HW4 A4 CF XT YT X0 Y0 TX1 TX3 hW1 PUT
          go_wp2_with fail
          refine T.mono ?_
          rintro e w5 ⟨rfl, p5⟩
          go_wp2
          go_meet
          exact ⟨rfl, p4.trans p5⟩
        | false =>
          have g := of_decide_eq_false hba
          have e0 := Lib.hid (X0 (by omega))
          clear T5 HW4 A4 CF XT YT X0 Y0 TX1 TX3 hW1 PUT
          go_wp2
          go_meet
          exact ⟨by rw [e0.out], p4⟩
      case rest =>
      obtain ⟨rfl, p5⟩ := hcut
      clear c0 c1 c2 c3 c4 c5 c6 c7 p4
      obtain ⟨c0, c1, c2, c3, c4, c5, c6, c7⟩ := CF _ (P4.trans p5)
      obtain ⟨bb, hbb⟩ : ∃ z, decide ((1 : Int) < k') = z := ⟨_, rfl⟩
      go_upto_if 77 with (fail)
      go_cut [13] from 78 to 83 (fun v wx => v = .string ⟨y.toArray⟩ ∧ Pur w3 wx)
      case first =>
        cases bb with
        | true =>
          have g := of_decide_eq_true hbb
          have T := text_any ⟨k', n', t', r'⟩ (HW4.pur p5) hb
          rw [YT _ g hk'] at T
          unfold tv at T
          simp only [Option.getD_some, Option.isSome_some, if_true, Va.v, Va.cells] at T
          clear T5 HW4 A4 CF XT YT X0 Y0 TX1 TX3 hW1 PUT
          go_wp2_with fail
          refine T.mono ?_
          rintro e w5 ⟨rfl, p6⟩
          go_wp2
          go_meet
          exact ⟨rfl, p5.trans p6⟩
        | false =>
          have g := of_decide_eq_false hbb
          have e0 := Lib.hid (Y0 (by omega))
          clear T5 HW4 A4 CF XT YT X0 Y0 TX1 TX3 hW1 PUT
          go_wp2
          go_meet
          exact ⟨by rw [e0.out], p5⟩
      case rest =>
      obtain ⟨rfl, p6⟩ := hcut
      clear c0 c1 c2 c3 c4 c5 c6 c7 p5 XT YT X0 Y0
      have z1 : ¬ 9223372036854775807 < x.length + 2 := by omega
      have z2 : ¬ 9223372036854775807 < x.length + 2 + y.length := by omega
      have z3 : ¬ 9223372036854775807 < x.length + (2 + y.length) := by omega
      go_wp2_with fail
      refine (o1 _).mono ?_
      rintro e w6 ⟨rfl, p7⟩
      have p8 := p6.trans p7
      have PP := PW.trans P4
      cases tw with
      | false =>
        have T6 := T5 _ p8
        clear T5 HW4 A4 CF TX1 TX3 hW1 PUT
        go_wp2_with fail
        refine T6.mono ?_
        rintro e w7 ⟨rfl, p9⟩
        go_wp2
        go_ret
        exact ⟨by simp, PP.trans (p8.trans p9)⟩
      | true =>
        have K := key_any 2 _ (HW4.cw.pur p8).h (by decide) (by decide)
        go_wp2_with fail
        refine K.mono ?_
        rintro e w7 ⟨rfl, p9⟩
        have WF2 := alone_wf (left := 96) (vs := [⟨k, n, t, r⟩, ⟨k', n', t', r'⟩, objV 0]) (by intro x hx; simp only [List.mem_cons, List.not_mem_nil, or_false] at hx; rcases hx with rfl | rfl | rfl <;> first | assumption | exact wf_obj _)
        generalize aloneD 96 [⟨k, n, t, r⟩, ⟨k', n', t', r'⟩, objV 0] = d2 at PUT TX3 WF2
        have PU := put_st (A4.pure (p8.trans p9)).1 0 (keyOf 2) (objV 0) (wf_obj _) (by rw [show keyOf 2 = [0, 50] by decide +kernel]; decide)
        rw [PUT] at PU
        simp only [objV, Va.v, Va.cells] at PU
        clear T5 K HW4
        generalize keyOf 2 = k2 at *
        go_wp2_with fail
        refine PU.mono ?_
        rintro e w8 ⟨rfl, A8, -⟩
        obtain ⟨s8, HW8, hs8, hd8⟩ := At.hw A8 hW1 WF2
        have T7 := text_any (objV 0) HW8 (wf_obj _)
        have P9 := PW.trans (h1.trans A8.pur)
        rw [hd8, TX3, hs8] at T7
        unfold tv at T7
        simp only [Option.getD_some, Option.isSome_some, if_true, objV, Va.v, Va.cells] at T7
        have z4 : ¬ 9223372036854775807 < x.length + 2 + y.length + 2 := by omega
        have z5 : ¬ 9223372036854775807 < x.length + (2 + (y.length + 2)) := by omega
        clear PU A4 A8 HW8 CF TX1 TX3 hW1 PUT hd hd8
        go_wp2_with fail
        refine T7.mono ?_
        rintro e w9 ⟨rfl, p9⟩
        go_wp2_with fail
        refine (o1 _).mono ?_
        rintro e w10 ⟨rfl, p10⟩
        go_wp2
        go_ret
        exact ⟨by simp, P9.trans (p9.trans p10)⟩
end Cv
end Go.Proofs.YtclaoeoofbobmaaGreatDoor
