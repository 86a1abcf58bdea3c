/- strconv's number in the form d.ddde+dd: what the growing text is. strconv's number in the form d.ddde+dd: fmtEFG. strconv's number in the form d.ddde+dd: a float's parts, in plain words. -/
import Derived.Test.YtapgibcdbggpkaaGreatDoorFtA
import Derived.Deep.AppendLies
namespace Go.Proofs.YtapgibcdbggpkaaGreatDoor
open Go Go.RowKit Go.Sort Go.Lib
set_option linter.all false
namespace Ft
open Us
/-- a text that grows, beside a buffer q that holds T -/
structure Ds (B q : Nat) (T : List UInt8) (w0 w : World) (v : Value) (xs : List UInt8) : Prop where
  own : w.ownsRow B 5 1 v xs.length (byteCells xs)
  ne : v.ownBlock ≠ some q
  hq : q < w.heap.size
  buf : ∀ j c, T[j]? = some c → w.cell? ⟨q, j, none⟩ = some (.int .u8 (c.toNat : Int))
  le : B ≤ w0.heap.size
  up : w0.heap.size ≤ w.heap.size
  chg : ∀ g, v.ownBlock = some g → B ≤ g
  pur : Below B w0 w
theorem Ds.alloc {B q : Nat} {T : List UInt8} {w0 w : World} {v : Value} {xs : List UInt8} (h : Ds B q T w0 w v xs) (o : Obj) : Ds B q T w0 (w.alloc o) v xs :=
  have p := (Pur.refl w).alloc o
  ⟨h.own.alloc _, h.ne, Nat.lt_of_lt_of_le h.hq p.size, fun j c hc => Us.cellp (h.buf j c hc) p, h.le, Nat.le_trans h.up p.size, h.chg, h.pur.alloc (Nat.le_trans h.le h.up) o⟩
section
variable {P : Program}
/-- one append -/
theorem wpList_ds {B q : Nat} {T : List UInt8} {w0 w : World} {v : Value} {xs : List UInt8} {ops : Array Oper} {rest : List Oper} {o : Oper} {a : Act} {Q : Exit → Act → World → Prop} (hgd : o.guard = none) (s x : Operand) (t : TypeId)
    (ho : o.op = .call { callee := .builtin .append, args := #[s, x], argTypes := #[t, t] })
    (i : TypeInfo) (ht : P.underlying t = some (.slice 5)) (hi : P.info? 5 = some i) (hz : i.zero = some (.int .u8 0)) (hsize : i.size = 1) (hby : i.bytes = 1)
    (hs : a.eval s = v) (H : Ds B q T w0 w v xs) (ad : Addr) (m c : Nat) (news : List UInt8) (hx : a.eval x = .slice (some ad) m c) (hl : news.length = m) (hnews : ∀ j b, news[j]? = some b → w.cell? (ad.add j) = some (.int .u8 (b.toNat : Int)))
    (hm : 0 < m) (hlen : xs.length + m ≤ 1000)
    (h : ∀ g cap w', Ds B q T w0 w' (.slice (some ⟨g, 0, none⟩) (xs.length + m) cap) (xs ++ news) → wpList P ops Q rest (a.put o.dst (.slice (some ⟨g, 0, none⟩) (xs.length + m) cap)) w') : wpList P ops Q (o :: rest) a w := by
  refine wpList_append_lies w hgd s x t ho B 5 i (.int .u8 0) 1 1 ht hi hz hsize hby rfl (by decide) v xs.length (byteCells xs) hs H.own ad m c (byteCells news) hx (by rw [byteCells_length, hl]; omega) ?_ ?_ hm (by unfold maxLen; omega) (by omega) (Nat.le_trans H.le H.up) w.heap.size rfl ?_
  · intro j u hu
    unfold byteCells at hu
    rw [List.getElem?_map] at hu
    obtain ⟨b, hb, rfl⟩ := Option.map_eq_some_iff.1 hu
    exact hnews j b hb
  · exact byteCells_one news
  · intro g cap w' hown hgrow hat hlt
    refine h g cap w' ⟨?_, ?_, ?_, ?_, H.le, ?_, ?_, ?_⟩
    · rw [List.length_append, hl, byteCells_append]; exact hown
    · intro e
      simp only [Value.ownBlock, Option.some.injEq] at e
      subst e
      rcases hat with e | e
      · exact H.ne e
      · have := H.hq; omega
    · exact Nat.lt_of_lt_of_le H.hq hgrow.size
    · intro j b hb
      rw [hgrow.cell_far _ H.hq (fun e => H.ne e.symm)]
      exact H.buf j b hb
    · exact Nat.le_trans H.up hgrow.size
    · intro g' e
      simp only [Value.ownBlock, Option.some.injEq] at e
      subst e
      rcases hat with e | e
      · exact H.chg _ e
      · have := H.le; have := H.up; omega
    · exact H.pur.grown hgrow (Nat.le_trans H.le H.up) (fun k hk => H.chg k hk)
end
end Ft
end Go.Proofs.YtapgibcdbggpkaaGreatDoor
namespace Go.Proofs.YtapgibcdbggpkaaGreatDoor
open Go Go.RowKit Go.Sort Go.Lib
set_option linter.all false
namespace Ft
open Us
theorem u8i : (Tryz.prog.info? 5).map (fun i => (i.zero, i.size, i.bytes)) = some (some (.int .u8 0), 1, 1) := by kernel_rfl
theorem news_at (w : World) (cs : Array Value) (t : TypeId) (news : List UInt8) (h : cs.toList = byteCells news) : ∀ j b, news[j]? = some b → (w.alloc (.cells cs t)).cell? ((⟨w.heap.size, 0, none⟩ : Addr).add j) = some (.int .u8 (b.toNat : Int)) := by
  intro j b hj
  rw [add_plain, Nat.zero_add]
  refine bk_cell (bk_new _ _) j _ ?_
  rw [← Array.getElem?_toList, h]
  unfold byteCells
  rw [List.getElem?_map, hj]
  rfl
theorem byte48 {n : Nat} (h : n < 10) : (UInt8.ofNat (48 + n)).toNat = 48 + n := by
  rw [UInt8.toNat_ofNat']
  omega
/-- the signs of a power's digits -/
structure Pw (X : Int) (sg : Bool) (e : Nat) : Prop where
  sgn : decide (X < 0) = sg
  abs : X.natAbs = e
  val : X = if sg then -(e : Int) else (e : Int)
theorem pw (X : Int) : ∃ sg e, Pw X sg e := ⟨decide (X < 0), X.natAbs, rfl, rfl, by
  by_cases h : X < 0
  · rw [decide_eq_true h]; simp only [if_true]; omega
  · rw [decide_eq_false h]; simp only [Bool.false_eq_true, if_false]; omega⟩
set_option maxRecDepth 100000 in
set_option maxHeartbeats 32000000 in
theorem efg_any {B q : Nat} {w0 w : World} {v : Value} (c : UInt8) (R : List UInt8) (dp : Int) (H : Ds B q (c :: R) w0 w v []) (hR : R.length ≤ 20) (hdp : -400 ≤ dp ∧ dp ≤ 400) :
    Calls Tryz.prog 145 #[v, .bool false, .slice (some ⟨q, 0, none⟩) 32 32, .int .i64 dp, .int .i64 ((R.length + 1 : Nat) : Int), .int .i64 (R.length : Int), .int .u8 101, .bool true] w fun e w' => ∃ v', e = .returned v' ∧ Ds B q (c :: R) w0 w' v' (sci (c :: R) dp) := by
  obtain ⟨i0, hi, hz0, hz1, hz2⟩ := info_parts u8i
  obtain ⟨sg, e, hpw⟩ := pw (dp - 1)
  have he : e ≤ 401 := by have := hpw.abs; omega
  have c0 := H.buf 0 c rfl
  obtain ⟨N, hN⟩ : ∃ N, R.length + 1 = N := ⟨_, rfl⟩
  obtain ⟨n, hn⟩ : ∃ n, R.length = n := ⟨_, rfl⟩
  rw [hN, hn]
  have nz : ((N : Int) != 0) = true := by rw [bne_iff_ne]; omega
  have wX : IntKind.i64.wrap (dp - 1) = dp - 1 := IntWalk.i64_in _ (by omega)
  go_enter Tryz.func145, Tryz.ntmps145
  go_wp2_with (at_builtin; refine wpList_ds rfl _ _ 122 rfl i0 Tryz.underlying122 hi hz0 hz1 hz2 (by rfl) (H.alloc _) ⟨_, 0, none⟩ 1 1 [c] (by rfl) rfl (news_at _ _ _ _ (by rfl)) (by decide) (by decide) ?_)
  intro g1 k1 w1 D1
  have D1 : Ds B q (c :: R) w0 w1 (.slice (some ⟨g1, 0, none⟩) 1 k1) [c] := D1
  go_upto_if 92 with (fail)
  go_cut [0, 20, 21] from 91 to 119 (fun d _ _ wx => ∃ (g k : Nat) (xs : List UInt8), d = .slice (some ⟨g, 0, none⟩) xs.length k ∧ xs = (c :: R).take 1 ++ (if (c :: R).length ≤ 1 then [] else 46 :: (c :: R).drop 1) ∧ Ds B q (c :: R) w0 wx (.slice (some ⟨g, 0, none⟩) xs.length k) xs)
  case first =>
    rcases Nat.eq_zero_or_pos n with hn0 | hR1
    · have hR0 : R = [] := List.length_eq_zero_iff.1 (by omega)
      subst hn0
      go_wp2
      go_meet
      exact ⟨g1, k1, [c], rfl, by rw [hR0]; rfl, D1⟩
    · have hR2 : ¬ n = 0 := by omega
      have hR3 : (0 : Int) < (n : Int) := by omega
      have wn : IntKind.i64.wrap ((n : Int) + 1) = (N : Int) := by rw [show (n : Int) + 1 = (N : Int) by omega]; exact IntWalk.i64_in _ (by omega)
      have mN : min (N : Int) (N : Int) = (N : Int) := by omega
      have t1 : decide ((1 : Int) < (N : Int)) = true := by rw [decide_eq_true_eq]; omega
      have s1 : (1 : Int) ≤ (N : Int) := by omega
      have s2 : (N : Int) ≤ 32 := by omega
      have wz : IntKind.i64.wrap ((N : Int) - (N : Int)) = 0 := by rw [Int.sub_self]; decide
      have hxs := Lib.hid (show [c] ++ [46] ++ R = (c :: R).take 1 ++ (if (c :: R).length ≤ 1 then [] else 46 :: (c :: R).drop 1) by
        rw [if_neg (by rw [List.length_cons]; omega)]; simp)
      have hRl : R.length = N - 1 := by omega
      have hN1 : 2 ≤ N := by omega
      have hN20 : N ≤ 21 := by omega
      clear hN hn
      go_wp2_with (at_builtin; refine wpList_ds rfl _ _ 122 rfl i0 Tryz.underlying122 hi hz0 hz1 hz2 (by rfl) (D1.alloc _) ⟨_, 0, none⟩ 1 1 [46] (by rfl) rfl (news_at _ _ _ _ (by rfl)) (by decide) (by simp) ?_)
      intro g2 k2 w2 D2
      have D2 : Ds B q (c :: R) w0 w2 (.slice (some ⟨g2, 0, none⟩) 2 k2) ([c] ++ [46]) := D2
      have nw : ∀ j b, R[j]? = some b → w2.cell? ((⟨q, 1, none⟩ : Addr).add j) = some (.int .u8 (b.toNat : Int)) := fun j b hj => by
        rw [add_plain]
        exact D2.buf (1 + j) b (by rw [Nat.add_comm 1 j, List.getElem?_cons_succ]; exact hj)
      go_wp2_with (at_builtin; refine wpList_ds rfl _ _ 122 rfl i0 Tryz.underlying122 hi hz0 hz1 hz2 (by rfl) D2 ⟨q, 1, none⟩ _ _ R (by rfl) hRl nw (by omega) (by simp only [List.length_append, List.length_cons, List.length_nil]; omega) ?_)
      intro g3 k3 w3 D3
      go_wp2
      go_loopw [0, 114] (fun d i wr => d = .slice (some ⟨g3, 0, none⟩) (2 + (N - 1)) k3 ∧ i = .int .i64 0 ∧ wr = w3) (fun _ _ _ => 0)
      case atStart => exact ⟨rfl, rfl, by first | rfl | trivial⟩
      case round =>
        obtain ⟨rfl, rfl, rfl⟩ := hrel
        go_wp2
        go_meet
        have hl : ([c] ++ [46] ++ R).length = 2 + (N - 1) := by rw [List.length_append, hRl]; rfl
        refine ⟨g3, k3, [c] ++ [46] ++ R, by rw [hl], hxs.out, ?_⟩
        rw [hl]
        exact D3
  case rest =>
    obtain ⟨g, k, xs, rfl, hx0, D⟩ := hcut
    have hxl : xs.length ≤ 24 := by
      rw [hx0]
      split <;> simp <;> omega
    have n0 : ((N : Int) == 0) = false := by rw [beq_eq_false_iff_ne]; omega
    have hxs := Lib.hid hx0
    clear D1 H hN hn hx0
    go_wp2_with (at_builtin; refine wpList_ds rfl _ _ 122 rfl i0 Tryz.underlying122 hi hz0 hz1 hz2 (by rfl) (D.alloc _) ⟨_, 0, none⟩ 1 1 [101] (by rfl) rfl (news_at _ _ _ _ (by rfl)) (by decide) (by omega) ?_)
    intro g4 k4 w4 D4
    have hfin : ∀ (sb : UInt8) (ds : List UInt8), expo (dp - 1) = sb :: ds → xs ++ [101] ++ [sb] ++ ds = sci (c :: R) dp := fun sb ds h => by
      unfold sci
      rw [h, ← hxs.out]
      simp
    have hexp : expo (dp - 1) = (if dp - 1 < 0 then 45 else 43) :: (if e < 100 then [UInt8.ofNat (48 + e / 10), UInt8.ofNat (48 + e % 10)] else [UInt8.ofNat (48 + e / 100), UInt8.ofNat (48 + e / 10 % 10), UInt8.ofNat (48 + e % 10)]) := by
      unfold expo; rw [hpw.abs]
    have hv := hpw.val
    have hs := hpw.sgn
    have e0 : (0 : Int) ≤ (e : Int) := by omega
    obtain ⟨t, ht⟩ : ∃ t, e / 10 = t := ⟨_, rfl⟩
    obtain ⟨r, hr⟩ : ∃ r, e % 10 = r := ⟨_, rfl⟩
    obtain ⟨h, hh⟩ : ∃ h, e / 100 = h := ⟨_, rfl⟩
    obtain ⟨r2, hr2⟩ : ∃ r, t % 10 = r := ⟨_, rfl⟩
    have q1 : (e : Int).tdiv 10 = (t : Int) := by rw [Int.tdiv_eq_ediv_of_nonneg e0]; omega
    have q2 : (e : Int) / 10 = (t : Int) := by omega
    have q3 : (e : Int).tmod 10 = (r : Int) := by rw [Int.tmod_eq_emod_of_nonneg e0]; omega
    have q4 : (e : Int) % 10 = (r : Int) := by omega
    have q5 : (e : Int).tdiv 100 = (h : Int) := by rw [Int.tdiv_eq_ediv_of_nonneg e0]; omega
    have q6 : (e : Int) / 100 = (h : Int) := by omega
    have q7 : (t : Int).tmod 10 = (r2 : Int) := by rw [Int.tmod_eq_emod_of_nonneg (by omega)]; omega
    have q8 : (t : Int) % 10 = (r2 : Int) := by omega
    have u1 : IntKind.u8.wrap (t : Int) = (t : Int) := by rw [IntKind.wrap_u8]; omega
    have u2 : IntKind.u8.wrap (r : Int) = (r : Int) := by rw [IntKind.wrap_u8]; omega
    have u3 : IntKind.u8.wrap (h : Int) = (h : Int) := by rw [IntKind.wrap_u8]; omega
    have tl : t ≤ 40 := by omega
    have rl : r < 10 := by omega
    have hl : h < 10 := by omega
    have r2l : r2 < 10 := by omega
    obtain ⟨br, hbr⟩ : ∃ b, UInt8.ofNat (48 + r) = b := ⟨_, rfl⟩
    obtain ⟨bh, hbh⟩ : ∃ b, UInt8.ofNat (48 + h) = b := ⟨_, rfl⟩
    obtain ⟨br2, hbr2⟩ : ∃ b, UInt8.ofNat (48 + r2) = b := ⟨_, rfl⟩
    have nr : br.toNat = 48 + r := by rw [← hbr]; exact byte48 rl
    have nh : bh.toNat = 48 + h := by rw [← hbh]; exact byte48 hl
    have nr2 : br2.toNat = 48 + r2 := by rw [← hbr2]; exact byte48 r2l
    have v1 : IntKind.u8.wrap ((r : Int) + 48) = (br.toNat : Int) := by rw [IntKind.wrap_u8]; omega
    have v2 : IntKind.u8.wrap ((h : Int) + 48) = (bh.toNat : Int) := by rw [IntKind.wrap_u8]; omega
    have v3 : IntKind.u8.wrap ((r2 : Int) + 48) = (br2.toNat : Int) := by rw [IntKind.wrap_u8]; omega
    rw [hr, hh, ht] at hexp
    have key : ∀ (sb : UInt8), (if dp - 1 < 0 then (45 : UInt8) else 43) = sb → Hid (
        (e < 10 → xs ++ [101] ++ [sb] ++ [48, br] = sci (c :: R) dp) ∧ (10 ≤ e → e < 100 → ∀ bt, UInt8.ofNat (48 + t) = bt → xs ++ [101] ++ [sb] ++ [bt, br] = sci (c :: R) dp) ∧ (100 ≤ e → xs ++ [101] ++ [sb] ++ [bh, br2, br] = sci (c :: R) dp)) := fun sb hsb => Lib.hid (by
      rw [hsb, hr2, hbr, hbh, hbr2] at hexp
      refine ⟨fun he => ?_, fun h10 he bt hbt => ?_, fun he => ?_⟩
      · rw [if_pos (by omega)] at hexp
        have : t = 0 := by omega
        rw [this] at hexp
        exact hfin sb _ hexp
      · rw [if_pos he, hbt] at hexp
        exact hfin sb _ hexp
      · rw [if_neg (by omega)] at hexp
        exact hfin sb _ hexp)
    cases sg
    · have hX : dp - 1 = (e : Int) := by rw [hv]; rfl
      have KY := (key 43 (by rw [if_neg (by omega)])).out
      have sX : decide ((e : Int) < 0) = false := by rw [decide_eq_false_iff_not]; omega
      have sX' : ¬ (e : Int) < 0 := by omega
      replace wX := wX.trans hX
      clear key hfin hexp hv hs hpw hdp nr nh nr2 hbr hbh hbr2 ht hr hh hr2
      have D4 : Ds B q (c :: R) w0 w4 (.slice (some ⟨g4, 0, none⟩) (xs.length + 1) k4) (xs ++ [101]) := D4
      have xl4 : (xs ++ [101]).length = xs.length + 1 := by simp
      obtain ⟨x4, hx4⟩ : ∃ x, xs ++ [101] = x := ⟨_, rfl⟩
      rw [hx4] at D4 xl4
      rw [hx4] at KY
      obtain ⟨K1, K2, K3⟩ := KY
      go_wp2_with (at_builtin; refine wpList_ds rfl _ _ 122 rfl i0 Tryz.underlying122 hi hz0 hz1 hz2 (by rfl) (D4.alloc _) ⟨_, 0, none⟩ 1 1 [43] (by rfl) rfl (news_at _ _ _ _ (by rfl)) (by decide) (by omega) ?_)
      intro g5 k5 w5 D5
      have xl5 : (x4 ++ [43]).length = xs.length + 1 + 1 := by rw [List.length_append, xl4]; rfl
      obtain ⟨x5, hx5⟩ : ∃ x, x4 ++ [43] = x := ⟨_, rfl⟩
      rw [hx5] at D5 xl5 K1 K2 K3
      have D5 : Ds B q (c :: R) w0 w5 (.slice (some ⟨g5, 0, none⟩) x5.length k5) x5 := by rw [xl5]; exact D5
      rw [← xl5]
      have xl6 : x5.length ≤ 30 := by omega
      clear xl4 xl5 hx4 hx5
      by_cases h10 : e < 10
      · have d10 : decide ((e : Int) < 10) = true := by rw [decide_eq_true_eq]; omega
        have hr0 : (e : Int) = (r : Int) := by rw [Int.emod_eq_of_lt e0 (by omega)] at q4; exact q4
        have v0 : IntKind.u8.wrap (e : Int) = (r : Int) := by rw [hr0]; exact u2
        have HF := Lib.hid (K1 h10)
        clear K1 K2 K3 q1 q2 q3 q4 q5 q6 q7 q8 hr0
        go_wp2_with (at_builtin; refine wpList_ds rfl _ _ 122 rfl i0 Tryz.underlying122 hi hz0 hz1 hz2 (by rfl) (D5.alloc _) ⟨_, 0, none⟩ 2 2 [48, br] (by rfl) rfl (news_at _ _ _ _ (by rfl)) (by decide) (by omega) ?_)
        intro g6 k6 w6 D6
        rw [HF.out] at D6
        go_wp2
        go_ret
        exact ⟨_, rfl, D6⟩
      · have d10 : decide ((e : Int) < 10) = false := by rw [decide_eq_false_iff_not]; omega
        by_cases h100 : e < 100
        · have d100 : decide ((e : Int) < 100) = true := by rw [decide_eq_true_eq]; omega
          obtain ⟨bt, hbt⟩ : ∃ b, UInt8.ofNat (48 + t) = b := ⟨_, rfl⟩
          have nt : bt.toNat = 48 + t := by rw [← hbt]; exact byte48 (by omega)
          have v4 : IntKind.u8.wrap ((t : Int) + 48) = (bt.toNat : Int) := by rw [IntKind.wrap_u8]; omega
          have HF := Lib.hid (K2 (by omega) h100 bt hbt)
          clear K1 K2 K3 nt hbt
          go_wp2_with (at_builtin; refine wpList_ds rfl _ _ 122 rfl i0 Tryz.underlying122 hi hz0 hz1 hz2 (by rfl) (D5.alloc _) ⟨_, 0, none⟩ 2 2 [bt, br] (by rfl) rfl (news_at _ _ _ _ (by rfl)) (by decide) (by omega) ?_)
          intro g6 k6 w6 D6
          rw [HF.out] at D6
          go_wp2
          go_ret
          exact ⟨_, rfl, D6⟩
        · have d100 : decide ((e : Int) < 100) = false := by rw [decide_eq_false_iff_not]; omega
          have HF := Lib.hid (K3 (by omega))
          clear K1 K2 K3
          go_wp2_with (at_builtin; refine wpList_ds rfl _ _ 122 rfl i0 Tryz.underlying122 hi hz0 hz1 hz2 (by rfl) (D5.alloc _) ⟨_, 0, none⟩ 3 3 [bh, br2, br] (by rfl) rfl (news_at _ _ _ _ (by rfl)) (by decide) (by omega) ?_)
          intro g6 k6 w6 D6
          rw [HF.out] at D6
          go_wp2
          go_ret
          exact ⟨_, rfl, D6⟩
    · have hX : dp - 1 = -(e : Int) := by rw [hv]; rfl
      have KY := (key 45 (by rw [decide_eq_true_eq] at hs; rw [if_pos hs])).out
      have sX : decide (-(e : Int) < 0) = true := by rw [← hX]; exact hs
      have sX' : -(e : Int) < 0 := by rw [decide_eq_true_eq] at sX; exact sX
      have wE : IntKind.i64.wrap (e : Int) = (e : Int) := IntWalk.i64_in _ (by omega)
      have wE2 : IntKind.i64.wrap (-(-(e : Int))) = (e : Int) := by rw [Int.neg_neg]; exact wE
      replace wX := wX.trans hX
      clear key hfin hexp hv hs hpw hdp nr nh nr2 hbr hbh hbr2 ht hr hh hr2
      have D4 : Ds B q (c :: R) w0 w4 (.slice (some ⟨g4, 0, none⟩) (xs.length + 1) k4) (xs ++ [101]) := D4
      have xl4 : (xs ++ [101]).length = xs.length + 1 := by simp
      obtain ⟨x4, hx4⟩ : ∃ x, xs ++ [101] = x := ⟨_, rfl⟩
      rw [hx4] at D4 xl4
      rw [hx4] at KY
      obtain ⟨K1, K2, K3⟩ := KY
      go_wp2_with (at_builtin; refine wpList_ds rfl _ _ 122 rfl i0 Tryz.underlying122 hi hz0 hz1 hz2 (by rfl) (D4.alloc _) ⟨_, 0, none⟩ 1 1 [45] (by rfl) rfl (news_at _ _ _ _ (by rfl)) (by decide) (by omega) ?_)
      intro g5 k5 w5 D5
      have xl5 : (x4 ++ [45]).length = xs.length + 1 + 1 := by rw [List.length_append, xl4]; rfl
      obtain ⟨x5, hx5⟩ : ∃ x, x4 ++ [45] = x := ⟨_, rfl⟩
      rw [hx5] at D5 xl5 K1 K2 K3
      have D5 : Ds B q (c :: R) w0 w5 (.slice (some ⟨g5, 0, none⟩) x5.length k5) x5 := by rw [xl5]; exact D5
      rw [← xl5]
      have xl6 : x5.length ≤ 30 := by omega
      clear xl4 xl5 hx4 hx5
      by_cases h10 : e < 10
      · have d10 : decide ((e : Int) < 10) = true := by rw [decide_eq_true_eq]; omega
        have hr0 : (e : Int) = (r : Int) := by rw [Int.emod_eq_of_lt e0 (by omega)] at q4; exact q4
        have v0 : IntKind.u8.wrap (e : Int) = (r : Int) := by rw [hr0]; exact u2
        have HF := Lib.hid (K1 h10)
        clear K1 K2 K3 q1 q2 q3 q4 q5 q6 q7 q8 hr0
        go_wp2_with (at_builtin; refine wpList_ds rfl _ _ 122 rfl i0 Tryz.underlying122 hi hz0 hz1 hz2 (by rfl) (D5.alloc _) ⟨_, 0, none⟩ 2 2 [48, br] (by rfl) rfl (news_at _ _ _ _ (by rfl)) (by decide) (by omega) ?_)
        intro g6 k6 w6 D6
        rw [HF.out] at D6
        go_wp2
        go_ret
        exact ⟨_, rfl, D6⟩
      · have d10 : decide ((e : Int) < 10) = false := by rw [decide_eq_false_iff_not]; omega
        by_cases h100 : e < 100
        · have d100 : decide ((e : Int) < 100) = true := by rw [decide_eq_true_eq]; omega
          obtain ⟨bt, hbt⟩ : ∃ b, UInt8.ofNat (48 + t) = b := ⟨_, rfl⟩
          have nt : bt.toNat = 48 + t := by rw [← hbt]; exact byte48 (by omega)
          have v4 : IntKind.u8.wrap ((t : Int) + 48) = (bt.toNat : Int) := by rw [IntKind.wrap_u8]; omega
          have HF := Lib.hid (K2 (by omega) h100 bt hbt)
          clear K1 K2 K3 nt hbt
          go_wp2_with (at_builtin; refine wpList_ds rfl _ _ 122 rfl i0 Tryz.underlying122 hi hz0 hz1 hz2 (by rfl) (D5.alloc _) ⟨_, 0, none⟩ 2 2 [bt, br] (by rfl) rfl (news_at _ _ _ _ (by rfl)) (by decide) (by omega) ?_)
          intro g6 k6 w6 D6
          rw [HF.out] at D6
          go_wp2
          go_ret
          exact ⟨_, rfl, D6⟩
        · have d100 : decide ((e : Int) < 100) = false := by rw [decide_eq_false_iff_not]; omega
          have HF := Lib.hid (K3 (by omega))
          clear K1 K2 K3
          go_wp2_with (at_builtin; refine wpList_ds rfl _ _ 122 rfl i0 Tryz.underlying122 hi hz0 hz1 hz2 (by rfl) (D5.alloc _) ⟨_, 0, none⟩ 3 3 [bh, br2, br] (by rfl) rfl (news_at _ _ _ _ (by rfl)) (by decide) (by omega) ?_)
          intro g6 k6 w6 D6
          rw [HF.out] at D6
          go_wp2
          go_ret
          exact ⟨_, rfl, D6⟩
end Ft
end Go.Proofs.YtapgibcdbggpkaaGreatDoor
namespace Go.Proofs.YtapgibcdbggpkaaGreatDoor
open Go Go.RowKit Go.Sort Go.Lib
set_option linter.all false
namespace Ft
open Us
def exO (b : Nat) : Nat := b / 4503599627370496
/-- the mantissa with the bit that is not written -/
def maO (b : Nat) : Nat := if exO b = 0 then b % 4503599627370496 else b % 4503599627370496 + 4503599627370496
def shO (b : Nat) : Nat := 64 - Lib.bitLen (maO b)
def mO (b : Nat) : Nat := maO b * 2 ^ shO b
def EO (b : Nat) : Int := (if exO b = 0 then 1 else (exO b : Int)) - 1023 - (shO b : Int) - 52
theorem bitLen_eq {d k : Nat} (h0 : 2 ^ k ≤ d) (h1 : d < 2 ^ (k + 1)) (h2 : d < 18446744073709551616) : Lib.bitLen d = k + 1 := by
  have hd : d ≠ 0 := by have := Nat.pow_pos (n := k) (show 0 < 2 by decide); omega
  obtain ⟨b1, b2, b3⟩ := Lib.bitLenAux_bounds 64 d h2 hd
  have b2' : 2 ^ (Lib.bitLen d - 1) ≤ d := b2
  have b3' : d < 2 ^ Lib.bitLen d := b3
  have b1' : 1 ≤ Lib.bitLen d := b1
  have g1 : k < Lib.bitLen d := (Nat.pow_lt_pow_iff_right (show 1 < 2 by decide)).1 (Nat.lt_of_le_of_lt h0 b3')
  have g2 : Lib.bitLen d - 1 < k + 1 := (Nat.pow_lt_pow_iff_right (show 1 < 2 by decide)).1 (Nat.lt_of_le_of_lt b2' h1)
  omega
theorem maO_pos {b : Nat} (h : 0 < b) : 0 < maO b := by
  unfold maO exO
  split <;> omega
theorem maO_lt (b : Nat) : maO b < 9007199254740992 := by
  unfold maO
  split <;> omega
/-- the mantissa's high bit set -/
theorem v_of {b : Nat} (h0 : 0 < b) (h1 : b < 9218868437227405312) : V (mO b) (EO b) ∧ 1 ≤ Lib.bitLen (maO b) ∧ Lib.bitLen (maO b) ≤ 53 := by
  have hp := maO_pos h0
  have hl := maO_lt b
  obtain ⟨b1, b2, b3⟩ := Lib.bitLenAux_bounds 64 (maO b) (by omega) (by omega)
  have b2' : 2 ^ (Lib.bitLen (maO b) - 1) ≤ maO b := b2
  have b3' : maO b < 2 ^ Lib.bitLen (maO b) := b3
  have b1' : 1 ≤ Lib.bitLen (maO b) := b1
  have h53 : Lib.bitLen (maO b) ≤ 53 := by
    have : Lib.bitLen (maO b) - 1 < 53 := (Nat.pow_lt_pow_iff_right (show 1 < 2 by decide)).1 (Nat.lt_of_le_of_lt b2' (show maO b < 2 ^ 53 from hl))
    omega
  obtain ⟨L, hL⟩ : ∃ L, Lib.bitLen (maO b) = L + 1 := ⟨Lib.bitLen (maO b) - 1, by omega⟩
  have hs : shO b = 63 - L := by unfold shO; rw [hL]; omega
  rw [hL] at b2' b3' h53
  rw [Nat.add_sub_cancel] at b2'
  have hm0 : 9223372036854775808 ≤ mO b := by
    unfold mO
    rw [hs]
    have := Nat.mul_le_mul_right (2 ^ (63 - L)) b2'
    rw [← Nat.pow_add, show L + (63 - L) = 63 by omega] at this
    exact this
  have hm1 : mO b < 18446744073709551616 := by
    unfold mO
    rw [hs]
    have := Nat.mul_lt_mul_of_pos_right b3' (Nat.pow_pos (n := 63 - L) (show 0 < 2 by decide))
    rw [← Nat.pow_add, show L + 1 + (63 - L) = 64 by omega] at this
    exact this
  have hz : zO (EO b) = shO b ∧ -1137 ≤ EO b ∧ EO b ≤ 960 := by
    unfold EO
    by_cases g : exO b = 0
    · rw [if_pos g]
      have hlt : maO b < 4503599627370496 := by unfold maO; rw [if_pos g]; omega
      have hL52 : L < 52 := (Nat.pow_lt_pow_iff_right (show 1 < 2 by decide)).1 (Nat.lt_of_le_of_lt b2' (show maO b < 2 ^ 52 from hlt))
      rw [hs]
      unfold zO
      rw [if_neg (by omega)]
      omega
    · rw [if_neg g]
      have hge : 4503599627370496 ≤ maO b := by unfold maO; rw [if_neg g]; omega
      have hL52 : Lib.bitLen (maO b) = 52 + 1 := bitLen_eq (show 2 ^ 52 ≤ maO b from hge) (show maO b < 2 ^ 53 from hl) (by omega)
      have : L = 52 := by omega
      subst this
      have hex : exO b ≤ 2046 := by unfold exO; omega
      have hex1 : 1 ≤ exO b := by omega
      rw [hs]
      unfold zO
      rw [if_pos (by omega)]
      omega
  refine ⟨⟨hm0, hm1, hz.2.1, hz.2.2, ?_⟩, by omega, by omega⟩
  rw [hz.1]
  unfold mO
  exact Nat.mul_mod_left _ _
theorem dec_head {u : Nat} (h : 1 ≤ u) : ∃ c t, decDigits u = c :: t ∧ c ≠ 48 := by
  induction u using Nat.strongRecOn with
  | _ u ih =>
    by_cases g : u < 10
    · refine ⟨UInt8.ofNat (48 + u), [], by rw [decDigits, dif_pos g], fun e => ?_⟩
      have := congrArg UInt8.toNat e
      rw [byte48 g, show (48 : UInt8).toNat = 48 from rfl] at this
      omega
    · obtain ⟨c, t, h1, h2⟩ := ih (u / 10) (by omega) (by omega)
      refine ⟨c, t ++ [UInt8.ofNat (48 + u % 10)], ?_, h2⟩
      rw [decDigits, dif_neg g, h1]
      rfl
theorem cutz_take (l : List UInt8) : cutz l = l.take (cutz l).length := by
  unfold cutz
  have h : l.reverse.dropWhile (· == 48) <:+ l.reverse := List.dropWhile_suffix _
  obtain ⟨p, hp⟩ := h
  have hr : l = (l.reverse.dropWhile (· == 48)).reverse ++ p.reverse := by rw [← List.reverse_append, hp, List.reverse_reverse]
  generalize (l.reverse.dropWhile (· == 48)).reverse = x at *
  rw [hr, List.take_left]
theorem dw_ne : ∀ (l : List UInt8), (∃ x ∈ l, x ≠ 48) → l.dropWhile (· == 48) ≠ []
  | [], h => by obtain ⟨x, hx, -⟩ := h; cases hx
  | y :: r, h => by
    rw [List.dropWhile_cons]
    by_cases g : (y == 48) = true
    · rw [if_pos g]
      obtain ⟨x, hx, hn⟩ := h
      rcases List.mem_cons.1 hx with e | e
      · rw [e] at hn
        exact absurd (by simpa using g) hn
      · exact dw_ne r ⟨x, e, hn⟩
    · rw [if_neg g]
      exact List.cons_ne_nil _ _
theorem cutz_head {c : UInt8} {t : List UInt8} (h : c ≠ 48) : ∃ R, cutz (c :: t) = c :: R := by
  have h1 : cutz (c :: t) ≠ [] := by
    unfold cutz
    rw [Ne, List.reverse_eq_nil_iff]
    exact dw_ne _ ⟨c, by simp, h⟩
  have h2 := cutz_take (c :: t)
  cases hx : cutz (c :: t) with
  | nil => exact absurd hx h1
  | cons d R =>
    rw [hx, List.length_cons, List.take_succ_cons] at h2
    simp only [List.cons.injEq] at h2
    exact ⟨R, by rw [h2.1]⟩
/-- a number's digits, the last of them no nought -/
def dgT (d : Nat) : List UInt8 := cutz (decDigits d)
theorem dgT_form {d : Nat} (h : 1 ≤ d) : ∃ c R, dgT d = c :: R ∧ c ≠ 48 ∧ R.length + 1 ≤ nDigits d := by
  obtain ⟨c, t, h1, h2⟩ := dec_head h
  obtain ⟨R, hR⟩ := cutz_head (t := t) h2
  refine ⟨c, R, by unfold dgT; rw [h1, hR], h2, ?_⟩
  have e := cutz_take (decDigits d)
  rw [h1, hR] at e
  have := congrArg List.length e
  rw [List.length_take] at this
  rw [← decDigits_length, h1]
  simp only [List.length_cons] at this ⊢
  omega
end Ft
end Go.Proofs.YtapgibcdbggpkaaGreatDoor
