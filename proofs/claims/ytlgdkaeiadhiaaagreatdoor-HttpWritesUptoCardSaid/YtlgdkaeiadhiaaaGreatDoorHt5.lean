/- The document's Digits and Split. -/
import Derived.Test.YtlgdkaeiadhiaaaGreatDoorHt4
namespace Go.Proofs.YtlgdkaeiadhiaaaGreatDoor
open Go Go.RowKit
set_option linter.all false
theorem digB_iff (c : UInt8) : digB c = true ↔ 48 ≤ c.toNat ∧ c.toNat ≤ 57 := by simp [digB]
theorem dval_take {l : Bytes} {n : Nat} (h : n < l.length) : dval 0 (l.take (n + 1)) = dval 0 (l.take n) * 10 + (by8 l n - 48) := by
  rw [List.take_succ_eq_append_getElem h, dval_append, dval_cons, dval_nil]
  unfold by8
  simp [List.getD_eq_getElem?_getD, h]
theorem dval_small {l : Bytes} {n k : Nat} (hk : k ≤ n) (h : ∀ j, j < n → digB (l.getD j 0) = true) (hn : n ≤ l.length) (hk10 : k ≤ 10) : dval 0 (l.take k) < 10000000000 := by
  have hd : digitsB (l.take k) = true := by
    unfold digitsB
    rw [List.all_eq_true]
    intro x hx
    obtain ⟨j, hj, rfl⟩ := List.getElem_of_mem hx
    rw [List.length_take] at hj
    have := h j (by omega)
    rw [List.getElem_take]
    simpa [List.getD_eq_getElem?_getD, show j < l.length by omega] using this
  have h1 := dval_lt _ 0 hd
  have h2 : (10 : Nat) ^ (l.take k).length ≤ 10 ^ 10 := Nat.pow_le_pow_right (by decide) (by rw [List.length_take]; omega)
  omega
set_option maxRecDepth 100000 in
set_option maxHeartbeats 4000000 in
theorem rdigits9_any (l : Bytes) (w : World) (hs : l.length ≤ 140737488351232) :
    Calls Tryz.prog 47 #[.string ⟨l.toArray⟩] w fun e w' => e = .returned (.int .i64 (dig9 l)) ∧ w = w' := by
  go_enter Tryz.func47, Tryz.ntmps47
  go_wp2
  go_loop [3, 4] (fun a k => ∃ (n : Nat) (v : Nat), n ≤ l.length ∧ a = .int .i64 v ∧ k = .int .i64 n ∧ v < 10000000000 ∧ Hid (v = dval 0 (l.take (min n 10))) ∧ Hid (∀ j, j < n → digB (l.getD j 0) = true)) (fun _ k => l.length + 1 - (intOf k).toNat)
  case atStart => exact ⟨0, 0, by omega, rfl, rfl, by omega, Lib.hid (by simp [dval]), Lib.hid (fun j h => by omega)⟩
  case round =>
    obtain ⟨n, v, hn, rfl, rfl, hv, HV, H⟩ := hrel
    by_cases hlt : n < l.length
    · have hlt' : (n : Int) < l.length := by omega
      have cb := by8_lt l n
      by_cases hd : digB (l.getD n 0) = true
      · have hd' := (digB_iff _).1 hd
        have g1 : decide ((by8 l n : Int) < 48) = false := decide_eq_false (by unfold by8; omega)
        have g2 : decide ((57 : Int) < by8 l n) = false := decide_eq_false (by unfold by8; omega)
        have g3 : (48 : Int) ≤ by8 l n := by unfold by8; omega
        have g4 : (by8 l n : Int) ≤ 57 := by unfold by8; omega
        have HN := Lib.hid (all_step (p := digB) hlt H.out hd)
        by_cases h10 : n < 10
        · have d10 : decide ((n : Int) < 10) = true := decide_eq_true (by omega)
          have HV2 := Lib.hid (show dval 0 (l.take (min (n + 1) 10)) = v * 10 + (by8 l n - 48) by
            rw [show min (n + 1) 10 = n + 1 by omega, dval_take hlt, HV.out, show min n 10 = n by omega])
          have HB := Lib.hid (show v * 10 + (by8 l n - 48) < 10000000000 by
            rw [← HV2.out]
            exact dval_small (n := n + 1) (by omega) HN.out (by omega) (by omega))
          clear hd hd' HV H
          go_wp2
          go_round
          case rel => exact ⟨n + 1, v * 10 + (by8 l n - 48), by omega, by go_num, by go_num, HB.out, Lib.hid HV2.out.symm, HN⟩
          case measure => simp [intOf]; omega
        · have d10 : decide ((n : Int) < 10) = false := decide_eq_false (by omega)
          have HV2 := Lib.hid (show v = dval 0 (l.take (min (n + 1) 10)) by
            rw [HV.out, show min (n + 1) 10 = min n 10 by omega])
          clear hd hd' HV H
          go_wp2
          go_round
          case rel => exact ⟨n + 1, v, by omega, rfl, by go_num, hv, HV2, HN⟩
          case measure => simp [intOf]; omega
      · have hd2 : digB (l.getD n 0) = false := by simpa using hd
        have HF := Lib.hid (show dig9 l = -1 by
          unfold dig9
          rw [if_neg]
          rintro ⟨h, _⟩
          have := all_not (p := digB) hlt hd2
          unfold digitsB at h
          rw [h] at this
          cases this)
        rw [digB_iff] at hd
        by_cases hlo : by8 l n < 48
        · have g1 : decide ((by8 l n : Int) < 48) = true := decide_eq_true (by omega)
          clear hd hd2 HV H
          go_wp2
          go_ret
          exact ⟨by rw [HF.out]; rfl, rfl⟩
        · have g1 : decide ((by8 l n : Int) < 48) = false := decide_eq_false (by omega)
          have g2 : decide ((57 : Int) < by8 l n) = true := decide_eq_true (by unfold by8 at *; omega)
          clear hd hd2 HV H
          go_wp2
          go_ret
          exact ⟨by rw [HF.out]; rfl, rfl⟩
    · obtain rfl : n = l.length := by omega
      have hlt' : decide (l.length < l.length) = false := by simp
      have HD := Lib.hid (show digitsB l = true from all_of (p := digB) H.out)
      by_cases h9 : 0 < l.length ∧ l.length ≤ 9
      · have HF := Lib.hid (show dig9 l = v by
          unfold dig9
          rw [if_pos ⟨HD.out, h9.1, h9.2⟩, HV.out, show min l.length 10 = l.length by omega, List.take_length])
        have d0 : ((l.length : Int) == 0) = false := by simp only [beq_eq_false_iff_ne, ne_eq]; omega
        have d9 : decide ((9 : Int) < l.length) = false := decide_eq_false (by omega)
        clear h9 HV H
        go_wp2
        go_ret
        exact ⟨by rw [HF.out]; rfl, rfl⟩
      · have HF := Lib.hid (show dig9 l = -1 by
          unfold dig9
          rw [if_neg (fun h => h9 h.2)])
        by_cases h0 : l.length = 0
        · have d0 : ((l.length : Int) == 0) = true := by simp [h0]
          clear h9 HV H h0
          go_wp2
          go_ret
          exact ⟨by rw [HF.out]; rfl, rfl⟩
        · have d0 : ((l.length : Int) == 0) = false := by simp only [beq_eq_false_iff_ne, ne_eq]; omega
          have d9 : decide ((9 : Int) < l.length) = true := decide_eq_true (by omega)
          clear h9 HV H h0
          go_wp2
          go_ret
          exact ⟨by rw [HF.out]; rfl, rfl⟩
/-! ### parts -/
def scells (ls : List Bytes) : List Value := ls.map fun l => .string ⟨l.toArray⟩
theorem str_info : (Tryz.prog.info? 9).map (fun i => (i.zero.map (·.cells.size), i.size, i.bytes)) = some (some 1, 1, 16) := by kernel_rfl
theorem add_zero' (g j : Nat) : (Addr.mk g 0 none).add j = ⟨g, j, none⟩ := by
  unfold Addr.add; split <;> simp_all
/-- a slice value that reads as a list of texts -/
def SlRead (w : World) (v : Value) (ls : List Bytes) : Prop :=
  ∃ g c, v = .slice (some ⟨g, 0, none⟩) ls.length c ∧ SRead w g ls
theorem SlRead.of_own {w : World} {B : Nat} {e : TypeId} {v : Value} {ls : List Bytes} (hne : ls ≠ []) (h : w.ownsRow B e 1 v ls.length (scells ls)) : SlRead w v ls := by
  obtain ⟨h1, h2⟩ := id h
  rcases h2 with ⟨rfl, h0⟩ | ⟨g, cap, cur, rfl, hb, hg, _⟩
  · exact absurd (List.length_eq_zero_iff.1 h0) hne
  · refine ⟨g, _, rfl, (Array.getElem?_eq_some_iff.1 hg).1, fun j p hj => ?_⟩
    have := h.cells (g := g) rfl j (.string ⟨p.toArray⟩) (by simp [scells, hj])
    rw [add_zero'] at this
    exact this
theorem pcs_short {t : Bytes} : ∀ l : Bytes, l.length < t.length → pcs t l = [l]
  | [], _ => by rw [pcs]
  | c :: r, h => by
    rw [pcs_cons_miss (fun hp => by have := hp.length_le; omega), pcs_short r (by rw [List.length_cons] at h; omega)]
    rfl
theorem head_tail (t l : Bytes) : (pcs t l).headD [] :: (pcs t l).tail = pcs t l := by
  cases e : pcs t l with
  | nil => exact absurd e (pcs_ne l)
  | cons x y => rfl
theorem sub_same (l : Bytes) (a : Nat) : sub l a a = [] := by
  unfold sub; simp
theorem sub_next {l : Bytes} {a n : Nat} (ha : a ≤ n) (h : n < l.length) : sub l a (n + 1) = sub l a n ++ [l.getD n 0] := by
  unfold sub
  rw [show n + 1 - a = (n - a) + 1 by omega, List.take_succ_eq_append_getElem (by rw [List.length_drop]; omega)]
  congr 2
  rw [List.getElem_drop]
  simp [List.getD_eq_getElem?_getD, show a + (n - a) = n by omega, h]
theorem sub_end (l : Bytes) (a n : Nat) (ha : a ≤ n) (hn : n ≤ l.length) : sub l a n ++ l.drop n = sub l a l.length := by
  unfold sub
  have e : l.drop n = (l.drop a).drop (n - a) := by rw [List.drop_drop]; congr 1; omega
  rw [e, List.take_append_drop, List.take_of_length_le (by rw [List.length_drop]; omega)]
theorem prefix_sub {t l : Bytes} {i : Nat} (h : i + t.length ≤ l.length) : t <+: l.drop i ↔ sub l i (i + t.length) = t := by
  unfold sub
  rw [show i + t.length - i = t.length by omega]
  constructor
  · rintro ⟨q, hq⟩; rw [← hq]; simp
  · intro e; rw [← e]; exact List.take_prefix _ _
theorem ownsRow_pur {w w' : World} {base : Nat} {e : TypeId} {size : Nat} {v : Value} {n : Nat} {xs : List Value} (h : w.ownsRow base e size v n xs) (hp : Pur w w') : w'.ownsRow base e size v n xs :=
  h.kept (row := none) ⟨hp.os, hp.tape, hp.output, hp.size, fun k hk _ => hp.block k hk⟩ (by cases v.ownBlock <;> simp)
theorem scells_snoc (ls : List Bytes) (p : Bytes) : scells (ls ++ [p]) = scells ls ++ [.string ⟨p.toArray⟩] := by simp [scells]
set_option maxRecDepth 100000 in
set_option maxHeartbeats 4000000 in
theorem rsplit_any (l t : Bytes) (w : World) (ht : t ≠ []) (hs : l.length ≤ 100000000) (htl : t.length ≤ 1000) :
    Calls Tryz.prog 42 #[.string ⟨l.toArray⟩, .string ⟨t.toArray⟩] w fun e w' => ∃ v, e = .returned v ∧ SlRead w' v (pcs t l) ∧ Pur w w' := by
  have hpos := List.length_pos_iff.2 ht
  obtain ⟨i0, hi, hz⟩ := Option.map_eq_some_iff.1 str_info
  simp only [Prod.mk.injEq] at hz
  obtain ⟨hz0, hz1, hz2⟩ := hz
  obtain ⟨z0, hz0, hzs⟩ := Option.map_eq_some_iff.1 hz0
  have HT := Lib.hid ht
  clear ht
  go_enter Tryz.func42, Tryz.ntmps42
  go_wp2
  go_loopw [5, 6, 7] (fun o f i wr => ∃ (a n : Nat) (acc : List Bytes), a ≤ n ∧ n ≤ l.length ∧ f = .int .i64 a ∧ i = .int .i64 n ∧ acc.length ≤ n ∧ wr.ownsRow w.heap.size 9 1 o acc.length (scells acc) ∧ Pur w wr ∧ Hid (pcs t l = acc ++ ((sub l a n ++ (pcs t (l.drop n)).headD []) :: (pcs t (l.drop n)).tail))) (fun _ _ i _ => l.length + 1 - (intOf i).toNat)
  case atStart => exact ⟨0, 0, [], by omega, by omega, rfl, rfl, by simp, World.ownsRow_nil _ _ _ _, Pur.refl w, Lib.hid (by rw [sub_same, List.drop_zero, List.nil_append, List.nil_append, head_tail])⟩
  case round =>
    obtain ⟨a, n, acc, han, hn, rfl, rfl, hacc, hown, hpr, H⟩ := hrel
    obtain ⟨m, hm⟩ : ∃ m, m = n + t.length := ⟨_, rfl⟩
    have hmi : (n : Int) + (t.length : Int) = (m : Int) := by omega
    have hm1 : n < m := by omega
    have a0 : (0 : Int) ≤ a := by omega
    have a1 : (a : Int) ≤ n := by omega
    have a2 : a ≤ n := han
    by_cases hle : m ≤ l.length
    · have l1 : decide (m ≤ l.length) = true := decide_eq_true hle
      have l2 : (m : Int) ≤ l.length := by omega
      have l3 : (n : Int) ≤ m := by omega
      have l4 : (n : Int) ≤ l.length := by omega
      have l5 : n ≤ l.length := hn
      have l6 : n ≤ m := by omega
      have hps := prefix_sub (t := t) (l := l) (i := n) (by omega)
      rw [← hm] at hps
      by_cases hit : sub l n m = t
      · have t1 : (sub l n m == t) = true := by simp [hit]
        have hz : l.drop n ≠ [] := by
          intro e
          have := congrArg List.length e
          rw [List.length_drop] at this
          simp at this
          omega
        have HS := Lib.hid (show pcs t l = (acc ++ [sub l a n]) ++ ((sub l m m ++ (pcs t (l.drop m)).headD []) :: (pcs t (l.drop m)).tail) by
          have hp := hps.2 hit
          cases hd : l.drop n with
          | nil => exact absurd hd hz
          | cons c r =>
            rw [hd] at hp
            have e1 := pcs_cons_hit HT.out hp
            rw [← hd, List.drop_drop, ← hm] at e1
            rw [H.out, e1, sub_same]
            simp only [List.headD_cons, List.tail_cons, List.append_nil, List.nil_append, head_tail]
            simp)
        clear hit hps hz H hm
        go_wp2_with (at_builtin; refine wpList_append_own _ rfl _ _ 73 rfl w.heap.size 9 i0 z0 1 16 Tryz.underlying73 hi hz0 hz1 hz2 hzs (by decide) _ _ _ rfl (hown.alloc _) ⟨_, 0, none⟩ 1 1 [.string ⟨(sub l a n).toArray⟩] rfl rfl ?c1 ?c2 ?c3 ?c4 ?c5 ?_)
        case c1 =>
          intro j u hj
          rw [add_zero', World.cell?_alloc_mark]
          match j, hj with
          | 0, hj => simpa using hj
        case c2 => intro u hu; simp at hu; rw [hu]; rfl
        case c3 => unfold maxLen; omega
        case c4 => omega
        case c5 => have := hpr.size; simp; omega
        intro v5 w5 hown5 hgrow _
        go_wp2
        go_roundw
        case rel =>
          refine ⟨m, m, acc ++ [sub l a n], by omega, by omega, rfl, rfl, by simp; omega, ?_, ((hpr.alloc _).grown hgrow (by have := hpr.size; simp; omega) (fun k hk => (hown.lt k hk).1)), HS⟩
          rw [List.length_append, scells_snoc]
          exact hown5
        case measure => simp [intOf]; omega
      · have t1 : (sub l n m == t) = false := by simpa using hit
        have hlt : n < l.length := by omega
        have HS := Lib.hid (show pcs t l = acc ++ ((sub l a (n + 1) ++ (pcs t (l.drop (n + 1))).headD []) :: (pcs t (l.drop (n + 1))).tail) by
          have hp : ¬ t <+: l.drop n := fun h => hit (hps.1 h)
          have hd : l.drop n = l.getD n 0 :: l.drop (n + 1) := by
            rw [List.drop_eq_getElem_cons hlt]
            simp [List.getD_eq_getElem?_getD, hlt]
          rw [hd] at hp
          have e1 := pcs_cons_miss hp
          rw [← hd] at e1
          rw [H.out, e1, sub_next a2 hlt]
          simp)
        clear hit hps H hm
        go_wp2
        go_roundw
        case rel => exact ⟨a, n + 1, acc, by omega, by omega, rfl, by go_num, by omega, hown, hpr, HS⟩
        case measure => simp [intOf]; omega
    · have l1 : decide (m ≤ l.length) = false := decide_eq_false hle
      have l4 : (a : Int) ≤ l.length := by omega
      have l5 : a ≤ l.length := by omega
      have HS := Lib.hid (show pcs t l = acc ++ [sub l a l.length] by
        rw [H.out, pcs_short (l.drop n) (by rw [List.length_drop]; omega), ← sub_end l a n han hn]
        rfl)
      clear H hm
      go_wp2_with (at_builtin; refine wpList_append_own _ rfl _ _ 73 rfl w.heap.size 9 i0 z0 1 16 Tryz.underlying73 hi hz0 hz1 hz2 hzs (by decide) _ _ _ rfl (hown.alloc _) ⟨_, 0, none⟩ 1 1 [.string ⟨(sub l a l.length).toArray⟩] rfl rfl ?c1 ?c2 ?c3 ?c4 ?c5 ?_)
      case c1 =>
        intro j u hj
        rw [add_zero', World.cell?_alloc_mark]
        match j, hj with
        | 0, hj => simpa using hj
      case c2 => intro u hu; simp at hu; rw [hu]; rfl
      case c3 => unfold maxLen; omega
      case c4 => omega
      case c5 => have := hpr.size; simp; omega
      intro v5 w5 hown5 hgrow _
      have hread : SlRead w5 v5 (acc ++ [sub l a l.length]) := SlRead.of_own (by simp) (by rw [List.length_append, scells_snoc]; exact hown5)
      go_wp2
      go_ret
      exact ⟨_, rfl, by rw [HS.out]; exact hread, ((hpr.alloc _).grown hgrow (by have := hpr.size; simp; omega) (fun k hk => (hown.lt k hk).1))⟩
end Go.Proofs.YtlgdkaeiadhiaaaGreatDoor
