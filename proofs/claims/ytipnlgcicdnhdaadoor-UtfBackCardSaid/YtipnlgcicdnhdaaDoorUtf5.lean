/- What unit and Wide of the layer utf compute, and the reference's Wide. -/
import Derived.Test.YtipnlgcicdnhdaaDoorUtf4
namespace Go.Proofs.YtipnlgcicdnhdaaDoor
open Go Go.RowKit
/-- bytes as they lie in a row -/
def bv (l : List UInt8) : List Value := l.map fun b => Value.int .u8 (b.toNat : Int)
theorem bv_append (a b : List UInt8) : bv (a ++ b) = bv a ++ bv b := List.map_append
theorem infoU8 : (Tryd.prog.info? 5).map (fun i => (i.zero, i.size, i.bytes)) = some (some (.int .u8 0), 1, 1) := by kernel_rfl
theorem bv_unit8 (u : Nat) (hu : u < 65536) : bv (unit8 u) = [.int .u8 ((u : Int) / 256), .int .u8 ((u : Int) % 256)] := by
  have h1 : (UInt8.ofNat (u / 256)).toNat = u / 256 := by rw [UInt8.toNat_ofNat']; omega
  have h2 : (UInt8.ofNat (u % 256)).toNat = u % 256 := by rw [UInt8.toNat_ofNat']; omega
  simp only [bv, unit8, List.map_cons, List.map_nil, h1, h2]
  rfl
theorem unit_own (B : Nat) (v : Value) (n : Nat) (xs : List Value) (u : Int) (w : World) (h0 : 0 ≤ u) (hu : u < 65536) (hown : w.ownsRow B 5 1 v n xs) (hlen : n + 2 ≤ 140737488355328) (hB : B ≤ w.heap.size) :
    Calls Tryd.prog 28 #[v, .int .i64 u] w fun e w' => ∃ v', e = .returned v' ∧ w'.ownsRow B 5 1 v' (n + 2) (xs ++ bv (unit8 u.toNat)) ∧ Below B w w' := by
  obtain ⟨u, rfl⟩ := Int.eq_ofNat_of_zero_le h0
  rw [Int.toNat_natCast, bv_unit8 u (by omega)]
  obtain ⟨i0, hi, hz0, hz1, hz2⟩ := info_parts infoU8
  go_enter Tryd.func28, Tryd.ntmps28
  go_wp2_with (at_builtin; refine wpList_append_own _ rfl _ _ 53 rfl B 5 i0 (.int .u8 0) 1 1 Tryd.underlying53 hi hz0 hz1 hz2 rfl (by decide) _ _ _ rfl (hown.alloc _) ⟨w.heap.size, 0, none⟩ 2 2 [.int .u8 ((u : Int) / 256), .int .u8 ((u : Int) % 256)] rfl rfl ?c1 ?c2 ?c3 ?c4 ?c5 ?_)
  case c1 => exact cell_two_new _ _ _ _
  case c2 => intro x hx; simp at hx; rcases hx with rfl | rfl <;> rfl
  case c3 => unfold maxLen; omega
  case c4 => omega
  case c5 => simp; omega
  intro v' w1 hown' hgrow _
  go_wp2
  go_ret
  refine ⟨v', rfl, hown', ?_⟩
  exact ((Below.refl B w).alloc hB _).grown hgrow (by simp; omega) (fun k hk => (hown.lt k hk).1)
theorem Pur.trans' {a b c : World} (h : Pur a b) (k : Below a.heap.size b c) : Pur a c := Below.trans h k
theorem ownsRow_pur {w w' : World} {base : Nat} {e : TypeId} {size : Nat} {v : Value} {n : Nat} {xs : List Value} (h : w.ownsRow base e size v n xs) (hp : Pur w w') : w'.ownsRow base e size v n xs :=
  h.kept (row := none) ⟨hp.os, hp.tape, hp.output, hp.size, fun k hk _ => hp.block k hk⟩ (by cases v.ownBlock <;> simp)
theorem run_str_of_own {P : Program} (w : World) (src dst e : TypeId) (B : Nat) (v : Value) (n : Nat) (l : List UInt8) (hn : l.length = n) (hs : P.underlying src = some (.slice e)) (he : P.underlying e = some (.int .u8)) (hd : P.underlying dst = some .string)
    (h : w.ownsRow B e 1 v n (bv l)) : (convert src dst v).run P w = .ok (.string ⟨l.toArray⟩) w := by
  subst hn
  obtain ⟨h1, h2⟩ := id h
  rcases h2 with ⟨rfl, h0⟩ | ⟨g, cap, cur, rfl, _⟩
  · obtain rfl : l = [] := List.length_eq_zero_iff.1 h0
    rw [run_convert_bytes_string w src dst e _ _ _ hs he hd]
    simp [Conv.bytesToString]
    rfl
  · have hm : (l.map fun b => ((b.toNat : Nat) : Int)).map B8 = l := by
      rw [List.map_map]
      conv => rhs; rw [← List.map_id l]
      exact List.map_congr_left fun b _ => B8_toNat b
    rw [run_str_of_cells w src dst e ⟨g, 0, none⟩ _ cap (l.map fun b => ((b.toNat : Nat) : Int)) (by simp) hs he hd fun j hj => ?_, hm]
    have ha : (Addr.mk g 0 none).add j = ⟨g, j, none⟩ := by unfold Addr.add; split <;> simp_all
    rw [ha, h.cellAt j (by omega)]
    simp [bv, hj]
theorem wide_any (l : List UInt8) (w : World) (hT : Lib.Utf8Tabs 0 1 w) (hs : l.length ≤ 1000000) :
    Calls Tryd.prog 12 #[.string ⟨l.toArray⟩] w fun e w' => e = .returned (.tuple #[.string ⟨(wideR l).1.toArray⟩, .int .i64 (wideR l).2.1, .int .i64 (wideR l).2.2]) ∧ Pur w w' := by
  have hw1 : IntKind.i64.wrap (2 * (l.length : Int)) = 2 * (l.length : Int) := IntWalk.i64_in _ (by omega)
  obtain ⟨i0, hi, hz0, hz1, hz2⟩ := info_parts infoU8
  go_enter Tryd.func12, Tryd.ntmps12
  go_wp2_with (at_make; refine wpList_make_own _ rfl _ _ 53 rfl w.heap.size 5 i0 (.int .u8 0) 1 Tryd.underlying53 hi hz0 hz1 .i64 .i64 _ (2 * l.length) rfl rfl (by omega) (by rw [hz2]; omega) (by unfold maxLen; omega) (Nat.le_refl _) ?_; intro w0 hown0 hgrow0)
  clear hw1 hi hz0 hz1 hz2
  have hp0 : Pur w w0 := (Below.refl _ w).grown hgrow0 (Nat.le_refl _) (fun k hk => by cases hk)
  clear hgrow0
  go_loopw [5, 6] (fun o i wr => ∃ (n : Nat) (acc : List UInt8), n ≤ l.length ∧ i = .int .i64 n ∧ acc.length ≤ 4 * n ∧ wr.ownsRow w.heap.size 5 1 o acc.length (bv acc) ∧ Pur w wr ∧ Hid (wideR l = wideGo l n acc)) (fun _ i _ => l.length + 1 - (intOf i).toNat)
  case atStart => exact ⟨0, [], by omega, rfl, by simp, hown0, hp0, Lib.hid rfl⟩
  case round =>
    obtain ⟨n, acc, hn, rfl, hacc, hown, hpr, H⟩ := hrel
    by_cases hlt : n < l.length
    · have hT1 := Utf8Tabs_below hT hpr
      have HG : Hid (wideGo l n acc = if (chr l n).2 = 0 then ([], n, 10) else wideGo l (n + (chr l n).2) (acc ++ units (chr l n).1)) := by
        rw [wideGo, if_pos hlt]
        exact rfl
      have hbd := chr_bd l n
      have hend := chr_end l n
      have HN := Lib.hid (next_in l n wr hT1 hlt)
      generalize chr l n = q at *
      obtain ⟨c, m⟩ := q
      simp only at hbd hend
      by_cases hm : m = 0
      · subst hm
        have HR : Hid (wideR l = ([], n, 10)) := by
          have h1 := H.out
          have h2 := HG.out
          rw [h2, if_pos rfl] at h1
          exact h1
        clear hend hown hT1
        go_wp2_with (go_at_call 16; refine HN.out.mono ?_; rintro e w1 ⟨rfl, hp1⟩)
        go_ret3
        exact ⟨by rw [HR.out]; rfl, hpr.trans hp1⟩
      · have hmb : decide (0 < m) = true := by simp; omega
        have hend' := hend hm
        have HR : Hid (wideR l = wideGo l (n + m) (acc ++ units c)) := by
          have h1 := H.out
          have h2 := HG.out
          rw [h2, if_neg hm] at h1
          exact h1
        have hm1 : 1 ≤ m := by omega
        clear hend hT1 hm
        by_cases hc : 65535 < (c : Int)
        · have hu : units c = unit8 (55296 + (c - 65536) / 1024) ++ unit8 (56320 + (c - 65536) % 1024) := by rw [units, if_pos (by omega)]
          have HU := Lib.hid hu
          clear hu
          have hand : bits .and .i64 ((c : Int) - 65536) 1023 = ((c : Int) - 65536) % 1024 := bits_mask .i64 63 (by decide) wraps_i64 10 (by decide) _ (by omega) (by omega)
          go_wp2_with (first | (go_at_call 16; refine HN.out.mono ?_; rintro e w1 ⟨rfl, hp1⟩))
          refine (unit_own _ _ _ _ _ _ (by omega) (by omega) (ownsRow_pur hown hp1) (by omega) (Nat.le_trans hpr.size hp1.size)).mono ?_
          rintro e w2 ⟨v2, rfl, hown2, hb2⟩
          have hz2 : w.heap.size ≤ w2.heap.size := Nat.le_trans (Nat.le_trans hpr.size hp1.size) hb2.size
          rw [show ((55296 : Int) + ((c : Int) - 65536) / 1024).toNat = 55296 + (c - 65536) / 1024 by omega] at hown2
          go_wp2_with fail
          refine (unit_own _ _ _ _ _ _ (by omega) (by omega) hown2 (by omega) hz2).mono ?_
          rintro e w3 ⟨v3, rfl, hown3, hb3⟩
          rw [show ((56320 : Int) + ((c : Int) - 65536) % 1024).toNat = 56320 + (c - 65536) % 1024 by omega] at hown3
          clear hown2
          go_wp2
          go_roundw
          case rel =>
            refine ⟨n + m, acc ++ units c, by omega, by go_num, by have := units_length_le c; rw [List.length_append]; omega, ?_, ((hpr.trans hp1).trans' hb2).trans' hb3, HR⟩
            rw [HU.out, List.length_append, List.length_append, bv_append, bv_append, ← List.append_assoc]
            exact hown3
          case measure => simp [intOf]; omega
        · have hu : units c = unit8 c := by rw [units, if_neg (by omega)]
          have HU := Lib.hid hu
          clear hu
          go_wp2_with (go_at_call 16; refine HN.out.mono ?_; rintro e w1 ⟨rfl, hp1⟩)
          refine (unit_own _ _ _ _ _ _ (by omega) (by omega) (ownsRow_pur hown hp1) (by omega) (Nat.le_trans hpr.size hp1.size)).mono ?_
          rintro e w2 ⟨v2, rfl, hown2, hb2⟩
          rw [Int.toNat_natCast] at hown2
          go_wp2
          go_roundw
          case rel =>
            refine ⟨n + m, acc ++ units c, by omega, by go_num, by have := units_length_le c; rw [List.length_append]; omega, ?_, (hpr.trans hp1).trans' hb2, HR⟩
            rw [HU.out, List.length_append, bv_append]
            exact hown2
          case measure => simp [intOf]; omega
    · obtain rfl : n = l.length := by omega
      have hstr := run_str_of_own (P := Tryd.prog) wr 53 9 5 w.heap.size _ acc.length acc rfl Tryd.underlying53 Tryd.underlying5 Tryd.underlying9 hown
      clear hown
      go_wp2
      go_ret3
      refine ⟨?_, hpr⟩
      rw [H.out, wideGo, if_neg (by omega)]
      rfl
theorem rwide_any (l : List UInt8) (w : World) (hs : l.length ≤ 1000000) :
    Calls Tryd.prog 13 #[.string ⟨l.toArray⟩] w fun e w' => e = .returned (.tuple #[.string ⟨(wideR l).1.toArray⟩, .int .i64 (wideR l).2.1, .int .i64 (wideR l).2.2]) ∧ Pur w w' := by
  go_enter Tryd.func13, Tryd.ntmps13
  go_wp2
  go_loopw [5, 6] (fun o i wr => ∃ (n : Nat) (acc : List UInt8), n ≤ l.length ∧ i = .int .i64 n ∧ acc.length ≤ 4 * n ∧ o = .string ⟨acc.toArray⟩ ∧ Pur w wr ∧ Hid (wideR l = wideGo l n acc)) (fun _ i _ => l.length + 1 - (intOf i).toNat)
  case atStart => exact ⟨0, [], by omega, rfl, by simp, rfl, Pur.refl w, Lib.hid rfl⟩
  case round =>
    obtain ⟨n, acc, hn, rfl, hacc, rfl, hpr, H⟩ := hrel
    by_cases hlt : n < l.length
    · have HG : Hid (wideGo l n acc = if (chr l n).2 = 0 then ([], n, 10) else wideGo l (n + (chr l n).2) (acc ++ units (chr l n).1)) := by
        rw [wideGo, if_pos hlt]
        exact rfl
      have hbd := chr_bd l n
      have hend := chr_end l n
      have HN := Lib.hid (rchar_in l n wr (by omega) hlt)
      generalize chr l n = q at *
      obtain ⟨c, m⟩ := q
      simp only at hbd hend
      by_cases hm : m = 0
      · subst hm
        have HR : Hid (wideR l = ([], n, 10)) := by
          have h1 := H.out
          have h2 := HG.out
          rw [h2, if_pos rfl] at h1
          exact h1
        clear hend
        go_wp2_with (go_at_call 17; refine HN.out.mono ?_; rintro e w1 ⟨rfl, rfl⟩)
        go_ret3
        exact ⟨by rw [HR.out]; rfl, hpr⟩
      · have hend' := hend hm
        have HR : Hid (wideR l = wideGo l (n + m) (acc ++ units c)) := by
          have h1 := H.out
          have h2 := HG.out
          rw [h2, if_neg hm] at h1
          exact h1
        have hm1 : 1 ≤ m := by omega
        have hmb : ((m : Int) == 0) = false := by simp; omega
        clear hend hm
        have hul := units_length_le c
        by_cases hc : 65536 ≤ (c : Int)
        · have HU := Lib.hid (show unit8 (55296 + (c - 65536) / 1024) ++ unit8 (56320 + (c - 65536) % 1024) = units c by rw [units, if_pos (by omega)])
          go_wp2_with (first | (go_at_call 17; refine HN.out.mono ?_; rintro e w1 ⟨rfl, rfl⟩))
          refine (runit_any _ _ (by omega) (by omega)).mono ?_
          rintro e w2 ⟨rfl, hp2⟩
          rw [show ((55296 : Int) + ((c : Int) - 65536) / 1024).toNat = 55296 + (c - 65536) / 1024 by omega]
          go_wp2_with fail
          refine (runit_any _ _ (by omega) (by omega)).mono ?_
          rintro e w3 ⟨rfl, hp3⟩
          rw [show ((56320 : Int) + ((c : Int) - 65536) % 1024).toNat = 56320 + (c - 65536) % 1024 by omega]
          go_wp2
          go_roundw
          case rel => exact ⟨n + m, acc ++ units c, by omega, by go_num, by rw [List.length_append]; omega, by rw [← HU.out, ← List.append_assoc], (hpr.trans hp2).trans hp3, HR⟩
          case measure => simp [intOf]; omega
        · have HU := Lib.hid (show unit8 c = units c by rw [units, if_neg (by omega)])
          have hc' : (c : Int) ≤ 65535 := by omega
          have hd : decide (65536 ≤ (c : Int)) = false := by simp; omega
          clear hc
          go_wp2_with (first | (go_at_call 17; refine HN.out.mono ?_; rintro e w1 ⟨rfl, rfl⟩))
          refine (runit_any _ _ (by omega) (by omega)).mono ?_
          rintro e w2 ⟨rfl, hp2⟩
          rw [Int.toNat_natCast]
          go_wp2
          go_roundw
          case rel => exact ⟨n + m, acc ++ units c, by omega, by go_num, by rw [List.length_append]; omega, by rw [← HU.out], hpr.trans hp2, HR⟩
          case measure => simp [intOf]; omega
    · obtain rfl : n = l.length := by omega
      go_wp2
      go_ret3
      refine ⟨?_, hpr⟩
      rw [H.out, wideGo, if_neg (by omega)]
      rfl
end Go.Proofs.YtipnlgcicdnhdaaDoor
