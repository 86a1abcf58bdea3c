/- What Narrow of the layer utf computes, and the reference's bytes and Narrow. -/
import Derived.Test.YtipnlgcicdnhdaaDoorUtf5
import Derived.Test.YtipnlgcicdnhdaaDoorUtfPure2
namespace Go.Proofs.YtipnlgcicdnhdaaDoor
open Go Go.RowKit
theorem ofNat_toNat (n : Nat) (h : n < 256) : ((UInt8.ofNat n).toNat : Int) = (n : Int) := by rw [UInt8.toNat_ofNat', Nat.mod_eq_of_lt h]
theorem bv_enc (c : Nat) (h : okc c) : bv (enc c) = Lib.runeCells (c : Int) := by
  unfold okc at h
  unfold enc Lib.runeCells bv
  split
  · rw [Lib.encodeRuneZ_one (by omega) (by omega)]
    simp only [List.map_cons, List.map_nil]
    rw [ofNat_toNat _ (by omega)]
  split
  · rw [Lib.encodeRuneZ_two (by omega) (by omega)]
    simp only [List.map_cons, List.map_nil]
    rw [ofNat_toNat _ (by omega), ofNat_toNat _ (by omega)]
    rfl
  split
  · rw [Lib.encodeRuneZ_three (by omega)]
    simp only [List.map_cons, List.map_nil]
    rw [ofNat_toNat _ (by omega), ofNat_toNat _ (by omega), ofNat_toNat _ (by omega)]
    rfl
  · rw [Lib.encodeRuneZ_four (by omega) (by omega)]
    simp only [List.map_cons, List.map_nil]
    rw [ofNat_toNat _ (by omega), ofNat_toNat _ (by omega), ofNat_toNat _ (by omega), ofNat_toNat _ (by omega)]
    rfl
theorem appendRune_own (B : Nat) (v : Value) (acc : List UInt8) (c : Int) (w : World) (h0 : 0 ≤ c) (hc : okc c.toNat) (hown : w.ownsRow B 5 1 v acc.length (bv acc)) (hlen : acc.length + 4 ≤ 140737488355328) (hB : B ≤ w.heap.size) :
    Calls Tryd.prog 30 #[v, .int .i32 c] w fun e w' => ∃ v', e = .returned v' ∧ w'.ownsRow B 5 1 v' (acc ++ enc c.toNat).length (bv (acc ++ enc c.toNat)) ∧ Below B w w' := by
  obtain ⟨c, rfl⟩ := Int.eq_ofNat_of_zero_le h0
  rw [Int.toNat_natCast] at *
  have hb : c ≤ 1114111 := by unfold okc at hc; omega
  refine (Tryd.utf8_AppendRune_plain B v acc.length (bv acc) c (by omega) (by omega) w hown hlen hB).mono ?_
  rintro e w' ⟨v', rfl, hown', o, hg⟩
  refine ⟨v', rfl, ?_, ((Below.refl B w).alloc hB o).grown hg (by simp; omega) fun k hk => (hown.lt k hk).1⟩
  rw [List.length_append, bv_append, bv_enc c hc]
  have : (enc c).length = (Lib.runeCells (c : Int)).length := by rw [← bv_enc c hc]; simp [bv]
  rw [this]
  exact hown'
theorem rbytes_any (c : Int) (w : World) (h0 : 0 ≤ c) (hc : c ≤ 1114111) :
    Calls Tryd.prog 31 #[.int .i64 c] w fun e w' => e = .returned (.string ⟨(enc c.toNat).toArray⟩) ∧ Pur w w' := by
  obtain ⟨c, rfl⟩ := Int.eq_ofNat_of_zero_le h0
  rw [Int.toNat_natCast]
  by_cases h1 : c < 128
  · have HE := Lib.hid (show enc c = [B8 ((c : Int))] by rw [enc, if_pos h1]; rfl)
    have d1 : decide ((c : Int) < 128) = true := by simp; omega
    have h4 : c ≤ 127 := by omega
    clear h1 hc
    go_enter Tryd.func31, Tryd.ntmps31
    go_wp2
    go_ret
    refine ⟨?_, by first | exact Pur.refl w | exact (Pur.refl w).alloc _⟩
    rw [HE.out]
    rfl
  by_cases h2 : c < 2048
  · have HE := Lib.hid (show enc c = [B8 (192 + (c : Int) / 64), B8 (128 + (c : Int) % 64)] by rw [enc, if_neg h1, if_pos h2]; rfl)
    have d1 : decide ((c : Int) < 128) = false := by simp; omega
    have d2 : decide ((c : Int) < 2048) = true := by simp; omega
    have h4 : c ≤ 2047 := by omega
    clear h1 h2
    go_enter Tryd.func31, Tryd.ntmps31
    go_wp2
    go_ret
    refine ⟨?_, by first | exact Pur.refl w | exact (Pur.refl w).alloc _⟩
    rw [HE.out]
    rfl
  have d1 : decide ((c : Int) < 128) = false := by simp; omega
  have d2 : decide ((c : Int) < 2048) = false := by simp; omega
  by_cases h3 : c < 65536
  · have HE := Lib.hid (show enc c = [B8 (224 + (c : Int) / 4096), B8 (128 + (c : Int) / 64 % 64), B8 (128 + (c : Int) % 64)] by rw [enc, if_neg h1, if_neg h2, if_pos h3]; rfl)
    have d3 : decide ((c : Int) < 65536) = true := by simp; omega
    have h4 : c ≤ 65535 := by omega
    clear h1 h2 h3
    go_enter Tryd.func31, Tryd.ntmps31
    go_wp2
    go_ret
    refine ⟨?_, by first | exact Pur.refl w | exact (Pur.refl w).alloc _⟩
    rw [HE.out]
    rfl
  · have HE := Lib.hid (show enc c = [B8 (240 + (c : Int) / 262144), B8 (128 + (c : Int) / 4096 % 64), B8 (128 + (c : Int) / 64 % 64), B8 (128 + (c : Int) % 64)] by rw [enc, if_neg h1, if_neg h2, if_neg h3]; rfl)
    have d3 : decide ((c : Int) < 65536) = false := by simp; omega
    clear h1 h2 h3
    go_enter Tryd.func31, Tryd.ntmps31
    go_wp2
    go_ret
    refine ⟨?_, by first | exact Pur.refl w | exact (Pur.refl w).alloc _⟩
    rw [HE.out]
    rfl
theorem nar_cases (l : List UInt8) (n : Nat) : (at16 l n < 55296) ∨ (57344 ≤ at16 l n) ∨ (55296 ≤ at16 l n ∧ at16 l n < 56320 ∧ n + 1 < l.length / 2 ∧ 56320 ≤ at16 l (n + 1) ∧ at16 l (n + 1) < 57344) ∨ (55296 ≤ at16 l n ∧ at16 l n < 56320 ∧ l.length / 2 ≤ n + 1) ∨ (55296 ≤ at16 l n ∧ at16 l n < 56320 ∧ n + 1 < l.length / 2 ∧ at16 l (n + 1) < 56320) ∨ (55296 ≤ at16 l n ∧ at16 l n < 56320 ∧ n + 1 < l.length / 2 ∧ 57344 ≤ at16 l (n + 1)) ∨ (56320 ≤ at16 l n ∧ at16 l n < 57344 ∧ n + 1 < l.length / 2) ∨ (56320 ≤ at16 l n ∧ at16 l n < 57344 ∧ l.length / 2 ≤ n + 1) := by omega
theorem narrow_odd (l : List UInt8) (w : World) (hs : l.length ≤ 1000000) (h : l.length % 2 = 1) :
    Calls Tryd.prog 14 #[.string ⟨l.toArray⟩] w fun e w' => e = .returned (.tuple #[.string ⟨(narR l).1.toArray⟩, .int .i64 (narR l).2]) ∧ Pur w w' := by
  have hd : (((l.length : Int) % 2) != 0) = true := by simp; omega
  have HN := Lib.hid (show narR l = ([], 11) by rw [narR, if_pos h])
  clear h
  go_enter Tryd.func14, Tryd.ntmps14
  go_wp2
  go_ret2
  exact ⟨by rw [HN.out]; rfl, Pur.refl w⟩
set_option maxHeartbeats 1000000 in
theorem narrow_even (l : List UInt8) (w : World) (hs : l.length ≤ 1000000) (h : l.length % 2 = 0) :
    Calls Tryd.prog 14 #[.string ⟨l.toArray⟩] w fun e w' => e = .returned (.tuple #[.string ⟨(narR l).1.toArray⟩, .int .i64 (narR l).2]) ∧ Pur w w' := by
  have hd : (((l.length : Int) % 2) != 0) = false := by simp; omega
  have HN := Lib.hid (show narR l = (narGo l 0 [], 0) by rw [narR, if_neg (by omega)])
  clear h
  go_enter Tryd.func14, Tryd.ntmps14
  go_wp2
  go_loopw [4, 5] (fun o i wr => ∃ (n : Nat) (acc : List UInt8), n ≤ l.length / 2 ∧ i = .int .i64 n ∧ acc.length ≤ 4 * n ∧ wr.ownsRow w.heap.size 5 1 o acc.length (bv acc) ∧ Pur w wr ∧ Hid (narGo l 0 [] = narGo l n acc)) (fun _ i _ => l.length / 2 + 1 - (intOf i).toNat)
  case atStart => exact ⟨0, [], by omega, rfl, by simp, World.ownsRow_nil _ _ _ _, Pur.refl w, Lib.hid rfl⟩
  case round =>
    obtain ⟨n, acc, hn, rfl, hacc, hown, hpr, H⟩ := hrel
    by_cases hlt : n < l.length / 2
    · have HG := Lib.hid (show narGo l n acc = narGo l (n + (nst l n).2) (acc ++ enc (nst l n).1) by rw [narGo, if_pos hlt])
      have h16 := at16_lt l n
      have h17 := at16_lt l (n + 1)
      have hend := nst_end l n hlt
      have hok := nst_ok l n
      have hlt' : (n : Int) < (l.length : Int) / 2 := by omega
      have hcs := nar_cases l n
      clear hd
      rcases hcs with hcc | hcc | hcc | hcc | hcc | hcc | hcc | hcc
      · have hq : nst l n = (at16 l n, 1) := by rw [nst, if_neg (by omega), if_neg (by omega)]
        rw [hq] at hend hok
        have HQ := Lib.hid hq
        clear hq
        have D1 : decide (55296 ≤ (at16 l n : Int)) = false := by simp; omega
        clear hcc
        go_wp2_with (first | (go_at_call 18; refine (length_any _ _ (by omega)).mono ?_; rintro e w' ⟨rfl, rfl⟩))
        refine (at_in _ _ _ (by omega) (by omega)).mono ?_
        rintro e w1 ⟨rfl, hp1⟩
        go_wp2_with fail
        refine (appendRune_own w.heap.size _ acc _ _ (by omega) (by first | exact hok | (rw [show (_ : Int).toNat = at16 l n from by omega]; exact hok)) (ownsRow_pur hown hp1) (by omega) (hpr.trans hp1).size).mono ?_
        rintro e w9 ⟨v9, rfl, hown9, hb9⟩
        rw [show (_ : Int).toNat = at16 l n from by omega] at hown9
        go_wp2
        go_roundw
        case rel =>
          refine ⟨n + 1, acc ++ enc (at16 l n), by omega, by go_num, by have := enc_length_le (at16 l n); rw [List.length_append]; omega, hown9, (hpr.trans hp1).trans' hb9, Lib.hid ?_⟩
          rw [H.out, HG.out, HQ.out]
        case measure => simp [intOf]; omega
      · have hq : nst l n = (at16 l n, 1) := by rw [nst, if_neg (by omega), if_neg (by omega)]
        rw [hq] at hend hok
        have HQ := Lib.hid hq
        clear hq
        have D1 : decide (55296 ≤ (at16 l n : Int)) = true := by simp; omega
        have D2 : decide ((at16 l n : Int) < 57344) = false := by simp; omega
        clear hcc
        go_wp2_with (first | (go_at_call 18; refine (length_any _ _ (by omega)).mono ?_; rintro e w' ⟨rfl, rfl⟩))
        refine (at_in _ _ _ (by omega) (by omega)).mono ?_
        rintro e w1 ⟨rfl, hp1⟩
        go_wp2_with fail
        refine (appendRune_own w.heap.size _ acc _ _ (by omega) (by first | exact hok | (rw [show (_ : Int).toNat = at16 l n from by omega]; exact hok)) (ownsRow_pur hown hp1) (by omega) (hpr.trans hp1).size).mono ?_
        rintro e w9 ⟨v9, rfl, hown9, hb9⟩
        rw [show (_ : Int).toNat = at16 l n from by omega] at hown9
        go_wp2
        go_roundw
        case rel =>
          refine ⟨n + 1, acc ++ enc (at16 l n), by omega, by go_num, by have := enc_length_le (at16 l n); rw [List.length_append]; omega, hown9, (hpr.trans hp1).trans' hb9, Lib.hid ?_⟩
          rw [H.out, HG.out, HQ.out]
        case measure => simp [intOf]; omega
      · have hq : nst l n = (65536 + (at16 l n - 55296) * 1024 + at16 l (n + 1) - 56320, 2) := by rw [nst, if_pos (by omega)]
        rw [hq] at hend hok
        have HQ := Lib.hid hq
        clear hq
        have D1 : decide (55296 ≤ (at16 l n : Int)) = true := by simp; omega
        have D2 : decide ((at16 l n : Int) < 57344) = true := by simp; omega
        have D3 : decide ((at16 l n : Int) < 56320) = true := by simp; omega
        have D4 : decide (56320 ≤ (at16 l (n + 1) : Int)) = true := by simp; omega
        have D5 : decide ((at16 l (n + 1) : Int) < 57344) = true := by simp; omega
        have hcn : (n : Int) + 1 < (l.length : Int) / 2 := by omega
        have E9 := Lib.hid (show ((65536 : Int) + ((at16 l n : Int) - 55296) * 1024 + (at16 l (n + 1) : Int) - 56320).toNat = 65536 + (at16 l n - 55296) * 1024 + at16 l (n + 1) - 56320 by omega)
        have g1 : (55296 : Int) ≤ at16 l n := by omega
        have g2 : (at16 l n : Int) ≤ 56319 := by omega
        have g3 : (56320 : Int) ≤ at16 l (n + 1) := by omega
        have g4 : (at16 l (n + 1) : Int) ≤ 57343 := by omega
        clear hcc
        go_wp2_with (first | (go_at_call 18; refine (length_any _ _ (by omega)).mono ?_; rintro e w' ⟨rfl, rfl⟩))
        refine (at_in _ _ _ (by omega) (by omega)).mono ?_
        rintro e w1 ⟨rfl, hp1⟩
        go_wp2_with fail
        refine (at_in _ (n + 1) _ (by omega) (by omega)).mono ?_
        rintro e w2 ⟨rfl, hp2⟩
        go_wp2_with fail
        refine (appendRune_own w.heap.size _ acc _ _ (by omega) (by rw [E9.out]; exact hok) (ownsRow_pur (ownsRow_pur hown hp1) hp2) (by omega) ((hpr.trans hp1).trans hp2).size).mono ?_
        rintro e w9 ⟨v9, rfl, hown9, hb9⟩
        rw [E9.out] at hown9
        go_wp2
        go_roundw
        case rel =>
          refine ⟨n + 2, acc ++ enc (65536 + (at16 l n - 55296) * 1024 + at16 l (n + 1) - 56320), by omega, by go_num, by have := enc_length_le (65536 + (at16 l n - 55296) * 1024 + at16 l (n + 1) - 56320); rw [List.length_append]; omega, hown9, ((hpr.trans hp1).trans hp2).trans' hb9, Lib.hid ?_⟩
          rw [H.out, HG.out, HQ.out]
        case measure => simp [intOf]; omega
      · have hq : nst l n = (65533, 1) := by rw [nst, if_neg (by omega), if_pos (by omega)]
        rw [hq] at hend hok
        have HQ := Lib.hid hq
        clear hq
        have D1 : decide (55296 ≤ (at16 l n : Int)) = true := by simp; omega
        have D2 : decide ((at16 l n : Int) < 57344) = true := by simp; omega
        have D3 : decide ((at16 l n : Int) < 56320) = true := by simp; omega
        have hcn : (l.length : Int) / 2 ≤ (n : Int) + 1 := by omega
        clear hcc
        go_wp2_with (first | (go_at_call 18; refine (length_any _ _ (by omega)).mono ?_; rintro e w' ⟨rfl, rfl⟩))
        refine (at_in _ _ _ (by omega) (by omega)).mono ?_
        rintro e w1 ⟨rfl, hp1⟩
        go_wp2_with fail
        refine (at_out _ _ _ (by omega) (by omega)).mono ?_
        rintro e w2 ⟨rfl, hp2⟩
        go_wp2_with fail
        refine (appendRune_own w.heap.size _ acc _ _ (by omega) (by first | exact hok | (rw [show (_ : Int).toNat = 65533 from by omega]; exact hok)) (ownsRow_pur (ownsRow_pur hown hp1) hp2) (by omega) ((hpr.trans hp1).trans hp2).size).mono ?_
        rintro e w9 ⟨v9, rfl, hown9, hb9⟩
        rw [show (_ : Int).toNat = 65533 from by omega] at hown9
        go_wp2
        go_roundw
        case rel =>
          refine ⟨n + 1, acc ++ enc (65533), by omega, by go_num, by have := enc_length_le (65533); rw [List.length_append]; omega, hown9, ((hpr.trans hp1).trans hp2).trans' hb9, Lib.hid ?_⟩
          rw [H.out, HG.out, HQ.out]
        case measure => simp [intOf]; omega
      · have hq : nst l n = (65533, 1) := by rw [nst, if_neg (by omega), if_pos (by omega)]
        rw [hq] at hend hok
        have HQ := Lib.hid hq
        clear hq
        have D1 : decide (55296 ≤ (at16 l n : Int)) = true := by simp; omega
        have D2 : decide ((at16 l n : Int) < 57344) = true := by simp; omega
        have D3 : decide ((at16 l n : Int) < 56320) = true := by simp; omega
        have D4 : decide (56320 ≤ (at16 l (n + 1) : Int)) = false := by simp; omega
        have hcn : (n : Int) + 1 < (l.length : Int) / 2 := by omega
        clear hcc
        go_wp2_with (first | (go_at_call 18; refine (length_any _ _ (by omega)).mono ?_; rintro e w' ⟨rfl, rfl⟩))
        refine (at_in _ _ _ (by omega) (by omega)).mono ?_
        rintro e w1 ⟨rfl, hp1⟩
        go_wp2_with fail
        refine (at_in _ (n + 1) _ (by omega) (by omega)).mono ?_
        rintro e w2 ⟨rfl, hp2⟩
        go_wp2_with fail
        refine (appendRune_own w.heap.size _ acc _ _ (by omega) (by first | exact hok | (rw [show (_ : Int).toNat = 65533 from by omega]; exact hok)) (ownsRow_pur (ownsRow_pur hown hp1) hp2) (by omega) ((hpr.trans hp1).trans hp2).size).mono ?_
        rintro e w9 ⟨v9, rfl, hown9, hb9⟩
        rw [show (_ : Int).toNat = 65533 from by omega] at hown9
        go_wp2
        go_roundw
        case rel =>
          refine ⟨n + 1, acc ++ enc (65533), by omega, by go_num, by have := enc_length_le (65533); rw [List.length_append]; omega, hown9, ((hpr.trans hp1).trans hp2).trans' hb9, Lib.hid ?_⟩
          rw [H.out, HG.out, HQ.out]
        case measure => simp [intOf]; omega
      · have hq : nst l n = (65533, 1) := by rw [nst, if_neg (by omega), if_pos (by omega)]
        rw [hq] at hend hok
        have HQ := Lib.hid hq
        clear hq
        have D1 : decide (55296 ≤ (at16 l n : Int)) = true := by simp; omega
        have D2 : decide ((at16 l n : Int) < 57344) = true := by simp; omega
        have D3 : decide ((at16 l n : Int) < 56320) = true := by simp; omega
        have D4 : decide (56320 ≤ (at16 l (n + 1) : Int)) = true := by simp; omega
        have D5 : decide ((at16 l (n + 1) : Int) < 57344) = false := by simp; omega
        have hcn : (n : Int) + 1 < (l.length : Int) / 2 := by omega
        clear hcc
        go_wp2_with (first | (go_at_call 18; refine (length_any _ _ (by omega)).mono ?_; rintro e w' ⟨rfl, rfl⟩))
        refine (at_in _ _ _ (by omega) (by omega)).mono ?_
        rintro e w1 ⟨rfl, hp1⟩
        go_wp2_with fail
        refine (at_in _ (n + 1) _ (by omega) (by omega)).mono ?_
        rintro e w2 ⟨rfl, hp2⟩
        go_wp2_with fail
        refine (appendRune_own w.heap.size _ acc _ _ (by omega) (by first | exact hok | (rw [show (_ : Int).toNat = 65533 from by omega]; exact hok)) (ownsRow_pur (ownsRow_pur hown hp1) hp2) (by omega) ((hpr.trans hp1).trans hp2).size).mono ?_
        rintro e w9 ⟨v9, rfl, hown9, hb9⟩
        rw [show (_ : Int).toNat = 65533 from by omega] at hown9
        go_wp2
        go_roundw
        case rel =>
          refine ⟨n + 1, acc ++ enc (65533), by omega, by go_num, by have := enc_length_le (65533); rw [List.length_append]; omega, hown9, ((hpr.trans hp1).trans hp2).trans' hb9, Lib.hid ?_⟩
          rw [H.out, HG.out, HQ.out]
        case measure => simp [intOf]; omega
      · have hq : nst l n = (65533, 1) := by rw [nst, if_neg (by omega), if_pos (by omega)]
        rw [hq] at hend hok
        have HQ := Lib.hid hq
        clear hq
        have D1 : decide (55296 ≤ (at16 l n : Int)) = true := by simp; omega
        have D2 : decide ((at16 l n : Int) < 57344) = true := by simp; omega
        have D3 : decide ((at16 l n : Int) < 56320) = false := by simp; omega
        have hcn : (n : Int) + 1 < (l.length : Int) / 2 := by omega
        clear hcc
        go_wp2_with (first | (go_at_call 18; refine (length_any _ _ (by omega)).mono ?_; rintro e w' ⟨rfl, rfl⟩))
        refine (at_in _ _ _ (by omega) (by omega)).mono ?_
        rintro e w1 ⟨rfl, hp1⟩
        go_wp2_with fail
        refine (at_in _ (n + 1) _ (by omega) (by omega)).mono ?_
        rintro e w2 ⟨rfl, hp2⟩
        go_wp2_with fail
        refine (appendRune_own w.heap.size _ acc _ _ (by omega) (by first | exact hok | (rw [show (_ : Int).toNat = 65533 from by omega]; exact hok)) (ownsRow_pur (ownsRow_pur hown hp1) hp2) (by omega) ((hpr.trans hp1).trans hp2).size).mono ?_
        rintro e w9 ⟨v9, rfl, hown9, hb9⟩
        rw [show (_ : Int).toNat = 65533 from by omega] at hown9
        go_wp2
        go_roundw
        case rel =>
          refine ⟨n + 1, acc ++ enc (65533), by omega, by go_num, by have := enc_length_le (65533); rw [List.length_append]; omega, hown9, ((hpr.trans hp1).trans hp2).trans' hb9, Lib.hid ?_⟩
          rw [H.out, HG.out, HQ.out]
        case measure => simp [intOf]; omega
      · have hq : nst l n = (65533, 1) := by rw [nst, if_neg (by omega), if_pos (by omega)]
        rw [hq] at hend hok
        have HQ := Lib.hid hq
        clear hq
        have D1 : decide (55296 ≤ (at16 l n : Int)) = true := by simp; omega
        have D2 : decide ((at16 l n : Int) < 57344) = true := by simp; omega
        have D3 : decide ((at16 l n : Int) < 56320) = false := by simp; omega
        have hcn : (l.length : Int) / 2 ≤ (n : Int) + 1 := by omega
        clear hcc
        go_wp2_with (first | (go_at_call 18; refine (length_any _ _ (by omega)).mono ?_; rintro e w' ⟨rfl, rfl⟩))
        refine (at_in _ _ _ (by omega) (by omega)).mono ?_
        rintro e w1 ⟨rfl, hp1⟩
        go_wp2_with fail
        refine (at_out _ _ _ (by omega) (by omega)).mono ?_
        rintro e w2 ⟨rfl, hp2⟩
        go_wp2_with fail
        refine (appendRune_own w.heap.size _ acc _ _ (by omega) (by first | exact hok | (rw [show (_ : Int).toNat = 65533 from by omega]; exact hok)) (ownsRow_pur (ownsRow_pur hown hp1) hp2) (by omega) ((hpr.trans hp1).trans hp2).size).mono ?_
        rintro e w9 ⟨v9, rfl, hown9, hb9⟩
        rw [show (_ : Int).toNat = 65533 from by omega] at hown9
        go_wp2
        go_roundw
        case rel =>
          refine ⟨n + 1, acc ++ enc (65533), by omega, by go_num, by have := enc_length_le (65533); rw [List.length_append]; omega, hown9, ((hpr.trans hp1).trans hp2).trans' hb9, Lib.hid ?_⟩
          rw [H.out, HG.out, HQ.out]
        case measure => simp [intOf]; omega
    · obtain rfl : n = l.length / 2 := by omega
      have hstr := run_str_of_own (P := Tryd.prog) wr 53 9 5 w.heap.size _ acc.length acc rfl Tryd.underlying53 Tryd.underlying5 Tryd.underlying9 hown
      clear hown
      go_wp2_with (first | (go_at_call 18; refine (length_any _ _ (by omega)).mono ?_; rintro e w' ⟨rfl, rfl⟩))
      go_ret2
      refine ⟨?_, hpr⟩
      rw [HN.out, H.out, narGo, if_neg (by omega)]
      rfl
end Go.Proofs.YtipnlgcicdnhdaaDoor
