/- The five laws of layer 16: each returns true. -/
import Derived.Test.YtjbfkalkcopapaaDoorRt14
namespace Go.Proofs.YtjbfkalkcopapaaDoor
open Go Go.RowKit
set_option linter.all false
theorem find_lit (t typ : Bytes) (r : Adr × Int) (h : rtFind t typ = r) (hs : t.length ≤ 1000000000) (w : World) (hW : RW w) :
    Calls Tryd.prog 9 #[.string ⟨t.toArray⟩, .string ⟨typ.toArray⟩] w fun e w' => e = .returned (.tuple #[.agg #[.int .i64 r.1.kind, .string ⟨r.1.id.toArray⟩, .string ⟨r.1.host.toArray⟩, .int .i64 r.1.port, .string ⟨r.1.path.toArray⟩], .int .i64 r.2]) ∧ Pur w w' := by
  subst h
  exact find_any t typ w hW hs
theorem write_lit (a : Adr) (r : Bytes × Int) (h : rtWrite a = r) (hi : a.id.length ≤ 100000000) (hh : a.host.length ≤ 100000000) (hq : a.path.length ≤ 100000000) (hp0 : -9223372036854775808 ≤ a.port) (hp1 : a.port ≤ 9223372036854775807) (w : World) (hW : RW w) :
    Calls Tryd.prog 15 #[.agg #[.int .i64 a.kind, .string ⟨a.id.toArray⟩, .string ⟨a.host.toArray⟩, .int .i64 a.port, .string ⟨a.path.toArray⟩]] w fun e w' => e = .returned (.tuple #[.string ⟨r.1.toArray⟩, .int .i64 r.2]) ∧ Pur w w' := by
  subst h
  exact write_any a w hW hi hh hq hp0 hp1
/-- a block that is known whole stays -/
theorem bk_lt {w : World} {b : Nat} {o : Obj} (h : w.heap[b]? = some o) : b < w.heap.size := (Array.getElem?_eq_some_iff.1 h).1
theorem bk_pur {w w' : World} {b : Nat} {o : Obj} (h : w.heap[b]? = some o) (hp : Pur w w') : w'.heap[b]? = some o := (hp.block b (bk_lt h)).trans h
theorem bk_alloc {w : World} {b : Nat} {o : Obj} (h : w.heap[b]? = some o) (o' : Obj) : (w.alloc o').heap[b]? = some o := bk_pur h ((Pur.refl w).alloc o')
theorem bk_new (w : World) (o : Obj) : (w.alloc o).heap[w.heap.size]? = some o := Array.getElem?_push_size
set_option maxRecDepth 100000 in
set_option maxHeartbeats 4000000 in
theorem awake_any (w : World) (hW : RW w) : Calls Tryd.prog 8 #[] w fun e w' => e = .returned (.bool true) ∧ Pur w w' := by
  have F1 := find_lit [35, 95, 115, 99, 120, 109, 108, 95, 115, 49] [] (⟨4, [115, 49], [], 0, []⟩, 0) (by decide +kernel) (by decide)
  have F2 := find_lit [104, 116, 116, 112, 58, 47, 47, 97, 46, 98, 58, 56, 48, 56, 48, 47, 115, 48] [98, 97, 115, 105, 99, 104, 116, 116, 112] (⟨6, [], [97, 46, 98], 8080, [47, 115, 48]⟩, 0) (by decide +kernel) (by decide)
  have F3 := find_lit [120] [] (⟨0, [], [], 0, []⟩, 190) (by decide +kernel) (by decide)
  have F4 := find_lit [] [111, 100, 100] (⟨0, [], [], 0, []⟩, 1) (by decide +kernel) (by decide)
  have W1 := write_lit ⟨6, [], [97, 46, 98], 8080, [47, 115, 48]⟩ ([104, 116, 116, 112, 58, 47, 47, 97, 46, 98, 58, 56, 48, 56, 48, 47, 115, 48], 0) (by decide +kernel) (by decide) (by decide) (by decide) (by decide) (by decide)
  have S1 := fun w => session_any [120] w (by decide)
  have P1 := fun w => page_any [104] [120] w (by decide) (by decide)
  go_enter Tryd.func8, Tryd.ntmps8
  go_wp2_with fail
  refine (F1 _ hW).mono ?_
  rintro e w1 ⟨rfl, h1⟩
  go_wp2_with fail
  refine (F2 _ (hW.pur (h1.alloc _))).mono ?_
  rintro e w2 ⟨rfl, h2⟩
  have j2 := bk_pur (bk_new _ _) h2
  have k2 := (h1.alloc _).trans h2
  go_wp2_with fail
  refine (F3 _ (hW.pur (k2.alloc _))).mono ?_
  rintro e w3 ⟨rfl, h3⟩
  have i3 := bk_pur (bk_new _ _) h3
  have j3 := bk_pur (bk_alloc j2 _) h3
  have k3 := (k2.alloc _).trans h3
  clear j2
  go_wp2_with fail
  refine (F4 _ (hW.pur (k3.alloc _))).mono ?_
  rintro e w4 ⟨rfl, h4⟩
  have i4 := bk_pur (bk_alloc i3 _) h4
  have j4 := bk_pur (bk_alloc j3 _) h4
  have k4 := (k3.alloc _).trans h4
  clear i3 j3
  obtain ⟨c0, c1, c2, c3, c4, f0, f1, f2, f3, f4⟩ := blk_facts i4
  have z4 := bk_lt i4
  have HI := Lib.hid i4
  have HJ := Lib.hid j4
  clear i4 j4
  go_wp2_with fail
  refine (W1 _ (hW.pur (k4.alloc _))).mono ?_
  rintro e w5 ⟨rfl, h5⟩
  clear c0 c1 c2 c3 c4 f0 f1 f2 f3 f4 z4
  obtain ⟨c0, c1, c2, c3, c4, f0, f1, f2, f3, f4⟩ := blk_facts (bk_pur (bk_alloc HI.out _) h5)
  obtain ⟨g0, g1, g2, g3, g4, e0, e1, e2, e3, e4⟩ := blk_facts (bk_pur (bk_alloc HJ.out _) h5)
  have K := Lib.hid ((k4.alloc _).trans h5)
  clear HI HJ h1 h2 h3 h4 h5 k2 k3 k4 hW F1 F2 F3 F4 W1
  go_wp2_with (first
    | (go_at_call 13; refine (S1 _).mono ?_; rintro e w' ⟨rfl, rfl⟩)
    | (go_at_call 14; refine (P1 _).mono ?_; rintro e w' ⟨rfl, rfl⟩))
  go_ret
  exact ⟨rfl, K.out⟩
set_option maxRecDepth 100000 in
set_option maxHeartbeats 4000000 in
theorem finds_law (t typ : Bytes) (w : World) (hW : RW w) (hs : t.length ≤ 100000000) (ht : typ.length ≤ 100000000) :
    Calls Tryd.prog 3 #[.string ⟨t.toArray⟩, .string ⟨typ.toArray⟩] w fun e w' => e = .returned (.bool true) ∧ Pur w w' := by
  have F := find_lit t typ _ rfl (by omega)
  have G := fun w => rfind_any t typ w (by omega)
  have P := fun w => processor_any typ w
  have Q := fun w => rprocessor_any typ w
  have S := fun w => session_any t w (by omega)
  have A := fun w => page_any typ t w (by omega) (by omega)
  generalize rtFind t typ = r at *
  obtain ⟨⟨k, i, h, p, q⟩, n⟩ := r
  have te : adrEq ⟨k, i, h, p, q⟩ ⟨k, i, h, p, q⟩ = true := by simp [adrEq]
  simp only [adrV] at G
  generalize processor typ = pt at *
  go_enter Tryd.func3, Tryd.ntmps3
  go_wp2_with fail
  refine (awake_any _ hW).mono ?_
  rintro e w0 ⟨rfl, h0⟩
  go_wp2_with fail
  refine (F _ (hW.pur h0)).mono ?_
  rintro e w1 ⟨rfl, h1⟩
  go_wp2_with fail
  refine (G _).mono ?_
  rintro e w2 ⟨rfl, h2⟩
  have j2 := bk_pur (bk_new _ _) h2
  have z2 := bk_lt j2
  obtain ⟨c0, c1, c2, c3, c4, f0, f1, f2, f3, f4⟩ := blk_facts j2
  have K := Lib.hid (((h0.trans h1).alloc _).trans h2)
  clear h0 h1 h2 j2 F G hW
  go_wp2_with (first
    | (go_at_call 11; refine (P _).mono ?_; rintro e w' ⟨rfl, rfl⟩)
    | (go_at_call 12; refine (Q _).mono ?_; rintro e w' ⟨rfl, rfl⟩)
    | (go_at_call 13; refine (S _).mono ?_; rintro e w' ⟨rfl, rfl⟩)
    | (go_at_call 14; refine (A _).mono ?_; rintro e w' ⟨rfl, rfl⟩))
  go_ret
  exact ⟨by first | rfl | simp [headS, headH], K.out.alloc _⟩
set_option maxRecDepth 100000 in
set_option maxHeartbeats 4000000 in
theorem writes_law (a : Adr) (w : World) (hW : RW w) (hi : a.id.length ≤ 100000000) (hh : a.host.length ≤ 100000000) (hq : a.path.length ≤ 100000000) (hp0 : -9223372036854775808 ≤ a.port) (hp1 : a.port ≤ 9223372036854775807) :
    Calls Tryd.prog 4 #[adrV a] w fun e w' => e = .returned (.bool true) ∧ Pur w w' := by
  have F := write_lit a _ rfl hi hh hq hp0 hp1
  have G := fun w => rwrite_any a w hi hh hq hp0 hp1
  generalize rtWrite a = r at *
  obtain ⟨s, n⟩ := r
  obtain ⟨k, i, h, p, q⟩ := a
  simp only [adrV] at *
  go_enter Tryd.func4, Tryd.ntmps4
  go_wp2_with fail
  refine (awake_any _ (hW.pur ((Pur.refl w).alloc _))).mono ?_
  rintro e w0 ⟨rfl, h0⟩
  obtain ⟨c0, c1, c2, c3, c4, f0, f1, f2, f3, f4⟩ := blk_facts (bk_pur (bk_new _ _) h0)
  go_wp2_with fail
  refine (F _ (hW.pur (((Pur.refl w).alloc _).trans h0))).mono ?_
  rintro e w1 ⟨rfl, h1⟩
  clear c0 c1 c2 c3 c4 f0 f1 f2 f3 f4
  obtain ⟨c0, c1, c2, c3, c4, f0, f1, f2, f3, f4⟩ := blk_facts (bk_pur (bk_pur (bk_new _ _) h0) h1)
  go_wp2_with fail
  refine (G _).mono ?_
  rintro e w2 ⟨rfl, h2⟩
  have K := Lib.hid (((((Pur.refl w).alloc _).trans h0).trans h1).trans h2)
  clear h0 h1 h2 F G hW c0 c1 c2 c3 c4 f0 f1 f2 f3 f4
  go_wp2
  go_ret
  exact ⟨by first | rfl | simp, K.out⟩
set_option maxRecDepth 100000 in
set_option maxHeartbeats 4000000 in
theorem apart_law (t : Bytes) (w : World) (hW : RW w) (hs : t.length ≤ 100000000) :
    Calls Tryd.prog 6 #[.string ⟨t.toArray⟩] w fun e w' => e = .returned (.bool true) ∧ Pur w w' := by
  have F := find_lit t nScxml _ rfl (by omega)
  have G := find_lit t nHttp _ rfl (by omega)
  have hor := apart t
  generalize rtFind t nScxml = r at *
  obtain ⟨⟨k, i, h, p, q⟩, n⟩ := r
  generalize rtFind t nHttp = r at *
  obtain ⟨⟨k', i', h', p', q'⟩, n'⟩ := r
  have hb : ((n != 0) = true) ∨ ((n != 0) = false ∧ (n' != 0) = true) := by
    simp only at hor
    by_cases hn : n = 0
    · exact .inr ⟨by simp [hn], by rcases hor with h | h; exact absurd hn h; simpa using h⟩
    · exact .inl (by simpa using hn)
  clear hor
  go_enter Tryd.func6, Tryd.ntmps6
  go_wp2_with fail
  refine (awake_any _ hW).mono ?_
  rintro e w0 ⟨rfl, h0⟩
  go_wp2_with fail
  refine (F _ (hW.pur h0)).mono ?_
  rintro e w1 ⟨rfl, h1⟩
  go_wp2_with fail
  refine (G _ (hW.pur ((h0.trans h1).alloc _))).mono ?_
  rintro e w2 ⟨rfl, h2⟩
  have K := Lib.hid (((h0.trans h1).alloc _).trans h2)
  clear h0 h1 h2 F G hW
  rcases hb with t1 | ⟨t1, t2⟩
  all_goals
    go_wp2
    go_ret
    exact ⟨rfl, K.out.alloc _⟩
theorem pathOf_len (s : Bytes) : (pathOf s).length ≤ s.length + 1 := by
  have := tw_len 47 s
  unfold pathOf
  split
  · simp
  · omega
theorem rtFind_len {t typ : Bytes} {b : Adr} {n : Int} (h : rtFind t typ = (b, n)) : b.id.length ≤ t.length ∧ b.host.length ≤ t.length ∧ b.path.length ≤ t.length + 1 ∧ 0 ≤ b.port ∧ b.port ≤ 65535 := by
  have hz : Adr.zero.id.length ≤ t.length ∧ Adr.zero.host.length ≤ t.length ∧ Adr.zero.path.length ≤ t.length + 1 ∧ 0 ≤ Adr.zero.port ∧ Adr.zero.port ≤ 65535 := ⟨Nat.zero_le _, Nat.zero_le _, Nat.zero_le _, by decide, by decide⟩
  unfold rtFind at h
  split at h
  · cases hi : internal t with
    | none => rw [hi] at h; obtain ⟨rfl, _⟩ := Prod.mk.inj h; exact hz
    | some c =>
      rw [hi] at h
      obtain ⟨rfl, _⟩ := Prod.mk.inj h
      unfold internal at hi
      repeat' split at hi
      all_goals first
        | (obtain rfl := Option.some.inj hi; simp)
        | cases hi
  · split at h
    · cases hi : url t with
      | none => rw [hi] at h; obtain ⟨rfl, _⟩ := Prod.mk.inj h; exact hz
      | some c =>
        rw [hi] at h
        obtain ⟨rfl, _⟩ := Prod.mk.inj h
        obtain ⟨h1, h2, h3, h4, h5, h6, h7, h8, h9, h10, h11⟩ := url_shape hi
        have a1 := tw_len 47 (t.drop 7)
        have a2 := tw_len 58 (hp (t.drop 7))
        have a3 := pathOf_len (t.drop 7)
        have a4 : (hp (t.drop 7)).length ≤ (t.drop 7).length := by unfold hp; omega
        have a5 : (hostOf (hp (t.drop 7))).length ≤ (hp (t.drop 7)).length := by unfold hostOf; omega
        rw [List.length_drop] at a3 a4
        refine ⟨by rw [h2]; exact Nat.zero_le _, by rw [h8]; omega, by rw [h9]; omega, by omega, by omega⟩
    · obtain ⟨rfl, _⟩ := Prod.mk.inj h; exact hz
theorem itoa_len (p : Int) (hp0 : -9223372036854775808 ≤ p) (hp1 : p ≤ 9223372036854775807) : (Lib.itoa p).length ≤ 20 := by
  unfold Lib.itoa
  split
  · have := dec_len p.natAbs (by omega)
    simp; omega
  · have := dec_len p.toNat (by omega)
    omega
theorem rtWrite_len (a : Adr) (hp0 : -9223372036854775808 ≤ a.port) (hp1 : a.port ≤ 9223372036854775807) : (rtWrite a).1.length ≤ a.id.length + a.host.length + a.path.length + 50 := by
  have hl := itoa_len a.port hp0 hp1
  unfold rtWrite
  cases h : adrText a with
  | none => exact Nat.zero_le _
  | some x =>
    obtain ⟨s, typ⟩ := x
    simp only
    have hs : s.length ≤ a.id.length + a.host.length + a.path.length + 50 := by
      unfold adrText at h
      have e1 : tInternal.length = 10 := rfl
      have e2 : tParent.length = 8 := rfl
      have e3 : headS.length = 8 := rfl
      have e4 : headI.length = 2 := rfl
      have e5 : headH.length = 7 := rfl
      have hpt : (portText a.port).length ≤ 21 := by
        unfold portText
        split
        · simp
        · simp; omega
      repeat' split at h
      all_goals first
        | (obtain ⟨rfl, _⟩ := Prod.mk.inj (Option.some.inj h); simp only [List.length_append, List.length_nil, e1, e2, e3, e4, e5]; omega)
        | cases h
    split
    · exact hs
    · exact Nat.zero_le _
set_option maxRecDepth 100000 in
set_option maxHeartbeats 4000000 in
theorem back_law (t typ : Bytes) (a : Adr) (w : World) (hW : RW w) (hs : t.length ≤ 10000000) (hi : a.id.length ≤ 10000000) (hh : a.host.length ≤ 10000000) (hq : a.path.length ≤ 10000000) (hp0 : -9223372036854775808 ≤ a.port) (hp1 : a.port ≤ 9223372036854775807) :
    Calls Tryd.prog 5 #[.string ⟨t.toArray⟩, .string ⟨typ.toArray⟩, adrV a] w fun e w' => e = .returned (.bool true) ∧ Pur w w' := by
  have F1 := find_lit t typ _ rfl (by omega)
  have W2 := write_lit a _ rfl (by omega) (by omega) (by omega) hp0 hp1
  have hw2 := write_cases a
  have hl2 := rtWrite_len a hp0 hp1
  rcases hr : rtFind t typ with ⟨b, n⟩
  have hb := rtFind_len hr
  rw [hr] at F1
  by_cases hn : n = 0
  · subst hn
    obtain ⟨s, e1, e2⟩ := find_write hr
    have W1 := write_lit b _ e1 (by omega) (by omega) (by omega) (by omega) (by omega)
    have hl1 := rtWrite_len b (by omega) (by omega)
    rw [e1] at hl1
    have F2 := find_lit s typ _ e2 (by simp only at hl1; omega)
    clear e1 e2 hr hl1 hb
    obtain ⟨bk, bi, bh, bp, bq⟩ := b
    obtain ⟨k, i, h, p, q⟩ := a
    have tb : adrEq ⟨bk, bi, bh, bp, bq⟩ ⟨bk, bi, bh, bp, bq⟩ = true := by simp [adrEq]
    have ta : adrEq ⟨k, i, h, p, q⟩ ⟨k, i, h, p, q⟩ = true := by simp [adrEq]
    simp only [adrV] at *
    go_enter Tryd.func5, Tryd.ntmps5
    go_wp2_with fail
    refine (awake_any _ (hW.pur ((Pur.refl w).alloc _))).mono ?_
    rintro e w0 ⟨rfl, h0⟩
    go_wp2_with fail
    refine (F1 _ (hW.pur (((Pur.refl w).alloc _).trans h0))).mono ?_
    rintro e w1 ⟨rfl, h1⟩
    have hA := h0.trans h1
    go_wp2_with fail
    refine (W1 _ (hW.pur ((((Pur.refl w).alloc _).trans hA).alloc _))).mono ?_
    rintro e w2 ⟨rfl, h2⟩
    have hB := (hA.alloc _).trans h2
    have b2 := bk_pur (bk_new _ _) h2
    go_wp2_with fail
    refine (F2 _ (hW.pur (((Pur.refl w).alloc _).trans hB))).mono ?_
    rintro e w3 ⟨rfl, h3⟩
    have hX := hB.trans h3
    have b3 := bk_pur b2 h3
    have z3 := bk_lt b3
    obtain ⟨c0, c1, c2, c3, c4, f0, f1, f2, f3, f4⟩ := blk_facts b3
    have hY := hX.alloc (.cells #[.int .i64 bk, .string ⟨bi.toArray⟩, .string ⟨bh.toArray⟩, .int .i64 bp, .string ⟨bq.toArray⟩] 24)
    clear F1 W1 F2 b2 b3
    obtain ⟨g0, g1, g2, g3, g4, e0, e1, e2, e3, e4⟩ := blk_facts (bk_pur (bk_new w _) hX)
    have zX := bk_lt (bk_pur (bk_new w _) hX)
    rcases hw2 with ew | ⟨s2, ew, ef⟩
    · rw [ew] at W2
      go_wp2_with fail
      refine (W2 _ (hW.pur (((Pur.refl w).alloc _).trans hY))).mono ?_
      rintro e w5 ⟨rfl, h5⟩
      have K := Lib.hid ((((Pur.refl w).alloc _).trans hY).trans h5)
      clear W2 hW hX hY h5 c0 c1 c2 c3 c4 f0 f1 f2 f3 f4
      go_wp2
      go_ret
      exact ⟨rfl, K.out⟩
    · rw [ew] at W2 hl2
      have F3 := find_lit s2 _ _ ef (by simp only at hl2; omega)
      go_wp2_with fail
      refine (W2 _ (hW.pur (((Pur.refl w).alloc _).trans hY))).mono ?_
      rintro e w5 ⟨rfl, h5⟩
      clear c0 c1 c2 c3 c4 f0 f1 f2 f3 f4
      have hZ := hY.trans h5
      obtain ⟨c0, c1, c2, c3, c4, f0, f1, f2, f3, f4⟩ := blk_facts (bk_pur (bk_new w _) hZ)
      have zZ := bk_lt (bk_pur (bk_new w _) hZ)
      by_cases h6 : k = 6
      focus
        rw [if_pos h6] at F3
        have j6 : (k == 6) = true := by simpa using h6
      rotate_left
      focus
        rw [if_neg h6] at F3
        have j6 : (k == 6) = false := by simpa using h6
      all_goals
        clear h6 ef ew
        go_wp2_with fail
        refine (F3 _ (hW.pur (((Pur.refl w).alloc _).trans hZ))).mono ?_
        rintro e w6 ⟨rfl, h6⟩
        clear c0 c1 c2 c3 c4 f0 f1 f2 f3 f4
        have hU := hZ.trans h6
        obtain ⟨c0, c1, c2, c3, c4, f0, f1, f2, f3, f4⟩ := blk_facts (bk_pur (bk_new w _) hU)
        have zU := bk_lt (bk_pur (bk_new w _) hU)
        have K := Lib.hid (((Pur.refl w).alloc _).trans hU)
        clear hX hY hZ hU h5 h6 W2 F3 hW
        go_wp2
        go_ret
        exact ⟨rfl, K.out.alloc _⟩
  · have hn' : (n == 0) = false := by simpa using hn
    clear hn hr hb
    obtain ⟨bk, bi, bh, bp, bq⟩ := b
    obtain ⟨k, i, h, p, q⟩ := a
    have ta : adrEq ⟨k, i, h, p, q⟩ ⟨k, i, h, p, q⟩ = true := by simp [adrEq]
    simp only [adrV] at *
    go_enter Tryd.func5, Tryd.ntmps5
    go_wp2_with fail
    refine (awake_any _ (hW.pur ((Pur.refl w).alloc _))).mono ?_
    rintro e w0 ⟨rfl, h0⟩
    go_wp2_with fail
    refine (F1 _ (hW.pur (((Pur.refl w).alloc _).trans h0))).mono ?_
    rintro e w1 ⟨rfl, h1⟩
    have hX := h0.trans h1
    have hY := hX.alloc (.cells #[.int .i64 bk, .string ⟨bi.toArray⟩, .string ⟨bh.toArray⟩, .int .i64 bp, .string ⟨bq.toArray⟩] 24)
    clear F1
    obtain ⟨c0, c1, c2, c3, c4, f0, f1, f2, f3, f4⟩ := blk_facts (bk_pur (bk_new w _) hX)
    have zX := bk_lt (bk_pur (bk_new w _) hX)
    rcases hw2 with ew | ⟨s2, ew, ef⟩
    · rw [ew] at W2
      go_wp2_with fail
      refine (W2 _ (hW.pur (((Pur.refl w).alloc _).trans hY))).mono ?_
      rintro e w5 ⟨rfl, h5⟩
      have K := Lib.hid ((((Pur.refl w).alloc _).trans hY).trans h5)
      clear W2 hW hX hY h5 c0 c1 c2 c3 c4 f0 f1 f2 f3 f4
      go_wp2
      go_ret
      exact ⟨rfl, K.out⟩
    · rw [ew] at W2 hl2
      have F3 := find_lit s2 _ _ ef (by simp only at hl2; omega)
      go_wp2_with fail
      refine (W2 _ (hW.pur (((Pur.refl w).alloc _).trans hY))).mono ?_
      rintro e w5 ⟨rfl, h5⟩
      clear c0 c1 c2 c3 c4 f0 f1 f2 f3 f4
      have hZ := hY.trans h5
      obtain ⟨c0, c1, c2, c3, c4, f0, f1, f2, f3, f4⟩ := blk_facts (bk_pur (bk_new w _) hZ)
      have zZ := bk_lt (bk_pur (bk_new w _) hZ)
      by_cases h6 : k = 6
      focus
        rw [if_pos h6] at F3
        have j6 : (k == 6) = true := by simpa using h6
      rotate_left
      focus
        rw [if_neg h6] at F3
        have j6 : (k == 6) = false := by simpa using h6
      all_goals
        clear h6 ef ew
        go_wp2_with fail
        refine (F3 _ (hW.pur (((Pur.refl w).alloc _).trans hZ))).mono ?_
        rintro e w6 ⟨rfl, h6⟩
        clear c0 c1 c2 c3 c4 f0 f1 f2 f3 f4
        have hU := hZ.trans h6
        obtain ⟨c0, c1, c2, c3, c4, f0, f1, f2, f3, f4⟩ := blk_facts (bk_pur (bk_new w _) hU)
        have zU := bk_lt (bk_pur (bk_new w _) hU)
        have K := Lib.hid (((Pur.refl w).alloc _).trans hU)
        clear hX hY hZ hU h5 h6 W2 F3 hW
        go_wp2
        go_ret
        exact ⟨rfl, K.out.alloc _⟩
end Go.Proofs.YtjbfkalkcopapaaDoor
