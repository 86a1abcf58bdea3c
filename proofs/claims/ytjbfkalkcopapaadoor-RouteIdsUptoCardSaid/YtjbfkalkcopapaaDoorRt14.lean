/- Write, both. -/
import Derived.Test.YtjbfkalkcopapaaDoorRt13
import Derived.Test.YtjbfkalkcopapaaDoorRtEq
namespace Go.Proofs.YtjbfkalkcopapaaDoor
open Go Go.RowKit
set_option linter.all false
set_option maxRecDepth 100000 in
set_option maxHeartbeats 8000000 in
theorem write_any (a : Adr) (w : World) (hW : RW w) (hi : a.id.length ≤ 100000000) (hh : a.host.length ≤ 100000000) (hq : a.path.length ≤ 100000000) (hp0 : -9223372036854775808 ≤ a.port) (hp1 : a.port ≤ 9223372036854775807) :
    Calls Tryd.prog 15 #[adrV a] w fun e w' => e = .returned (.tuple #[.string ⟨(rtWrite a).1.toArray⟩, .int .i64 (rtWrite a).2]) ∧ Pur w w' := by
  obtain ⟨k, i, h, p, q⟩ := a
  simp only [adrV] at *
  by_cases k1 : k = 1
  · subst k1
    obtain ⟨s, hS⟩ : ∃ s : Bytes, s = [] := ⟨_, rfl⟩
    have hlen : s.length ≤ 1000000000 := by
      rw [hS]
      simp [tInternal, tParent, headS, headI, headH]
    have hT : rtWrite ⟨1, i, h, p, q⟩ = if rtFind s [] = (⟨1, i, h, p, q⟩, 0) then (s, 0) else ([], 190) := by
      rw [hS, rtWrite]
      first | rfl | (simp [adrText, portText])
    rw [hT]
    clear hT
    have Fd := fun w hW => find_any s [] w hW hlen
    rw [hS] at Fd ⊢
    clear hS hlen
    generalize rtFind ([]) [] = r at *
    obtain ⟨⟨k', i', h', p', q'⟩, n⟩ := r
    simp only [adrV] at Fd
    obtain ⟨b1, t1⟩ : ∃ b1, (n != 0) = b1 := ⟨_, rfl⟩
    obtain ⟨b2, t2⟩ : ∃ b2, adrEq ⟨k', i', h', p', q'⟩ ⟨1, i, h, p, q⟩ = b2 := ⟨_, rfl⟩
    have hR : (if ((⟨k', i', h', p', q'⟩ : Adr), n) = (⟨1, i, h, p, q⟩, 0) then (([] : Bytes), (0 : Int)) else ([], 190)) = if b1 || !b2 then ([], 190) else ([], 0) := by
      subst t1 t2
      unfold adrEq
      by_cases hn : n = 0
      · subst hn
        by_cases ha : (⟨k', i', h', p', q'⟩ : Adr) = ⟨1, i, h, p, q⟩
        · rw [if_pos (by rw [ha]), decide_eq_true ha]; rfl
        · rw [if_neg (fun e => ha (congrArg Prod.fst e)), decide_eq_false ha]; rfl
      · rw [if_neg (fun e => hn (congrArg Prod.snd e)), if_pos (by simp [hn])]
    rw [hR]
    clear hR
    go_enter Tryd.func15, Tryd.ntmps15
    go_wp2_with fail
    refine (Fd _ (hW.pur ((Pur.refl w).alloc _))).mono ?_
    rintro e w2 ⟨rfl, hpA⟩
    obtain ⟨c0, c1, c2, c3, c4, f0, f1, f2, f3, f4⟩ := blk_facts (own_blk hpA)
    have hz : w.heap.size < w2.heap.size := by have := hpA.size; simp at this; omega
    have HP := Lib.hid (((Pur.refl w).alloc _).trans hpA)
    have HB := Lib.hid (own_blk hpA)
    clear hpA Fd hW
    rcases b1 with _ | _ <;> rcases b2 with _ | _
    all_goals
      go_wp2
      go_ret2
      refine ⟨rfl, ?_⟩
      have hpu := HP.out
      repeat (first | with_reducible exact hpu | refine Pur.setCell ?_ (by simp) _ | refine Pur.alloc ?_ _)
  by_cases k2 : k = 2
  · subst k2
    obtain ⟨s, hS⟩ : ∃ s : Bytes, s = tInternal := ⟨_, rfl⟩
    have hlen : s.length ≤ 1000000000 := by
      rw [hS]
      simp [tInternal, tParent, headS, headI, headH]
    have hT : rtWrite ⟨2, i, h, p, q⟩ = if rtFind s [] = (⟨2, i, h, p, q⟩, 0) then (s, 0) else ([], 190) := by
      rw [hS, rtWrite]
      first | rfl | (simp [adrText, portText])
    rw [hT]
    clear hT
    have Fd := fun w hW => find_any s [] w hW hlen
    rw [hS] at Fd ⊢
    clear hS hlen
    generalize rtFind (tInternal) [] = r at *
    obtain ⟨⟨k', i', h', p', q'⟩, n⟩ := r
    simp only [adrV] at Fd
    obtain ⟨b1, t1⟩ : ∃ b1, (n != 0) = b1 := ⟨_, rfl⟩
    obtain ⟨b2, t2⟩ : ∃ b2, adrEq ⟨k', i', h', p', q'⟩ ⟨2, i, h, p, q⟩ = b2 := ⟨_, rfl⟩
    have hR : (if ((⟨k', i', h', p', q'⟩ : Adr), n) = (⟨2, i, h, p, q⟩, 0) then ((tInternal : Bytes), (0 : Int)) else ([], 190)) = if b1 || !b2 then ([], 190) else (tInternal, 0) := by
      subst t1 t2
      unfold adrEq
      by_cases hn : n = 0
      · subst hn
        by_cases ha : (⟨k', i', h', p', q'⟩ : Adr) = ⟨2, i, h, p, q⟩
        · rw [if_pos (by rw [ha]), decide_eq_true ha]; rfl
        · rw [if_neg (fun e => ha (congrArg Prod.fst e)), decide_eq_false ha]; rfl
      · rw [if_neg (fun e => hn (congrArg Prod.snd e)), if_pos (by simp [hn])]
    rw [hR]
    clear hR
    go_enter Tryd.func15, Tryd.ntmps15
    go_wp2_with fail
    refine (Fd _ (hW.pur ((Pur.refl w).alloc _))).mono ?_
    rintro e w2 ⟨rfl, hpA⟩
    obtain ⟨c0, c1, c2, c3, c4, f0, f1, f2, f3, f4⟩ := blk_facts (own_blk hpA)
    have hz : w.heap.size < w2.heap.size := by have := hpA.size; simp at this; omega
    have HP := Lib.hid (((Pur.refl w).alloc _).trans hpA)
    have HB := Lib.hid (own_blk hpA)
    clear hpA Fd hW
    rcases b1 with _ | _ <;> rcases b2 with _ | _
    all_goals
      go_wp2
      go_ret2
      refine ⟨rfl, ?_⟩
      have hpu := HP.out
      repeat (first | with_reducible exact hpu | refine Pur.setCell ?_ (by simp) _ | refine Pur.alloc ?_ _)
  by_cases k3 : k = 3
  · subst k3
    obtain ⟨s, hS⟩ : ∃ s : Bytes, s = tParent := ⟨_, rfl⟩
    have hlen : s.length ≤ 1000000000 := by
      rw [hS]
      simp [tInternal, tParent, headS, headI, headH]
    have hT : rtWrite ⟨3, i, h, p, q⟩ = if rtFind s [] = (⟨3, i, h, p, q⟩, 0) then (s, 0) else ([], 190) := by
      rw [hS, rtWrite]
      first | rfl | (simp [adrText, portText])
    rw [hT]
    clear hT
    have Fd := fun w hW => find_any s [] w hW hlen
    rw [hS] at Fd ⊢
    clear hS hlen
    generalize rtFind (tParent) [] = r at *
    obtain ⟨⟨k', i', h', p', q'⟩, n⟩ := r
    simp only [adrV] at Fd
    obtain ⟨b1, t1⟩ : ∃ b1, (n != 0) = b1 := ⟨_, rfl⟩
    obtain ⟨b2, t2⟩ : ∃ b2, adrEq ⟨k', i', h', p', q'⟩ ⟨3, i, h, p, q⟩ = b2 := ⟨_, rfl⟩
    have hR : (if ((⟨k', i', h', p', q'⟩ : Adr), n) = (⟨3, i, h, p, q⟩, 0) then ((tParent : Bytes), (0 : Int)) else ([], 190)) = if b1 || !b2 then ([], 190) else (tParent, 0) := by
      subst t1 t2
      unfold adrEq
      by_cases hn : n = 0
      · subst hn
        by_cases ha : (⟨k', i', h', p', q'⟩ : Adr) = ⟨3, i, h, p, q⟩
        · rw [if_pos (by rw [ha]), decide_eq_true ha]; rfl
        · rw [if_neg (fun e => ha (congrArg Prod.fst e)), decide_eq_false ha]; rfl
      · rw [if_neg (fun e => hn (congrArg Prod.snd e)), if_pos (by simp [hn])]
    rw [hR]
    clear hR
    go_enter Tryd.func15, Tryd.ntmps15
    go_wp2_with fail
    refine (Fd _ (hW.pur ((Pur.refl w).alloc _))).mono ?_
    rintro e w2 ⟨rfl, hpA⟩
    obtain ⟨c0, c1, c2, c3, c4, f0, f1, f2, f3, f4⟩ := blk_facts (own_blk hpA)
    have hz : w.heap.size < w2.heap.size := by have := hpA.size; simp at this; omega
    have HP := Lib.hid (((Pur.refl w).alloc _).trans hpA)
    have HB := Lib.hid (own_blk hpA)
    clear hpA Fd hW
    rcases b1 with _ | _ <;> rcases b2 with _ | _
    all_goals
      go_wp2
      go_ret2
      refine ⟨rfl, ?_⟩
      have hpu := HP.out
      repeat (first | with_reducible exact hpu | refine Pur.setCell ?_ (by simp) _ | refine Pur.alloc ?_ _)
  by_cases k4 : k = 4
  · subst k4
    obtain ⟨s, hS⟩ : ∃ s : Bytes, s = headS ++ i := ⟨_, rfl⟩
    have hlen : s.length ≤ 1000000000 := by
      rw [hS]
      simp [tInternal, tParent, headS, headI, headH]
      omega
    have hT : rtWrite ⟨4, i, h, p, q⟩ = if rtFind s [] = (⟨4, i, h, p, q⟩, 0) then (s, 0) else ([], 190) := by
      rw [hS, rtWrite]
      first | rfl | (simp [adrText, portText])
    rw [hT]
    clear hT
    have Fd := fun w hW => find_any s [] w hW hlen
    rw [hS] at Fd ⊢
    clear hS hlen
    generalize rtFind (headS ++ i) [] = r at *
    obtain ⟨⟨k', i', h', p', q'⟩, n⟩ := r
    simp only [adrV] at Fd
    obtain ⟨b1, t1⟩ : ∃ b1, (n != 0) = b1 := ⟨_, rfl⟩
    obtain ⟨b2, t2⟩ : ∃ b2, adrEq ⟨k', i', h', p', q'⟩ ⟨4, i, h, p, q⟩ = b2 := ⟨_, rfl⟩
    have hR : (if ((⟨k', i', h', p', q'⟩ : Adr), n) = (⟨4, i, h, p, q⟩, 0) then ((headS ++ i : Bytes), (0 : Int)) else ([], 190)) = if b1 || !b2 then ([], 190) else (headS ++ i, 0) := by
      subst t1 t2
      unfold adrEq
      by_cases hn : n = 0
      · subst hn
        by_cases ha : (⟨k', i', h', p', q'⟩ : Adr) = ⟨4, i, h, p, q⟩
        · rw [if_pos (by rw [ha]), decide_eq_true ha]; rfl
        · rw [if_neg (fun e => ha (congrArg Prod.fst e)), decide_eq_false ha]; rfl
      · rw [if_neg (fun e => hn (congrArg Prod.snd e)), if_pos (by simp [hn])]
    rw [hR]
    clear hR
    go_enter Tryd.func15, Tryd.ntmps15
    go_wp2_with fail
    refine (Fd _ (hW.pur ((Pur.refl w).alloc _))).mono ?_
    rintro e w2 ⟨rfl, hpA⟩
    obtain ⟨c0, c1, c2, c3, c4, f0, f1, f2, f3, f4⟩ := blk_facts (own_blk hpA)
    have hz : w.heap.size < w2.heap.size := by have := hpA.size; simp at this; omega
    have HP := Lib.hid (((Pur.refl w).alloc _).trans hpA)
    have HB := Lib.hid (own_blk hpA)
    clear hpA Fd hW
    rcases b1 with _ | _ <;> rcases b2 with _ | _
    all_goals
      go_wp2
      go_ret2
      refine ⟨rfl, ?_⟩
      have hpu := HP.out
      repeat (first | with_reducible exact hpu | refine Pur.setCell ?_ (by simp) _ | refine Pur.alloc ?_ _)
  by_cases k5 : k = 5
  · subst k5
    obtain ⟨s, hS⟩ : ∃ s : Bytes, s = headI ++ i := ⟨_, rfl⟩
    have hlen : s.length ≤ 1000000000 := by
      rw [hS]
      simp [tInternal, tParent, headS, headI, headH]
      omega
    have hT : rtWrite ⟨5, i, h, p, q⟩ = if rtFind s [] = (⟨5, i, h, p, q⟩, 0) then (s, 0) else ([], 190) := by
      rw [hS, rtWrite]
      first | rfl | (simp [adrText, portText])
    rw [hT]
    clear hT
    have Fd := fun w hW => find_any s [] w hW hlen
    rw [hS] at Fd ⊢
    clear hS hlen
    generalize rtFind (headI ++ i) [] = r at *
    obtain ⟨⟨k', i', h', p', q'⟩, n⟩ := r
    simp only [adrV] at Fd
    obtain ⟨b1, t1⟩ : ∃ b1, (n != 0) = b1 := ⟨_, rfl⟩
    obtain ⟨b2, t2⟩ : ∃ b2, adrEq ⟨k', i', h', p', q'⟩ ⟨5, i, h, p, q⟩ = b2 := ⟨_, rfl⟩
    have hR : (if ((⟨k', i', h', p', q'⟩ : Adr), n) = (⟨5, i, h, p, q⟩, 0) then ((headI ++ i : Bytes), (0 : Int)) else ([], 190)) = if b1 || !b2 then ([], 190) else (headI ++ i, 0) := by
      subst t1 t2
      unfold adrEq
      by_cases hn : n = 0
      · subst hn
        by_cases ha : (⟨k', i', h', p', q'⟩ : Adr) = ⟨5, i, h, p, q⟩
        · rw [if_pos (by rw [ha]), decide_eq_true ha]; rfl
        · rw [if_neg (fun e => ha (congrArg Prod.fst e)), decide_eq_false ha]; rfl
      · rw [if_neg (fun e => hn (congrArg Prod.snd e)), if_pos (by simp [hn])]
    rw [hR]
    clear hR
    go_enter Tryd.func15, Tryd.ntmps15
    go_wp2_with fail
    refine (Fd _ (hW.pur ((Pur.refl w).alloc _))).mono ?_
    rintro e w2 ⟨rfl, hpA⟩
    obtain ⟨c0, c1, c2, c3, c4, f0, f1, f2, f3, f4⟩ := blk_facts (own_blk hpA)
    have hz : w.heap.size < w2.heap.size := by have := hpA.size; simp at this; omega
    have HP := Lib.hid (((Pur.refl w).alloc _).trans hpA)
    have HB := Lib.hid (own_blk hpA)
    clear hpA Fd hW
    rcases b1 with _ | _ <;> rcases b2 with _ | _
    all_goals
      go_wp2
      go_ret2
      refine ⟨rfl, ?_⟩
      have hpu := HP.out
      repeat (first | with_reducible exact hpu | refine Pur.setCell ?_ (by simp) _ | refine Pur.alloc ?_ _)
  by_cases k6 : k = 6
  · subst k6
    by_cases h80 : p = 80
    · obtain ⟨s, hS⟩ : ∃ s : Bytes, s = headH ++ (h ++ q) := ⟨_, rfl⟩
      have hlen : s.length ≤ 1000000000 := by
        rw [hS]
        simp [tInternal, tParent, headS, headI, headH]
        omega
      have hT : rtWrite ⟨6, i, h, p, q⟩ = if rtFind s nHttp = (⟨6, i, h, p, q⟩, 0) then (s, 0) else ([], 190) := by
        rw [hS, rtWrite]
        rw [h80]
        first | rfl | (simp [adrText, portText])
      rw [hT]
      clear hT
      have Fd := fun w hW => find_any s nHttp w hW hlen
      rw [hS] at Fd ⊢
      clear hS hlen
      generalize rtFind (headH ++ (h ++ q)) nHttp = r at *
      obtain ⟨⟨k', i', h', p', q'⟩, n⟩ := r
      simp only [adrV] at Fd
      obtain ⟨b1, t1⟩ : ∃ b1, (n != 0) = b1 := ⟨_, rfl⟩
      obtain ⟨b2, t2⟩ : ∃ b2, adrEq ⟨k', i', h', p', q'⟩ ⟨6, i, h, p, q⟩ = b2 := ⟨_, rfl⟩
      have hR : (if ((⟨k', i', h', p', q'⟩ : Adr), n) = (⟨6, i, h, p, q⟩, 0) then ((headH ++ (h ++ q) : Bytes), (0 : Int)) else ([], 190)) = if b1 || !b2 then ([], 190) else (headH ++ (h ++ q), 0) := by
        subst t1 t2
        unfold adrEq
        by_cases hn : n = 0
        · subst hn
          by_cases ha : (⟨k', i', h', p', q'⟩ : Adr) = ⟨6, i, h, p, q⟩
          · rw [if_pos (by rw [ha]), decide_eq_true ha]; rfl
          · rw [if_neg (fun e => ha (congrArg Prod.fst e)), decide_eq_false ha]; rfl
        · rw [if_neg (fun e => hn (congrArg Prod.snd e)), if_pos (by simp [hn])]
      rw [hR]
      clear hR
      subst h80
      go_enter Tryd.func15, Tryd.ntmps15
      go_wp2_with fail
      refine (Fd _ (hW.pur ((Pur.refl w).alloc _))).mono ?_
      rintro e w2 ⟨rfl, hpA⟩
      obtain ⟨c0, c1, c2, c3, c4, f0, f1, f2, f3, f4⟩ := blk_facts (own_blk hpA)
      have hz : w.heap.size < w2.heap.size := by have := hpA.size; simp at this; omega
      have HP := Lib.hid (((Pur.refl w).alloc _).trans hpA)
      have HB := Lib.hid (own_blk hpA)
      clear hpA Fd hW
      rcases b1 with _ | _ <;> rcases b2 with _ | _
      all_goals
        go_wp2
        go_ret2
        refine ⟨rfl, ?_⟩
        have hpu := HP.out
        repeat (first | with_reducible exact hpu | refine Pur.setCell ?_ (by simp) _ | refine Pur.alloc ?_ _)
    · obtain ⟨s, hS⟩ : ∃ s : Bytes, s = headH ++ (h ++ 58 :: (Lib.itoa p ++ q)) := ⟨_, rfl⟩
      have hlen : s.length ≤ 1000000000 := by
        rw [hS]
        simp [tInternal, tParent, headS, headI, headH]
        have := dec_len p.natAbs (by omega)
        have e : (Lib.itoa p).length ≤ 20 := by
          unfold Lib.itoa
          split
          · simp; omega
          · have := dec_len p.toNat (by omega)
            omega
        omega
      have hT : rtWrite ⟨6, i, h, p, q⟩ = if rtFind s nHttp = (⟨6, i, h, p, q⟩, 0) then (s, 0) else ([], 190) := by
        rw [hS, rtWrite]
        simp only [adrText, portText, if_neg h80]
        simp
      rw [hT]
      clear hT
      have Fd := fun w hW => find_any s nHttp w hW hlen
      rw [hS] at Fd ⊢
      clear hS hlen
      generalize rtFind (headH ++ (h ++ 58 :: (Lib.itoa p ++ q))) nHttp = r at *
      obtain ⟨⟨k', i', h', p', q'⟩, n⟩ := r
      simp only [adrV] at Fd
      obtain ⟨b1, t1⟩ : ∃ b1, (n != 0) = b1 := ⟨_, rfl⟩
      obtain ⟨b2, t2⟩ : ∃ b2, adrEq ⟨k', i', h', p', q'⟩ ⟨6, i, h, p, q⟩ = b2 := ⟨_, rfl⟩
      have hR : (if ((⟨k', i', h', p', q'⟩ : Adr), n) = (⟨6, i, h, p, q⟩, 0) then ((headH ++ (h ++ 58 :: (Lib.itoa p ++ q)) : Bytes), (0 : Int)) else ([], 190)) = if b1 || !b2 then ([], 190) else (headH ++ (h ++ 58 :: (Lib.itoa p ++ q)), 0) := by
        subst t1 t2
        unfold adrEq
        by_cases hn : n = 0
        · subst hn
          by_cases ha : (⟨k', i', h', p', q'⟩ : Adr) = ⟨6, i, h, p, q⟩
          · rw [if_pos (by rw [ha]), decide_eq_true ha]; rfl
          · rw [if_neg (fun e => ha (congrArg Prod.fst e)), decide_eq_false ha]; rfl
        · rw [if_neg (fun e => hn (congrArg Prod.snd e)), if_pos (by simp [hn])]
      rw [hR]
      clear hR
      have n80 : (p != 80) = true := by simpa using h80
      clear h80
      go_enter Tryd.func15, Tryd.ntmps15
      go_wp2_with fail
      refine (itoa_any p _ (hW.pur ((Pur.refl w).alloc _)) hp0 hp1).mono ?_
      rintro e wi ⟨rfl, hpi⟩
      obtain ⟨c0, c1, c2, c3, c4, f0, f1, f2, f3, f4⟩ := blk_facts (own_blk hpi)
      have hlen : (Lib.itoa p).length ≤ 20 := by
        unfold Lib.itoa
        split
        · have := dec_len p.natAbs (by omega)
          simp; omega
        · have := dec_len p.toNat (by omega)
          omega
      go_wp2_with fail
      refine (Fd _ (hW.pur (((Pur.refl w).alloc _).trans hpi))).mono ?_
      rintro e w2 ⟨rfl, hp2⟩
      have hpA := hpi.trans hp2
      clear c0 c1 c2 c3 c4 f0 f1 f2 f3 f4 hlen hpi hp2
      obtain ⟨c0, c1, c2, c3, c4, f0, f1, f2, f3, f4⟩ := blk_facts (own_blk hpA)
      have hz : w.heap.size < w2.heap.size := by have := hpA.size; simp at this; omega
      have HP := Lib.hid (((Pur.refl w).alloc _).trans hpA)
      have HB := Lib.hid (own_blk hpA)
      clear hpA Fd hW
      rcases b1 with _ | _ <;> rcases b2 with _ | _
      all_goals
        go_wp2
        go_ret2
        refine ⟨rfl, ?_⟩
        have hpu := HP.out
        repeat (first | with_reducible exact hpu | refine Pur.setCell ?_ (by simp) _ | refine Pur.alloc ?_ _)
  have hT : rtWrite ⟨k, i, h, p, q⟩ = ([], 190) := by
    rw [rtWrite]
    simp only [adrText, if_neg k1, if_neg k2, if_neg k3, if_neg k4, if_neg k5, if_neg k6]
  rw [hT]
  clear hT
  have j1 : (k == 1) = false := by simpa using k1
  have j2 : (k == 2) = false := by simpa using k2
  have j3 : (k == 3) = false := by simpa using k3
  have j4 : (k == 4) = false := by simpa using k4
  have j5 : (k == 5) = false := by simpa using k5
  have j6 : (k == 6) = false := by simpa using k6
  clear k1 k2 k3 k4 k5 k6
  go_enter Tryd.func15, Tryd.ntmps15
  go_wp2
  go_ret2
  exact ⟨rfl, (Pur.refl w).alloc _⟩
set_option maxRecDepth 100000 in
set_option maxHeartbeats 8000000 in
theorem rwrite_any (a : Adr) (w : World) (hi : a.id.length ≤ 100000000) (hh : a.host.length ≤ 100000000) (hq : a.path.length ≤ 100000000) (hp0 : -9223372036854775808 ≤ a.port) (hp1 : a.port ≤ 9223372036854775807) :
    Calls Tryd.prog 16 #[adrV a] w fun e w' => e = .returned (.tuple #[.string ⟨(rtWrite a).1.toArray⟩, .int .i64 (rtWrite a).2]) ∧ Pur w w' := by
  obtain ⟨k, i, h, p, q⟩ := a
  simp only [adrV] at *
  by_cases k1 : k = 1
  · subst k1
    obtain ⟨s, hS⟩ : ∃ s : Bytes, s = [] := ⟨_, rfl⟩
    have hlen : s.length ≤ 1000000000 := by
      rw [hS]
      simp [tInternal, tParent, headS, headI, headH]
    have hT : rtWrite ⟨1, i, h, p, q⟩ = if rtFind s nScxml = (⟨1, i, h, p, q⟩, 0) then (s, 0) else ([], 190) := by
      rw [hS, rtWrite]
      rw [rtFind_one processor_scxml, ← rtFind_one processor_none (t := [])]
      first | rfl | (simp [adrText, portText])
    rw [hT]
    clear hT
    have Fd := fun w => rfind_any s nScxml w (by omega)
    rw [hS] at Fd ⊢
    clear hS hlen
    generalize rtFind ([]) nScxml = r at *
    obtain ⟨⟨k', i', h', p', q'⟩, n⟩ := r
    simp only [adrV] at Fd
    obtain ⟨b1, t1⟩ : ∃ b1, (n != 0) = b1 := ⟨_, rfl⟩
    obtain ⟨b2, t2⟩ : ∃ b2, adrEq ⟨k', i', h', p', q'⟩ ⟨1, i, h, p, q⟩ = b2 := ⟨_, rfl⟩
    have hR : (if ((⟨k', i', h', p', q'⟩ : Adr), n) = (⟨1, i, h, p, q⟩, 0) then (([] : Bytes), (0 : Int)) else ([], 190)) = if b1 || !b2 then ([], 190) else ([], 0) := by
      subst t1 t2
      unfold adrEq
      by_cases hn : n = 0
      · subst hn
        by_cases ha : (⟨k', i', h', p', q'⟩ : Adr) = ⟨1, i, h, p, q⟩
        · rw [if_pos (by rw [ha]), decide_eq_true ha]; rfl
        · rw [if_neg (fun e => ha (congrArg Prod.fst e)), decide_eq_false ha]; rfl
      · rw [if_neg (fun e => hn (congrArg Prod.snd e)), if_pos (by simp [hn])]
    rw [hR]
    clear hR
    go_enter Tryd.func16, Tryd.ntmps16
    go_wp2_with fail
    refine (Fd _).mono ?_
    rintro e w2 ⟨rfl, hpA⟩
    obtain ⟨c0, c1, c2, c3, c4, f0, f1, f2, f3, f4⟩ := blk_facts (own_blk hpA)
    have hz : w.heap.size < w2.heap.size := by have := hpA.size; simp at this; omega
    have HP := Lib.hid (((Pur.refl w).alloc _).trans hpA)
    have HB := Lib.hid (own_blk hpA)
    clear hpA Fd
    rcases b1 with _ | _ <;> rcases b2 with _ | _
    all_goals
      go_wp2
      go_ret2
      refine ⟨rfl, ?_⟩
      have hpu := HP.out
      repeat (first | with_reducible exact hpu | refine Pur.setCell ?_ (by simp) _ | refine Pur.alloc ?_ _)
  by_cases k2 : k = 2
  · subst k2
    obtain ⟨s, hS⟩ : ∃ s : Bytes, s = tInternal := ⟨_, rfl⟩
    have hlen : s.length ≤ 1000000000 := by
      rw [hS]
      simp [tInternal, tParent, headS, headI, headH]
    have hT : rtWrite ⟨2, i, h, p, q⟩ = if rtFind s nScxml = (⟨2, i, h, p, q⟩, 0) then (s, 0) else ([], 190) := by
      rw [hS, rtWrite]
      rw [rtFind_one processor_scxml, ← rtFind_one processor_none (t := tInternal)]
      first | rfl | (simp [adrText, portText])
    rw [hT]
    clear hT
    have Fd := fun w => rfind_any s nScxml w (by omega)
    rw [hS] at Fd ⊢
    clear hS hlen
    generalize rtFind (tInternal) nScxml = r at *
    obtain ⟨⟨k', i', h', p', q'⟩, n⟩ := r
    simp only [adrV] at Fd
    obtain ⟨b1, t1⟩ : ∃ b1, (n != 0) = b1 := ⟨_, rfl⟩
    obtain ⟨b2, t2⟩ : ∃ b2, adrEq ⟨k', i', h', p', q'⟩ ⟨2, i, h, p, q⟩ = b2 := ⟨_, rfl⟩
    have hR : (if ((⟨k', i', h', p', q'⟩ : Adr), n) = (⟨2, i, h, p, q⟩, 0) then ((tInternal : Bytes), (0 : Int)) else ([], 190)) = if b1 || !b2 then ([], 190) else (tInternal, 0) := by
      subst t1 t2
      unfold adrEq
      by_cases hn : n = 0
      · subst hn
        by_cases ha : (⟨k', i', h', p', q'⟩ : Adr) = ⟨2, i, h, p, q⟩
        · rw [if_pos (by rw [ha]), decide_eq_true ha]; rfl
        · rw [if_neg (fun e => ha (congrArg Prod.fst e)), decide_eq_false ha]; rfl
      · rw [if_neg (fun e => hn (congrArg Prod.snd e)), if_pos (by simp [hn])]
    rw [hR]
    clear hR
    go_enter Tryd.func16, Tryd.ntmps16
    go_wp2_with fail
    refine (Fd _).mono ?_
    rintro e w2 ⟨rfl, hpA⟩
    obtain ⟨c0, c1, c2, c3, c4, f0, f1, f2, f3, f4⟩ := blk_facts (own_blk hpA)
    have hz : w.heap.size < w2.heap.size := by have := hpA.size; simp at this; omega
    have HP := Lib.hid (((Pur.refl w).alloc _).trans hpA)
    have HB := Lib.hid (own_blk hpA)
    clear hpA Fd
    rcases b1 with _ | _ <;> rcases b2 with _ | _
    all_goals
      go_wp2
      go_ret2
      refine ⟨rfl, ?_⟩
      have hpu := HP.out
      repeat (first | with_reducible exact hpu | refine Pur.setCell ?_ (by simp) _ | refine Pur.alloc ?_ _)
  by_cases k3 : k = 3
  · subst k3
    obtain ⟨s, hS⟩ : ∃ s : Bytes, s = tParent := ⟨_, rfl⟩
    have hlen : s.length ≤ 1000000000 := by
      rw [hS]
      simp [tInternal, tParent, headS, headI, headH]
    have hT : rtWrite ⟨3, i, h, p, q⟩ = if rtFind s nScxml = (⟨3, i, h, p, q⟩, 0) then (s, 0) else ([], 190) := by
      rw [hS, rtWrite]
      rw [rtFind_one processor_scxml, ← rtFind_one processor_none (t := tParent)]
      first | rfl | (simp [adrText, portText])
    rw [hT]
    clear hT
    have Fd := fun w => rfind_any s nScxml w (by omega)
    rw [hS] at Fd ⊢
    clear hS hlen
    generalize rtFind (tParent) nScxml = r at *
    obtain ⟨⟨k', i', h', p', q'⟩, n⟩ := r
    simp only [adrV] at Fd
    obtain ⟨b1, t1⟩ : ∃ b1, (n != 0) = b1 := ⟨_, rfl⟩
    obtain ⟨b2, t2⟩ : ∃ b2, adrEq ⟨k', i', h', p', q'⟩ ⟨3, i, h, p, q⟩ = b2 := ⟨_, rfl⟩
    have hR : (if ((⟨k', i', h', p', q'⟩ : Adr), n) = (⟨3, i, h, p, q⟩, 0) then ((tParent : Bytes), (0 : Int)) else ([], 190)) = if b1 || !b2 then ([], 190) else (tParent, 0) := by
      subst t1 t2
      unfold adrEq
      by_cases hn : n = 0
      · subst hn
        by_cases ha : (⟨k', i', h', p', q'⟩ : Adr) = ⟨3, i, h, p, q⟩
        · rw [if_pos (by rw [ha]), decide_eq_true ha]; rfl
        · rw [if_neg (fun e => ha (congrArg Prod.fst e)), decide_eq_false ha]; rfl
      · rw [if_neg (fun e => hn (congrArg Prod.snd e)), if_pos (by simp [hn])]
    rw [hR]
    clear hR
    go_enter Tryd.func16, Tryd.ntmps16
    go_wp2_with fail
    refine (Fd _).mono ?_
    rintro e w2 ⟨rfl, hpA⟩
    obtain ⟨c0, c1, c2, c3, c4, f0, f1, f2, f3, f4⟩ := blk_facts (own_blk hpA)
    have hz : w.heap.size < w2.heap.size := by have := hpA.size; simp at this; omega
    have HP := Lib.hid (((Pur.refl w).alloc _).trans hpA)
    have HB := Lib.hid (own_blk hpA)
    clear hpA Fd
    rcases b1 with _ | _ <;> rcases b2 with _ | _
    all_goals
      go_wp2
      go_ret2
      refine ⟨rfl, ?_⟩
      have hpu := HP.out
      repeat (first | with_reducible exact hpu | refine Pur.setCell ?_ (by simp) _ | refine Pur.alloc ?_ _)
  by_cases k4 : k = 4
  · subst k4
    obtain ⟨s, hS⟩ : ∃ s : Bytes, s = headS ++ i := ⟨_, rfl⟩
    have hlen : s.length ≤ 1000000000 := by
      rw [hS]
      simp [tInternal, tParent, headS, headI, headH]
      omega
    have hT : rtWrite ⟨4, i, h, p, q⟩ = if rtFind s nScxml = (⟨4, i, h, p, q⟩, 0) then (s, 0) else ([], 190) := by
      rw [hS, rtWrite]
      rw [rtFind_one processor_scxml, ← rtFind_one processor_none (t := headS ++ i)]
      first | rfl | (simp [adrText, portText])
    rw [hT]
    clear hT
    have Fd := fun w => rfind_any s nScxml w (by omega)
    rw [hS] at Fd ⊢
    clear hS hlen
    generalize rtFind (headS ++ i) nScxml = r at *
    obtain ⟨⟨k', i', h', p', q'⟩, n⟩ := r
    simp only [adrV] at Fd
    obtain ⟨b1, t1⟩ : ∃ b1, (n != 0) = b1 := ⟨_, rfl⟩
    obtain ⟨b2, t2⟩ : ∃ b2, adrEq ⟨k', i', h', p', q'⟩ ⟨4, i, h, p, q⟩ = b2 := ⟨_, rfl⟩
    have hR : (if ((⟨k', i', h', p', q'⟩ : Adr), n) = (⟨4, i, h, p, q⟩, 0) then ((headS ++ i : Bytes), (0 : Int)) else ([], 190)) = if b1 || !b2 then ([], 190) else (headS ++ i, 0) := by
      subst t1 t2
      unfold adrEq
      by_cases hn : n = 0
      · subst hn
        by_cases ha : (⟨k', i', h', p', q'⟩ : Adr) = ⟨4, i, h, p, q⟩
        · rw [if_pos (by rw [ha]), decide_eq_true ha]; rfl
        · rw [if_neg (fun e => ha (congrArg Prod.fst e)), decide_eq_false ha]; rfl
      · rw [if_neg (fun e => hn (congrArg Prod.snd e)), if_pos (by simp [hn])]
    rw [hR]
    clear hR
    go_enter Tryd.func16, Tryd.ntmps16
    go_wp2_with fail
    refine (Fd _).mono ?_
    rintro e w2 ⟨rfl, hpA⟩
    obtain ⟨c0, c1, c2, c3, c4, f0, f1, f2, f3, f4⟩ := blk_facts (own_blk hpA)
    have hz : w.heap.size < w2.heap.size := by have := hpA.size; simp at this; omega
    have HP := Lib.hid (((Pur.refl w).alloc _).trans hpA)
    have HB := Lib.hid (own_blk hpA)
    clear hpA Fd
    rcases b1 with _ | _ <;> rcases b2 with _ | _
    all_goals
      go_wp2
      go_ret2
      refine ⟨rfl, ?_⟩
      have hpu := HP.out
      repeat (first | with_reducible exact hpu | refine Pur.setCell ?_ (by simp) _ | refine Pur.alloc ?_ _)
  by_cases k5 : k = 5
  · subst k5
    obtain ⟨s, hS⟩ : ∃ s : Bytes, s = headI ++ i := ⟨_, rfl⟩
    have hlen : s.length ≤ 1000000000 := by
      rw [hS]
      simp [tInternal, tParent, headS, headI, headH]
      omega
    have hT : rtWrite ⟨5, i, h, p, q⟩ = if rtFind s nScxml = (⟨5, i, h, p, q⟩, 0) then (s, 0) else ([], 190) := by
      rw [hS, rtWrite]
      rw [rtFind_one processor_scxml, ← rtFind_one processor_none (t := headI ++ i)]
      first | rfl | (simp [adrText, portText])
    rw [hT]
    clear hT
    have Fd := fun w => rfind_any s nScxml w (by omega)
    rw [hS] at Fd ⊢
    clear hS hlen
    generalize rtFind (headI ++ i) nScxml = r at *
    obtain ⟨⟨k', i', h', p', q'⟩, n⟩ := r
    simp only [adrV] at Fd
    obtain ⟨b1, t1⟩ : ∃ b1, (n != 0) = b1 := ⟨_, rfl⟩
    obtain ⟨b2, t2⟩ : ∃ b2, adrEq ⟨k', i', h', p', q'⟩ ⟨5, i, h, p, q⟩ = b2 := ⟨_, rfl⟩
    have hR : (if ((⟨k', i', h', p', q'⟩ : Adr), n) = (⟨5, i, h, p, q⟩, 0) then ((headI ++ i : Bytes), (0 : Int)) else ([], 190)) = if b1 || !b2 then ([], 190) else (headI ++ i, 0) := by
      subst t1 t2
      unfold adrEq
      by_cases hn : n = 0
      · subst hn
        by_cases ha : (⟨k', i', h', p', q'⟩ : Adr) = ⟨5, i, h, p, q⟩
        · rw [if_pos (by rw [ha]), decide_eq_true ha]; rfl
        · rw [if_neg (fun e => ha (congrArg Prod.fst e)), decide_eq_false ha]; rfl
      · rw [if_neg (fun e => hn (congrArg Prod.snd e)), if_pos (by simp [hn])]
    rw [hR]
    clear hR
    go_enter Tryd.func16, Tryd.ntmps16
    go_wp2_with fail
    refine (Fd _).mono ?_
    rintro e w2 ⟨rfl, hpA⟩
    obtain ⟨c0, c1, c2, c3, c4, f0, f1, f2, f3, f4⟩ := blk_facts (own_blk hpA)
    have hz : w.heap.size < w2.heap.size := by have := hpA.size; simp at this; omega
    have HP := Lib.hid (((Pur.refl w).alloc _).trans hpA)
    have HB := Lib.hid (own_blk hpA)
    clear hpA Fd
    rcases b1 with _ | _ <;> rcases b2 with _ | _
    all_goals
      go_wp2
      go_ret2
      refine ⟨rfl, ?_⟩
      have hpu := HP.out
      repeat (first | with_reducible exact hpu | refine Pur.setCell ?_ (by simp) _ | refine Pur.alloc ?_ _)
  by_cases k6 : k = 6
  · subst k6
    by_cases h80 : p = 80
    · obtain ⟨s, hS⟩ : ∃ s : Bytes, s = headH ++ (h ++ q) := ⟨_, rfl⟩
      have hlen : s.length ≤ 1000000000 := by
        rw [hS]
        simp [tInternal, tParent, headS, headI, headH]
        omega
      have hT : rtWrite ⟨6, i, h, p, q⟩ = if rtFind s nHttp = (⟨6, i, h, p, q⟩, 0) then (s, 0) else ([], 190) := by
        rw [hS, rtWrite]
        rw [h80]
        first | rfl | (simp [adrText, portText])
      rw [hT]
      clear hT
      have Fd := fun w => rfind_any s nHttp w (by omega)
      rw [hS] at Fd ⊢
      clear hS hlen
      generalize rtFind (headH ++ (h ++ q)) nHttp = r at *
      obtain ⟨⟨k', i', h', p', q'⟩, n⟩ := r
      simp only [adrV] at Fd
      obtain ⟨b1, t1⟩ : ∃ b1, (n != 0) = b1 := ⟨_, rfl⟩
      obtain ⟨b2, t2⟩ : ∃ b2, adrEq ⟨k', i', h', p', q'⟩ ⟨6, i, h, p, q⟩ = b2 := ⟨_, rfl⟩
      have hR : (if ((⟨k', i', h', p', q'⟩ : Adr), n) = (⟨6, i, h, p, q⟩, 0) then ((headH ++ (h ++ q) : Bytes), (0 : Int)) else ([], 190)) = if b1 || !b2 then ([], 190) else (headH ++ (h ++ q), 0) := by
        subst t1 t2
        unfold adrEq
        by_cases hn : n = 0
        · subst hn
          by_cases ha : (⟨k', i', h', p', q'⟩ : Adr) = ⟨6, i, h, p, q⟩
          · rw [if_pos (by rw [ha]), decide_eq_true ha]; rfl
          · rw [if_neg (fun e => ha (congrArg Prod.fst e)), decide_eq_false ha]; rfl
        · rw [if_neg (fun e => hn (congrArg Prod.snd e)), if_pos (by simp [hn])]
      rw [hR]
      clear hR
      subst h80
      go_enter Tryd.func16, Tryd.ntmps16
      go_wp2_with fail
      refine (Fd _).mono ?_
      rintro e w2 ⟨rfl, hpA⟩
      obtain ⟨c0, c1, c2, c3, c4, f0, f1, f2, f3, f4⟩ := blk_facts (own_blk hpA)
      have hz : w.heap.size < w2.heap.size := by have := hpA.size; simp at this; omega
      have HP := Lib.hid (((Pur.refl w).alloc _).trans hpA)
      have HB := Lib.hid (own_blk hpA)
      clear hpA Fd
      rcases b1 with _ | _ <;> rcases b2 with _ | _
      all_goals
        go_wp2
        go_ret2
        refine ⟨rfl, ?_⟩
        have hpu := HP.out
        repeat (first | with_reducible exact hpu | refine Pur.setCell ?_ (by simp) _ | refine Pur.alloc ?_ _)
    · obtain ⟨s, hS⟩ : ∃ s : Bytes, s = headH ++ (h ++ 58 :: (Lib.itoa p ++ q)) := ⟨_, rfl⟩
      have hlen : s.length ≤ 1000000000 := by
        rw [hS]
        simp [tInternal, tParent, headS, headI, headH]
        have := dec_len p.natAbs (by omega)
        have e : (Lib.itoa p).length ≤ 20 := by
          unfold Lib.itoa
          split
          · simp; omega
          · have := dec_len p.toNat (by omega)
            omega
        omega
      have hT : rtWrite ⟨6, i, h, p, q⟩ = if rtFind s nHttp = (⟨6, i, h, p, q⟩, 0) then (s, 0) else ([], 190) := by
        rw [hS, rtWrite]
        simp only [adrText, portText, if_neg h80]
        simp
      rw [hT]
      clear hT
      have Fd := fun w => rfind_any s nHttp w (by omega)
      rw [hS] at Fd ⊢
      clear hS hlen
      generalize rtFind (headH ++ (h ++ 58 :: (Lib.itoa p ++ q))) nHttp = r at *
      obtain ⟨⟨k', i', h', p', q'⟩, n⟩ := r
      simp only [adrV] at Fd
      obtain ⟨b1, t1⟩ : ∃ b1, (n != 0) = b1 := ⟨_, rfl⟩
      obtain ⟨b2, t2⟩ : ∃ b2, adrEq ⟨k', i', h', p', q'⟩ ⟨6, i, h, p, q⟩ = b2 := ⟨_, rfl⟩
      have hR : (if ((⟨k', i', h', p', q'⟩ : Adr), n) = (⟨6, i, h, p, q⟩, 0) then ((headH ++ (h ++ 58 :: (Lib.itoa p ++ q)) : Bytes), (0 : Int)) else ([], 190)) = if b1 || !b2 then ([], 190) else (headH ++ (h ++ 58 :: (Lib.itoa p ++ q)), 0) := by
        subst t1 t2
        unfold adrEq
        by_cases hn : n = 0
        · subst hn
          by_cases ha : (⟨k', i', h', p', q'⟩ : Adr) = ⟨6, i, h, p, q⟩
          · rw [if_pos (by rw [ha]), decide_eq_true ha]; rfl
          · rw [if_neg (fun e => ha (congrArg Prod.fst e)), decide_eq_false ha]; rfl
        · rw [if_neg (fun e => hn (congrArg Prod.snd e)), if_pos (by simp [hn])]
      rw [hR]
      clear hR
      have n80 : (p != 80) = true := by simpa using h80
      clear h80
      go_enter Tryd.func16, Tryd.ntmps16
      go_wp2_with fail
      refine (rdigits_any p _ hp0 hp1).mono ?_
      rintro e wi ⟨rfl, hpi⟩
      obtain ⟨c0, c1, c2, c3, c4, f0, f1, f2, f3, f4⟩ := blk_facts (own_blk hpi)
      have hlen : (Lib.itoa p).length ≤ 20 := by
        unfold Lib.itoa
        split
        · have := dec_len p.natAbs (by omega)
          simp; omega
        · have := dec_len p.toNat (by omega)
          omega
      go_wp2_with fail
      refine (Fd _).mono ?_
      rintro e w2 ⟨rfl, hp2⟩
      have hpA := hpi.trans hp2
      clear c0 c1 c2 c3 c4 f0 f1 f2 f3 f4 hlen hpi hp2
      obtain ⟨c0, c1, c2, c3, c4, f0, f1, f2, f3, f4⟩ := blk_facts (own_blk hpA)
      have hz : w.heap.size < w2.heap.size := by have := hpA.size; simp at this; omega
      have HP := Lib.hid (((Pur.refl w).alloc _).trans hpA)
      have HB := Lib.hid (own_blk hpA)
      clear hpA Fd
      rcases b1 with _ | _ <;> rcases b2 with _ | _
      all_goals
        go_wp2
        go_ret2
        refine ⟨rfl, ?_⟩
        have hpu := HP.out
        repeat (first | with_reducible exact hpu | refine Pur.setCell ?_ (by simp) _ | refine Pur.alloc ?_ _)
  have hT : rtWrite ⟨k, i, h, p, q⟩ = ([], 190) := by
    rw [rtWrite]
    simp only [adrText, if_neg k1, if_neg k2, if_neg k3, if_neg k4, if_neg k5, if_neg k6]
  rw [hT]
  clear hT
  have j1 : (k == 1) = false := by simpa using k1
  have j2 : (k == 2) = false := by simpa using k2
  have j3 : (k == 3) = false := by simpa using k3
  have j4 : (k == 4) = false := by simpa using k4
  have j5 : (k == 5) = false := by simpa using k5
  have j6 : (k == 6) = false := by simpa using k6
  clear k1 k2 k3 k4 k5 k6
  go_enter Tryd.func16, Tryd.ntmps16
  go_wp2
  go_ret2
  exact ⟨rfl, (Pur.refl w).alloc _⟩
end Go.Proofs.YtjbfkalkcopapaaDoor
