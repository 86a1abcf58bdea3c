/- Those of the layer utf's contracts that this seat's dump has. The texts of layer 1 (see Hu). -/
import Derived.Test.YtapgibcdbggpkaaGreatDoorChecked
import Derived.Test.YtapgibcdbggpkaaGreatDoorUtfPure
import Derived.Test.YtapgibcdbggpkaaGreatDoorUtX
import Derived.Test.YtapgibcdbggpkaaGreatDoorShelf
namespace Go.Proofs.YtapgibcdbggpkaaGreatDoor
open Go Go.RowKit
set_option linter.all false
theorem length_any (l : List UInt8) (w : World) (hs : l.length ≤ 9223372036854775807) :
    Calls Tryz.prog 41 #[.string ⟨l.toArray⟩] w fun e w' => e = .returned (.int .i64 (l.length / 2 : Nat)) ∧ w = w' := by
  go_enter Tryz.func41, Tryz.ntmps41
  go_wp2
  go_ret
  exact ⟨rfl, rfl⟩
theorem at_in (l : List UInt8) (i : Nat) (w : World) (hs : l.length ≤ 9223372036854775807) (h : i < l.length / 2) :
    Calls Tryz.prog 69 #[.string ⟨l.toArray⟩, .int .i64 i] w fun e w' => e = .returned (.tuple #[.int .i64 (at16 l i), .bool true]) ∧ Pur w w' := by
  have b2 : 2 * (i : Int) + 1 < l.length := by omega
  have n0 : (i : Int) < (l.length : Int) / 2 := by omega
  have hw : IntKind.i64.wrap (2 * (i:Int)) = 2 * (i:Int) := IntWalk.i64_in _ (by omega)
  have hw1 : IntKind.i64.wrap (2 * (i:Int) + 1) = 2 * (i:Int) + 1 := IntWalk.i64_in _ (by omega)
  have l1 := by8_lt l (2*i)
  have l2 := by8_lt l (2*i+1)
  have H := Lib.hid (or_join 8 (by8 l (2*i) * 256) (by8 l (2*i+1)) (by omega) (by omega) (by omega) (by omega))
  go_enter Tryz.func69, Tryz.ntmps69
  go_wp2
  go_quiet (fail)
  go_wp2
  go_ret2
  refine ⟨?_, (Pur.refl w).drewN nq⟩
  show Ending.returned (Value.tuple #[.int .i64 (bits BinOp.or IntKind.i64 (((by8 l (2*i) : Nat) : Int) * 256) ((by8 l (2*i+1) : Nat) : Int)), .bool true]) = _
  have h' := H.out
  rw [Int.natCast_mul] at h'
  rw [show ((256 : Nat) : Int) = 256 from rfl] at h'
  rw [h']
  rfl
theorem rat_in (l : List UInt8) (i : Nat) (w : World) (hs : l.length ≤ 9223372036854775807) (h : i < l.length / 2) :
    Calls Tryz.prog 73 #[.string ⟨l.toArray⟩, .int .i64 i] w fun e w' => e = .returned (.int .i64 (at16 l i)) ∧ Pur w w' := by
  have b2 : 2 * (i : Int) + 1 < l.length := by omega
  have n0 : (i : Int) ≤ (l.length : Int) / 2 - 1 := by omega
  have hw : IntKind.i64.wrap (2 * (i:Int)) = 2 * (i:Int) := IntWalk.i64_in _ (by omega)
  have hw1 : IntKind.i64.wrap (2 * (i:Int) + 1) = 2 * (i:Int) + 1 := IntWalk.i64_in _ (by omega)
  have l1 := by8_lt l (2*i)
  have l2 := by8_lt l (2*i+1)
  go_enter Tryz.func73, Tryz.ntmps73
  go_wp2
  go_quiet (fail)
  go_wp2
  go_ret
  exact ⟨rfl, (Pur.refl w).drewN nq⟩
theorem runit_any (u : Int) (w : World) (h0 : 0 ≤ u) (hu : u < 65536) :
    Calls Tryz.prog 44 #[.int .i64 u] w fun e w' => e = .returned (.string ⟨(unit8 u.toNat).toArray⟩) ∧ Pur w w' := by
  obtain ⟨u, rfl⟩ := Int.eq_ofNat_of_zero_le h0
  rw [Int.toNat_natCast]
  go_enter Tryz.func44, Tryz.ntmps44
  go_wp2
  go_ret
  refine ⟨?_, (Pur.refl w).alloc _⟩
  show Ending.returned (Value.string ⟨[B8 ((u : Int) / 256), B8 ((u : Int) % 256)].toArray⟩) = _
  rfl
theorem chrN_bd (l : List UInt8) (i n c low : Nat) : (chrN l i n c low).1 ≤ 1114111 ∧ (chrN l i n c low).2 ≤ n := by
  unfold chrN
  split
  · rename_i h; exact ⟨h.2.2.2.1, Nat.le_refl _⟩
  · exact ⟨Nat.zero_le _, Nat.zero_le _⟩
theorem chr_bd (l : List UInt8) (i : Nat) : (chr l i).1 ≤ 1114111 ∧ (chr l i).2 ≤ 4 := by
  have := by8_lt l i
  unfold chr
  split
  · simp
  split
  · exact ⟨by simp only; omega, by simp⟩
  split
  · have := chrN_bd l i 2 (by8 l i - 192) 128; omega
  split
  · have := chrN_bd l i 3 (by8 l i - 224) 2048; omega
  split
  · have := chrN_bd l i 4 (by8 l i - 240) 65536; omega
  · simp
theorem decode_pos (s : ByteArray) (i : Nat) : 1 ≤ (Utf8.decode s i).2 := by
  unfold Utf8.decode
  simp only
  repeat' split
  all_goals simp
theorem next_in (l : List UInt8) (i : Nat) (w : World) (hT : Lib.Utf8Tabs 3 4 w) (h : i < l.length) :
    Calls Tryz.prog 70 #[.string ⟨l.toArray⟩, .int .i64 i] w fun e w' => e = .returned (.tuple #[.int .i64 (chr l i).1, .int .i64 (chr l i).2, .bool (decide (0 < (chr l i).2))]) ∧ Pur w w' := by
  have hd := chr_decode l i h
  have hc := (Tryz.utf8_DecodeRuneInString ⟨(sub l i l.length).toArray⟩ w hT)
  have hg : Lib.decodeGo ⟨(sub l i l.length).toArray⟩ = Utf8.decode ⟨(sub l i l.length).toArray⟩ 0 := by
    unfold Lib.decodeGo
    rw [if_neg]
    show ¬ (sub l i l.length).toArray.size = 0
    simp only [List.size_toArray, length_sub]; omega
  rw [← hg] at hd
  have hbd := chr_bd l i
  have hpos : 1 ≤ (Lib.decodeGo ⟨(sub l i l.length).toArray⟩).2 := by rw [hg]; exact decode_pos _ _
  clear hg
  generalize chr l i = q at *
  obtain ⟨c, n⟩ := q
  simp only at hbd ⊢
  generalize Lib.decodeGo ⟨(sub l i l.length).toArray⟩ = d at *
  obtain ⟨r, m⟩ := d
  simp only at hpos hc
  have hi : (i : Int) < l.length := by omega
  have HC := Lib.hid hc
  clear hc
  by_cases hbad : r = 65533 ∧ m = 1
  · obtain ⟨rfl, rfl⟩ := hbad
    rw [if_pos rfl] at hd
    simp only [Prod.mk.injEq] at hd
    obtain ⟨rfl, rfl⟩ := hd
    go_enter Tryz.func70, Tryz.ntmps70
    go_wp2_with (go_at_call 92; refine HC.out.mono ?_; rintro e w' ⟨rfl, hp⟩)
    go_ret3
    exact ⟨rfl, hp⟩
  · rw [if_neg (by simpa using hbad)] at hd
    simp only [Prod.mk.injEq] at hd
    obtain ⟨rfl, rfl⟩ := hd
    have hb : decide (0 < m) = true := by simp; omega
    rw [hb]
    clear hb hpos
    by_cases hr : r = 65533
    · have hm : ((m : Int) == 1) = false := by simp; omega
      have hr' : ((r : Int) == 65533) = true := by simp; omega
      clear hbad hr
      go_enter Tryz.func70, Tryz.ntmps70
      go_wp2_with (go_at_call 92; refine HC.out.mono ?_; rintro e w' ⟨rfl, hp⟩)
      go_ret3
      exact ⟨rfl, hp⟩
    · have hr' : ((r : Int) == 65533) = false := by simp; omega
      clear hbad hr
      go_enter Tryz.func70, Tryz.ntmps70
      go_wp2_with (go_at_call 92; refine HC.out.mono ?_; rintro e w' ⟨rfl, hp⟩)
      go_ret3
      exact ⟨rfl, hp⟩
/-- bytes as they lie in a row -/
def bv (l : List UInt8) : List Value := l.map fun b => Value.int .u8 (b.toNat : Int)
theorem bv_append (a b : List UInt8) : bv (a ++ b) = bv a ++ bv b := List.map_append
theorem infoU8 : (Tryz.prog.info? 5).map (fun i => (i.zero, i.size, i.bytes)) = some (some (.int .u8 0), 1, 1) := by kernel_rfl
theorem bv_unit8 (u : Nat) (hu : u < 65536) : bv (unit8 u) = [.int .u8 ((u : Int) / 256), .int .u8 ((u : Int) % 256)] := by
  have h1 : (UInt8.ofNat (u / 256)).toNat = u / 256 := by rw [UInt8.toNat_ofNat']; omega
  have h2 : (UInt8.ofNat (u % 256)).toNat = u % 256 := by rw [UInt8.toNat_ofNat']; omega
  simp only [bv, unit8, List.map_cons, List.map_nil, h1, h2]
  rfl
theorem unit_own (B : Nat) (v : Value) (n : Nat) (xs : List Value) (u : Int) (w : World) (h0 : 0 ≤ u) (hu : u < 65536) (hown : w.ownsRow B 5 1 v n xs) (hlen : n + 2 ≤ 140737488355328) (hB : B ≤ w.heap.size) :
    Calls Tryz.prog 71 #[v, .int .i64 u] w fun e w' => ∃ v', e = .returned v' ∧ w'.ownsRow B 5 1 v' (n + 2) (xs ++ bv (unit8 u.toNat)) ∧ Below B w w' := by
  obtain ⟨u, rfl⟩ := Int.eq_ofNat_of_zero_le h0
  rw [Int.toNat_natCast, bv_unit8 u (by omega)]
  obtain ⟨i0, hi, hz0, hz1, hz2⟩ := info_parts infoU8
  go_enter Tryz.func71, Tryz.ntmps71
  go_wp2_with (at_builtin; refine wpList_append_own _ rfl _ _ 122 rfl B 5 i0 (.int .u8 0) 1 1 Tryz.underlying122 hi hz0 hz1 hz2 rfl (by decide) _ _ _ rfl (hown.alloc _) ⟨w.heap.size, 0, none⟩ 2 2 [.int .u8 ((u : Int) / 256), .int .u8 ((u : Int) % 256)] rfl rfl ?c1 ?c2 ?c3 ?c4 ?c5 ?_)
  case c1 => exact cell_two_new _ _ _ _
  case c2 => intro x hx; simp at hx; rcases hx with rfl | rfl <;> rfl
  case c3 => unfold maxLen; omega
  case c4 => omega
  case c5 => simp; omega
  intro v' w1 hown' hgrow _
  go_wp2
  go_ret
  refine ⟨v', rfl, hown', ?_⟩
  exact ((Below.refl B w).alloc hB _).grown hgrow (by simp; omega) (fun k hk => (hown.lt k hk).1)
theorem Pur.trans' {a b c : World} (h : Pur a b) (k : Below a.heap.size b c) : Pur a c := Below.trans h k
theorem ownsRow_pur {w w' : World} {base : Nat} {e : TypeId} {size : Nat} {v : Value} {n : Nat} {xs : List Value} (h : w.ownsRow base e size v n xs) (hp : Pur w w') : w'.ownsRow base e size v n xs :=
  h.kept (row := none) ⟨hp.os, hp.tape, hp.output, hp.size, fun k hk _ => hp.block k hk⟩ (by cases v.ownBlock <;> simp)
theorem run_str_of_own {P : Program} (w : World) (src dst e : TypeId) (B : Nat) (v : Value) (n : Nat) (l : List UInt8) (hn : l.length = n) (hs : P.underlying src = some (.slice e)) (he : P.underlying e = some (.int .u8)) (hd : P.underlying dst = some .string)
    (h : w.ownsRow B e 1 v n (bv l)) : (convert src dst v).run P w = .ok (.string ⟨l.toArray⟩) w := by
  subst hn
  obtain ⟨h1, h2⟩ := id h
  rcases h2 with ⟨rfl, h0⟩ | ⟨g, cap, cur, rfl, _⟩
  · obtain rfl : l = [] := List.length_eq_zero_iff.1 h0
    rw [run_convert_bytes_string w src dst e _ _ _ hs he hd]
    simp [Conv.bytesToString]
    rfl
  · have hm : (l.map fun b => ((b.toNat : Nat) : Int)).map B8 = l := by
      rw [List.map_map]
      conv => rhs; rw [← List.map_id l]
      exact List.map_congr_left fun b _ => B8_toNat b
    rw [run_str_of_cells w src dst e ⟨g, 0, none⟩ _ cap (l.map fun b => ((b.toNat : Nat) : Int)) (by simp) hs he hd fun j hj => ?_, hm]
    have ha : (Addr.mk g 0 none).add j = ⟨g, j, none⟩ := by unfold Addr.add; split <;> simp_all
    rw [ha, h.cellAt j (by omega)]
    simp [bv, hj]
theorem wide_any (l : List UInt8) (w : World) (hT : Lib.Utf8Tabs 3 4 w) (hs : l.length ≤ 1000000) :
    Calls Tryz.prog 51 #[.string ⟨l.toArray⟩] w fun e w' => e = .returned (.tuple #[.string ⟨(wideR l).1.toArray⟩, .int .i64 (wideR l).2.1, .int .i64 (wideR l).2.2]) ∧ Pur w w' := by
  have hw1 : IntKind.i64.wrap (2 * (l.length : Int)) = 2 * (l.length : Int) := IntWalk.i64_in _ (by omega)
  obtain ⟨i0, hi, hz0, hz1, hz2⟩ := info_parts infoU8
  go_enter Tryz.func51, Tryz.ntmps51
  go_wp2_with (at_make; refine wpList_make_own _ rfl _ _ 122 rfl w.heap.size 5 i0 (.int .u8 0) 1 Tryz.underlying122 hi hz0 hz1 .i64 .i64 _ (2 * l.length) rfl rfl (by omega) (by rw [hz2]; omega) (by unfold maxLen; omega) (Nat.le_refl _) ?_; intro w0 hown0 hgrow0)
  clear hw1 hi hz0 hz1 hz2
  have hp0 : Pur w w0 := (Below.refl _ w).grown hgrow0 (Nat.le_refl _) (fun k hk => by cases hk)
  clear hgrow0
  go_loopw [5, 6] (fun o i wr => ∃ (n : Nat) (acc : List UInt8), n ≤ l.length ∧ i = .int .i64 n ∧ acc.length ≤ 4 * n ∧ wr.ownsRow w.heap.size 5 1 o acc.length (bv acc) ∧ Pur w wr ∧ Hid (wideR l = wideGo l n acc)) (fun _ i _ => l.length + 1 - (intOf i).toNat)
  case atStart => exact ⟨0, [], by omega, rfl, by simp, hown0, hp0, Lib.hid rfl⟩
  case round =>
    obtain ⟨n, acc, hn, rfl, hacc, hown, hpr, H⟩ := hrel
    by_cases hlt : n < l.length
    · have hT1 := Utf8Tabs_below hT hpr
      have HG : Hid (wideGo l n acc = if (chr l n).2 = 0 then ([], n, 10) else wideGo l (n + (chr l n).2) (acc ++ units (chr l n).1)) := by
        rw [wideGo, if_pos hlt]
        exact rfl
      have hbd := chr_bd l n
      have hend := chr_end l n
      have HN := Lib.hid (next_in l n wr hT1 hlt)
      generalize chr l n = q at *
      obtain ⟨c, m⟩ := q
      simp only at hbd hend
      by_cases hm : m = 0
      · subst hm
        have HR : Hid (wideR l = ([], n, 10)) := by
          have h1 := H.out
          have h2 := HG.out
          rw [h2, if_pos rfl] at h1
          exact h1
        clear hend hown hT1
        go_wp2_with (go_at_call 70; refine HN.out.mono ?_; rintro e w1 ⟨rfl, hp1⟩)
        go_ret3
        exact ⟨by rw [HR.out]; rfl, hpr.trans hp1⟩
      · have hmb : decide (0 < m) = true := by simp; omega
        have hend' := hend hm
        have HR : Hid (wideR l = wideGo l (n + m) (acc ++ units c)) := by
          have h1 := H.out
          have h2 := HG.out
          rw [h2, if_neg hm] at h1
          exact h1
        have hm1 : 1 ≤ m := by omega
        clear hend hT1 hm
        by_cases hc : 65535 < (c : Int)
        · have hu : units c = unit8 (55296 + (c - 65536) / 1024) ++ unit8 (56320 + (c - 65536) % 1024) := by rw [units, if_pos (by omega)]
          have HU := Lib.hid hu
          clear hu
          have hand : bits .and .i64 ((c : Int) - 65536) 1023 = ((c : Int) - 65536) % 1024 := bits_mask .i64 63 (by decide) wraps_i64 10 (by decide) _ (by omega) (by omega)
          go_wp2_with (first | (go_at_call 70; refine HN.out.mono ?_; rintro e w1 ⟨rfl, hp1⟩))
          refine (unit_own _ _ _ _ _ _ (by omega) (by omega) (ownsRow_pur hown hp1) (by omega) (Nat.le_trans hpr.size hp1.size)).mono ?_
          rintro e w2 ⟨v2, rfl, hown2, hb2⟩
          have hz2 : w.heap.size ≤ w2.heap.size := Nat.le_trans (Nat.le_trans hpr.size hp1.size) hb2.size
          rw [show ((55296 : Int) + ((c : Int) - 65536) / 1024).toNat = 55296 + (c - 65536) / 1024 by omega] at hown2
          go_wp2_with fail
          refine (unit_own _ _ _ _ _ _ (by omega) (by omega) hown2 (by omega) hz2).mono ?_
          rintro e w3 ⟨v3, rfl, hown3, hb3⟩
          rw [show ((56320 : Int) + ((c : Int) - 65536) % 1024).toNat = 56320 + (c - 65536) % 1024 by omega] at hown3
          clear hown2
          go_wp2
          go_roundw
          case rel =>
            refine ⟨n + m, acc ++ units c, by omega, by go_num, by have := units_length_le c; rw [List.length_append]; omega, ?_, ((hpr.trans hp1).trans' hb2).trans' hb3, HR⟩
            rw [HU.out, List.length_append, List.length_append, bv_append, bv_append, ← List.append_assoc]
            exact hown3
          case measure => simp [intOf]; omega
        · have hu : units c = unit8 c := by rw [units, if_neg (by omega)]
          have HU := Lib.hid hu
          clear hu
          go_wp2_with (go_at_call 70; refine HN.out.mono ?_; rintro e w1 ⟨rfl, hp1⟩)
          refine (unit_own _ _ _ _ _ _ (by omega) (by omega) (ownsRow_pur hown hp1) (by omega) (Nat.le_trans hpr.size hp1.size)).mono ?_
          rintro e w2 ⟨v2, rfl, hown2, hb2⟩
          rw [Int.toNat_natCast] at hown2
          go_wp2
          go_roundw
          case rel =>
            refine ⟨n + m, acc ++ units c, by omega, by go_num, by have := units_length_le c; rw [List.length_append]; omega, ?_, (hpr.trans hp1).trans' hb2, HR⟩
            rw [HU.out, List.length_append, bv_append]
            exact hown2
          case measure => simp [intOf]; omega
    · obtain rfl : n = l.length := by omega
      have hstr := run_str_of_own (P := Tryz.prog) wr 122 9 5 w.heap.size _ acc.length acc rfl Tryz.underlying122 Tryz.underlying5 Tryz.underlying9 hown
      clear hown
      go_wp2
      go_ret3
      refine ⟨?_, hpr⟩
      rw [H.out, wideGo, if_neg (by omega)]
      rfl
end Go.Proofs.YtapgibcdbggpkaaGreatDoor

