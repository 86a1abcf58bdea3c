/- What a name or a value says: the layer's plain, the document's Said. -/
import Derived.Test.YthfoidodcfdpnaaDoorFld1
namespace Go.Proofs.YthfoidodcfdpnaaDoor
open Go Go.RowKit
theorem said_step {l : Bytes} {n m : Nat} {acc : Bytes} {x : UInt8} (h : said l = (said (l.drop n)).map (acc ++ ·)) (g : said (l.drop n) = (said (l.drop m)).map (x :: ·)) : said l = (said (l.drop m)).map ((acc ++ [x]) ++ ·) := by
  rw [h, g, Option.map_map]
  congr 1
  funext y
  simp
theorem said_fail {l : Bytes} {n : Nat} {acc : Bytes} (h : said l = (said (l.drop n)).map (acc ++ ·)) (g : said (l.drop n) = none) : said l = none := by rw [h, g]; rfl
theorem said_done {l : Bytes} {n : Nat} {acc : Bytes} (h : said l = (said (l.drop n)).map (acc ++ ·)) (g : l.length ≤ n) : said l = some acc := by rw [h, said_end l n g]; simp
theorem byteCells_snoc (acc : Bytes) (x : UInt8) : Lib.byteCells acc ++ [.int .u8 x.toNat] = Lib.byteCells (acc ++ [x]) := by simp [Lib.byteCells]
theorem byteCells_length (l : Bytes) : (Lib.byteCells l).length = l.length := by simp [Lib.byteCells]
theorem B8_lt (n : Int) (h0 : 0 ≤ n) (h1 : n < 256) : ((B8 n).toNat : Int) = n := by
  unfold B8
  rw [UInt8.toNat_ofNat']
  omega
theorem bldAt_pur {T e : TypeId} {B b : Nat} {p : Value} {bs : List Value} {w w' : World} (h : Lib.BuilderAt T e B b p bs w) (hp : Pur w w') : Lib.BuilderAt T e B b p bs w' := by
  have hlt := h.lt
  obtain ⟨hB, v, hb, hown, hne⟩ := h
  exact ⟨hB, v, (hp.block b hlt).trans hb, ownsRow_pur hown hp, hne⟩
theorem bld_pur {T e : TypeId} {B b : Nat} {bs : List Value} {w w' : World} (h : Lib.IsBuilder T e B b bs w) (hp : Pur w w') : Lib.IsBuilder T e B b bs w' :=
  h.imp (fun h => bldAt_pur h hp) (fun h => bldAt_pur h hp)
/-- WriteByte at a builder of the call's own, in bytes. -/
theorem bld_byte_own (w : World) (b : Nat) (acc : Bytes) (x : UInt8) (c : Int) (hc : c = x.toNat) (wr : World) (h : Lib.IsBuilder 53 5 w.heap.size b (Lib.byteCells acc) wr) (hlen : acc.length ≤ 1000000000) (hp : Pur w wr) :
    Calls Tryd.prog 26 #[.pointer (some ⟨b, 0, none⟩), .int .u8 c] wr fun e w' => e = .returned .nilIface ∧ (Lib.IsBuilder 53 5 w.heap.size b (Lib.byteCells (acc ++ [x])) w' ∧ Pur w w') := by
  subst hc
  refine (bld_byte w.heap.size b _ _ wr h (by rw [byteCells_length]; omega) hp.size).mono ?_
  rintro e w' ⟨rfl, h1, h2⟩
  exact ⟨rfl, .inr (byteCells_snoc acc x ▸ h1), Below.trans hp h2⟩
theorem by8_toNat (l : Bytes) (n : Nat) : (by8 l n : Int) = ((l.getD n 0).toNat : Nat) := rfl

set_option maxHeartbeats 2000000 in
theorem plain_any (l : Bytes) (w : World) (hs : l.length ≤ 1000000) :
    Calls Tryd.prog 19 #[.string ⟨l.toArray⟩] w fun e w' => e = .returned (.tuple #[.string ⟨((said l).getD []).toArray⟩, .bool (said l).isSome]) ∧ Pur w w' := by
  go_enter Tryd.func19, Tryd.ntmps19
  go_wp2
  go_loopw [5] (fun k wr => ∃ (n : Nat) (acc : Bytes), n ≤ l.length ∧ k = .int .i64 n ∧ acc.length ≤ n ∧ Lib.IsBuilder 53 5 w.heap.size w.heap.size (Lib.byteCells acc) wr ∧ Pur w wr ∧ Hid (said l = (said (l.drop n)).map (acc ++ ·))) (fun k _ => l.length + 1 - (intOf k).toNat)
  case atStart => exact ⟨0, [], by omega, rfl, by simp, Lib.fresh_isBuilder _ _ w, (Pur.refl w).alloc _, Lib.hid (by simp)⟩
  case round =>
    obtain ⟨n, acc, hn, rfl, hacc, hown, hpr, H⟩ := hrel
    by_cases hlt : n < l.length
    · have hlt' : (n : Int) < l.length := by omega
      by_cases h1 : by8 l n = 43
      · have HS := Lib.hid (said_step H.out (said_plus l n hlt h1))
        have hd : ((by8 l n : Int) == 43) = true := by simp; omega
        clear h1
        go_wp2_with (go_at_call 26; refine (bld_byte_own w _ acc 32 _ rfl _ hown (by omega) hpr).mono ?_)
        rintro e w1 ⟨rfl, hown1, hpr1⟩
        go_wp2
        go_roundw
        case rel => exact ⟨n + 1, acc ++ [32], by omega, by go_num, by simp; omega, hown1, hpr1, HS⟩
        case measure => simp [intOf]; omega
      by_cases h2 : by8 l n = 37
      · have hd : ((by8 l n : Int) == 43) = false := by simp; omega
        have hd2 : ((by8 l n : Int) == 37) = true := by simp; omega
        have w1 : IntKind.i64.wrap ((n : Int) + 1) = (n : Int) + 1 := IntWalk.i64_in _ (by omega)
        have w2 : IntKind.i64.wrap ((n : Int) + 2) = (n : Int) + 2 := IntWalk.i64_in _ (by omega)
        by_cases h3 : n + 2 < l.length
        · have d3 : decide ((l.length : Int) ≤ (n : Int) + 2) = false := by simp; omega
          have n1 : ((n : Int) + 1).toNat = n + 1 := by omega
          have n2 : ((n : Int) + 2).toNat = n + 2 := by omega
          have b1 : (n : Int) + 1 < l.length := by omega
          have b2 : (n : Int) + 2 < l.length := by omega
          have c1 : (0 : Int) ≤ (n : Int) + 1 := by omega
          have c2 : (0 : Int) ≤ (n : Int) + 2 := by omega
          have S1 := fun w => sixteen_any (by8 l (n + 1)) w (by8_lt _ _)
          have S2 := fun w => sixteen_any (by8 l (n + 2)) w (by8_lt _ _)
          have g := said_pct l n h3 h2
          have r1 := hexV_range (by8 l (n + 1))
          have r2 := hexV_range (by8 l (n + 2))
          generalize hexV (by8 l (n + 1)) = p at *
          generalize hexV (by8 l (n + 2)) = q at *
          by_cases hb : p < 0 ∨ q < 0
          · have HS := Lib.hid (said_fail H.out (by rw [g, if_pos hb]))
            rcases (show p < 0 ∨ (0 ≤ p ∧ q < 0) by omega) with hb' | ⟨hb', hb''⟩
            all_goals
              clear g h1 h2 h3 hb
              go_wp2
              refine wp_region_pur (by kernel_rfl) (by kernel_rfl) ?_
              repeat (quiet_step ((first | (go_at_call 27; with_reducible exact quiet_eq (S1 _)) | (go_at_call 27; with_reducible exact quiet_eq (S2 _)))))
              refine wpQuiet_nil ?_
              intro wq hq
              go_wp2
              go_ret2
              refine ⟨?_, hpr.trans hq⟩
              rw [HS.out]
              rfl
          · have HS := Lib.hid (said_step (m := n + 3) (x := B8 (p * 16 + q)) H.out (by rw [g, if_neg hb]))
            obtain ⟨p, rfl⟩ := Int.eq_ofNat_of_zero_le (show 0 ≤ p by omega)
            obtain ⟨q, rfl⟩ := Int.eq_ofNat_of_zero_le (show 0 ≤ q by omega)
            have e1 : bits .or .i64 ((p : Int) * 16) (q : Int) = (p : Int) * 16 + q := by
              have := or_join 4 (p * 16) q (by omega) (by omega) (by omega) (by omega)
              push_cast at this
              exact this
            have w3 : IntKind.i64.wrap ((p : Int) * 16) = (p : Int) * 16 := IntWalk.i64_in _ (by omega)
            have e2 := B8_lt ((p : Int) * 16 + q) (by omega) (by omega)
            have t1 : (0 : Int) ≤ p := by omega
            have t2 : (0 : Int) ≤ q := by omega
            clear g h1 h2 h3 hb
            go_wp2
            refine wp_region_pur (by kernel_rfl) (by kernel_rfl) ?_
            repeat (quiet_step ((first | (go_at_call 27; with_reducible exact quiet_eq (S1 _)) | (go_at_call 27; with_reducible exact quiet_eq (S2 _)))))
            refine wpQuiet_nil ?_
            intro wq hq
            have hown' : Lib.IsBuilder 53 5 w.heap.size w.heap.size (Lib.byteCells acc) wq := bld_pur hown hq
            go_wp2_with (go_at_call 26; refine (bld_byte_own w _ acc (B8 ((p : Int) * 16 + q)) _ ?c1 _ hown' (by omega) (hpr.trans hq)).mono ?_)
            case c1 => rw [e2]
            rintro e w1 ⟨rfl, hown1, hpr1⟩
            go_wp2
            go_roundw
            case rel => exact ⟨n + 3, acc ++ [B8 ((p : Int) * 16 + q)], by omega, by go_num, by simp; omega, hown1, hpr1, HS⟩
            case measure => simp [intOf]; omega
        · have HS := Lib.hid (said_fail H.out (said_short l n hlt h2 (by omega)))
          have d3 : decide ((l.length : Int) ≤ (n : Int) + 2) = true := by simp; omega
          clear h1 h2 h3
          go_wp2
          go_ret2
          refine ⟨?_, hpr⟩
          rw [HS.out]
          rfl
      · have HS := Lib.hid (said_step H.out (said_other l n hlt h1 h2))
        have hd : ((by8 l n : Int) == 43) = false := by simp; omega
        have hd2 : ((by8 l n : Int) == 37) = false := by simp; omega
        clear h1 h2
        go_wp2_with (go_at_call 26; refine (bld_byte_own w _ acc (l.getD n 0) _ (by8_toNat l n) _ hown (by omega) hpr).mono ?_)
        rintro e w1 ⟨rfl, hown1, hpr1⟩
        go_wp2
        go_roundw
        case rel => exact ⟨n + 1, acc ++ [l.getD n 0], by omega, by go_num, by simp; omega, hown1, hpr1, HS⟩
        case measure => simp [intOf]; omega
    · have HS := Lib.hid (said_done H.out (by omega))
      have hlt' : (l.length : Int) ≤ n := by omega
      go_wp2_with (go_at_call 28; refine (Tryd.Builder_String_any w.heap.size _ acc _ hown hpr.size).mono ?_)
      rintro e w1 ⟨rfl, hb1⟩
      go_wp2
      go_ret2
      refine ⟨?_, Below.trans hpr hb1⟩
      rw [HS.out]
      rfl
end Go.Proofs.YthfoidodcfdpnaaDoor
