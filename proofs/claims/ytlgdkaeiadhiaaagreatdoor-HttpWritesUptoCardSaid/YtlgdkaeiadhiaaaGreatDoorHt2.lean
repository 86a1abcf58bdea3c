/- Letters as small ones, both; blanks at the ends; a number of up to nine digits; the document's token. -/
import Derived.Test.YtlgdkaeiadhiaaaGreatDoorHt1
import Derived.Lib.MapLaws
import Derived.Lib.TrimUEq
import Derived.Lib.TrimAscii
namespace Go.Proofs.YtlgdkaeiadhiaaaGreatDoor
open Go Go.RowKit
set_option linter.all false
theorem any_step {p : UInt8 → Bool} {l : Bytes} {n : Nat} (h : n < l.length) : (l.take (n + 1)).any p = ((l.take n).any p || p (l.getD n 0)) := by
  rw [List.take_succ_eq_append_getElem h, List.any_append]
  simp [List.getD_eq_getElem?_getD, h]
theorem token_marks (b : Nat) (hb : b < 256) : (alnumB b || tmarks.any (fun c => c.toNat == b)) = tokenB b := by
  have H : ∀ b : Fin 256, (alnumB b.val || tmarks.any (fun c => c.toNat == b.val)) = tokenB b.val := by decide +kernel
  exact H ⟨b, hb⟩
set_option maxRecDepth 100000 in
set_option maxHeartbeats 4000000 in
theorem rtoken_any (l : Bytes) (w : World) (hs : l.length ≤ 140737488351232) :
    Calls Tryz.prog 43 #[.string ⟨l.toArray⟩] w fun e w' => e = .returned (.bool (okToken l)) ∧ w = w' := by
  go_enter Tryz.func43, Tryz.ntmps43
  go_wp2
  go_loop [3] (fun k => ∃ n : Nat, n ≤ l.length ∧ k = .int .i64 n ∧ Hid (∀ j, j < n → tokenB (l.getD j 0).toNat = true)) (fun k => l.length + 1 - (intOf k).toNat)
  case atStart => exact ⟨0, by omega, rfl, Lib.hid (fun j h => by omega)⟩
  case round =>
    obtain ⟨n, hn, rfl, H⟩ := hrel
    by_cases hlt : n < l.length
    · have hlt' : (n : Int) < l.length := by omega
      have cb := by8_lt l n
      have HTK := Lib.hid (token_marks _ cb)
      go_upto_region 5 with (fail)
      go_cut [3, 4, 5] from 7 to 50 (fun k c t wx => ∃ b, k = .int .i64 n ∧ c = .int .u8 (by8 l n) ∧ t = .bool b ∧ wx = w ∧ Hid (alnumB (by8 l n) = b))
      case first =>
        go_wp2
        all_goals
          go_meet
          refine ⟨_, rfl, rfl, rfl, rfl, Lib.hid ?_⟩
          rw [Bool.eq_iff_iff]
          simp [alnumB]
          try omega
      case rest =>
        obtain ⟨al, rfl, rfl, rfl, rfl, HB⟩ := hcut
        go_wp2
        go_loop [5, 6] (fun o k => ∃ (m : Nat) (r : Bool), m ≤ 15 ∧ o = .bool r ∧ k = .int .i64 m ∧ Hid (r = (al || (tmarks.take m).any (fun c => c.toNat == by8 l n)))) (fun _ k => 16 - (intOf k).toNat)
        case atStart => exact ⟨0, al, by omega, rfl, rfl, Lib.hid (by simp)⟩
        case round =>
          obtain ⟨m, r, hm, rfl, rfl, HR⟩ := hrel
          by_cases hmt : m < 15
          · have hmt' : (m : Int) < 15 := by omega
            have HS := Lib.hid (any_step (p := fun c => c.toNat == by8 l n) (l := tmarks) (n := m) (by simpa [tmarks] using hmt))
            rcases r with _ | _
            · have HX := Lib.hid (show (by8 tmarks m == by8 l n) = (al || (tmarks.take (m + 1)).any (fun c => c.toNat == by8 l n)) by rw [HS.out, ← Bool.or_assoc, ← HR.out]; rfl)
              clear HR HS
              go_wp2
              go_round
              case rel =>
                refine ⟨m + 1, _, by omega, rfl, by go_num, Lib.hid ?_⟩
                rw [← HX.out, Bool.eq_iff_iff]
                simp
                show (((by8 tmarks m : Nat) : Int) = ((by8 l n : Nat) : Int)) ↔ by8 tmarks m = by8 l n
                omega
              case measure => simp [intOf]; omega
            · have HX := Lib.hid (show true = (al || (tmarks.take (m + 1)).any (fun c => c.toNat == by8 l n)) by rw [HS.out, ← Bool.or_assoc, ← HR.out]; rfl)
              clear HR HS
              go_wp2
              go_round
              case rel => exact ⟨m + 1, _, by omega, rfl, by go_num, HX⟩
              case measure => simp [intOf]; omega
          · obtain rfl : m = 15 := by omega
            have HP := Lib.hid (show tokenB (by8 l n) = r by rw [HR.out, ← HTK.out, HB.out]; rfl)
            clear HR HTK HB
            rcases r with _ | _
            · have HN := Lib.hid (all_not (p := fun c => tokenB c.toNat) hlt (show tokenB (by8 l n) = false from HP.out))
              go_wp2
              go_ret
              exact ⟨by unfold okToken; rw [HN.out]; rfl, rfl⟩
            · have HN := Lib.hid (all_step (p := fun c => tokenB c.toNat) hlt H.out (show tokenB (by8 l n) = true from HP.out))
              go_wp2
              go_round
              case rel => exact ⟨n + 1, by omega, by go_num, HN⟩
              case measure => simp [intOf]; omega
    · obtain rfl : n = l.length := by omega
      have HN := Lib.hid (all_of (p := fun c => tokenB c.toNat) H.out)
      have hlt' : (l.length : Int) ≤ l.length := by omega
      by_cases h0 : l.length = 0
      · have d0 : decide ((0 : Int) < l.length) = false := decide_eq_false (by omega)
        go_wp2
        go_ret
        refine ⟨?_, rfl⟩
        unfold okToken
        rw [decide_eq_false (show ¬ 0 < l.length by omega)]
        simp
      · have d0 : decide ((0 : Int) < l.length) = true := decide_eq_true (by omega)
        go_wp2
        go_ret
        refine ⟨?_, rfl⟩
        unfold okToken
        rw [HN.out, decide_eq_true (show 0 < l.length by omega)]
        simp
        try omega
/-! ### small letters -/
def smallF (x : Int) : Int := if 65 ≤ x ∧ x ≤ 90 then x + 32 else x
theorem smallF_cons (c : UInt8) (r : Bytes) (h : c.toNat < 128) : Lib.mapD smallF (c :: r) = smallB c :: Lib.mapD smallF r := by
  rw [Lib.mapD_step _ _ (by simp), Lib.decodeL_ascii c r h]
  simp only
  have e0 : 0 ≤ smallF (c.toNat : Int) ∧ smallF (c.toNat : Int) < 128 := by unfold smallF; split <;> omega
  rw [if_pos e0.1, Lib.encodeRune, Lib.encodeRuneZ_one (by omega) (by omega)]
  have e1 : UInt8.ofNat (smallF (c.toNat : Int)).toNat = smallB c := by
    unfold smallF smallB
    by_cases h1 : 65 ≤ c.toNat ∧ c.toNat ≤ 90
    · rw [if_pos h1, if_pos (by omega)]
      congr 1
    · rw [if_neg h1, if_neg (by omega)]
      simp
  simp [e1]
theorem smallF_all : ∀ l : Bytes, (∀ c ∈ l, c.toNat < 128) → Lib.mapD smallF l = small l
  | [], _ => rfl
  | c :: r, h => by
    rw [smallF_cons c r (h c (by simp)), smallF_all r (fun x hx => h x (by simp [hx]))]
    rfl
set_option maxRecDepth 100000 in
theorem smallfun_any (W : World) (x : Nat) (hx : x ≤ 1114111) : Calls Tryz.prog 63 #[.int .i32 x] W fun e w' => e = .returned (.int .i32 (smallF x)) ∧ W = w' := by
  by_cases h1 : (65 : Int) ≤ x
  · by_cases h2 : (x : Int) ≤ 90
    · have e : smallF x = x + 32 := by unfold smallF; rw [if_pos ⟨h1, h2⟩]
      rw [e]
      have d1 : decide ((65 : Int) ≤ x) = true := decide_eq_true h1
      have d2 : decide ((x : Int) ≤ 90) = true := decide_eq_true h2
      clear e
      go_enter Tryz.func63, Tryz.ntmps63
      go_wp2
      go_ret
      exact ⟨rfl, rfl⟩
    · have e : smallF x = x := by unfold smallF; rw [if_neg (fun h => h2 h.2)]
      rw [e]
      have d1 : decide ((65 : Int) ≤ x) = true := decide_eq_true h1
      have d2 : decide ((x : Int) ≤ 90) = false := decide_eq_false h2
      clear e
      go_enter Tryz.func63, Tryz.ntmps63
      go_wp2
      go_ret
      exact ⟨rfl, rfl⟩
  · have e : smallF x = x := by unfold smallF; rw [if_neg (fun h => h1 h.1)]
    rw [e]
    have d1 : decide ((65 : Int) ≤ x) = false := decide_eq_false h1
    clear e
    go_enter Tryz.func63, Tryz.ntmps63
    go_wp2
    go_ret
    exact ⟨rfl, rfl⟩
theorem smap_any (l : Bytes) (w : World) (hT : Lib.Utf8Tabs 5 6 w) (hs : l.length ≤ 1000000000) (ha : ∀ c ∈ l, c.toNat < 128) :
    Calls Tryz.prog 62 #[.func (.func 63) #[] #[], .string ⟨l.toArray⟩] w fun e w' => e = .returned (.string ⟨(small l).toArray⟩) ∧ Pur w w' := by
  have hz : (ByteArray.mk l.toArray).size = l.length := by show l.toArray.size = _; simp
  rw [← smallF_all l ha]
  refine (Tryz.strings_Map_grows 63 #[] ?_ smallF ⟨l.toArray⟩ w (by rw [hz]; omega) ?_ ?_ hT).mono ?_
  · intro args W
    exact Go.Proofs.enters_of Tryz.func63 (by kernel_rfl) rfl args W
  · intro W x hx hb
    refine (smallfun_any W x hx).mono ?_
    rintro e w' ⟨rfl, rfl⟩
    exact ⟨rfl, Below.refl _ _⟩
  · intro x hx
    unfold smallF
    split <;> omega
  · rintro e w' ⟨rfl, hb⟩
    exact ⟨rfl, hb⟩
set_option maxRecDepth 100000 in
theorem small_any (l : Bytes) (w : World) (hT : Lib.Utf8Tabs 5 6 w) (hs : l.length ≤ 1000000000) (ha : ∀ c ∈ l, c.toNat < 128) :
    Calls Tryz.prog 38 #[.string ⟨l.toArray⟩] w fun e w' => e = .returned (.string ⟨(small l).toArray⟩) ∧ Pur w w' := by
  have M := smap_any l w hT hs ha
  go_enter Tryz.func38, Tryz.ntmps38
  go_wp2_with fail
  refine M.mono ?_
  rintro e w1 ⟨rfl, hp1⟩
  go_wp2
  go_ret
  exact ⟨rfl, hp1⟩
theorem small_step {l : Bytes} {n : Nat} (h : n < l.length) : small (l.take (n + 1)) = small (l.take n) ++ [smallB (l.getD n 0)] := by
  unfold small
  rw [List.take_succ_eq_append_getElem h, List.map_append]
  simp [List.getD_eq_getElem?_getD, h]
set_option maxRecDepth 100000 in
set_option maxHeartbeats 4000000 in
theorem rsmall_any (l : Bytes) (w : World) (hs : l.length ≤ 140737488351232) :
    Calls Tryz.prog 45 #[.string ⟨l.toArray⟩] w fun e w' => e = .returned (.string ⟨(small l).toArray⟩) ∧ Pur w w' := by
  go_enter Tryz.func45, Tryz.ntmps45
  go_wp2
  go_loopw [3, 4] (fun s k wr => ∃ (n : Nat) (o : Bytes), n ≤ l.length ∧ s = .string ⟨o.toArray⟩ ∧ k = .int .i64 n ∧ Pur w wr ∧ o.length = n ∧ Hid (o = small (l.take n))) (fun _ k _ => l.length + 1 - (intOf k).toNat)
  case atStart => exact ⟨0, [], by omega, rfl, rfl, Pur.refl w, rfl, Lib.hid rfl⟩
  case round =>
    obtain ⟨n, o, hn, rfl, rfl, hpr, hol, H⟩ := hrel
    by_cases hlt : n < l.length
    · have hlt' : (n : Int) < l.length := by omega
      have cb := by8_lt l n
      have HS := Lib.hid (small_step hlt)
      have hol1 : o.length ≤ n := by omega
      have hol2 : n ≤ o.length := by omega
      clear hol
      by_cases hu : 65 ≤ by8 l n ∧ by8 l n ≤ 90
      · have u1 : (65 : Int) ≤ by8 l n := by omega
        have u2 : (by8 l n : Int) ≤ 90 := by omega
        have HB := Lib.hid (show smallB (l.getD n 0) = B8 ((by8 l n : Int) + 32) by
          unfold smallB
          rw [if_pos (show 65 ≤ (l.getD n 0).toNat ∧ (l.getD n 0).toNat ≤ 90 from hu)]
          unfold B8 by8
          congr 1)
        clear hu
        go_wp2
        go_roundw
        case rel => exact ⟨n + 1, _, by omega, rfl, by go_num, hpr.alloc _, by simp; omega, Lib.hid (by rw [HS.out, HB.out, H.out])⟩
        case measure => simp [intOf]; omega
      · have HB := Lib.hid (show smallB (l.getD n 0) = B8 (by8 l n : Int) by
          unfold smallB
          rw [if_neg (show ¬ (65 ≤ (l.getD n 0).toNat ∧ (l.getD n 0).toNat ≤ 90) from hu)]
          unfold by8
          rw [B8_toNat])
        go_wp2
        all_goals
          first
          | omega
          | (go_roundw
             case rel => exact ⟨n + 1, _, by omega, rfl, by go_num, hpr.alloc _, by simp; omega, Lib.hid (by rw [HS.out, HB.out, H.out])⟩
             case measure => simp [intOf]; omega)
    · obtain rfl : n = l.length := by omega
      have hlt' : decide (l.length < l.length) = false := by simp
      have HF := Lib.hid (show o = small l by rw [H.out, List.take_length])
      clear hol H
      go_wp2
      go_ret
      exact ⟨by rw [HF.out]; rfl, hpr⟩
end Go.Proofs.YtlgdkaeiadhiaaaGreatDoor
