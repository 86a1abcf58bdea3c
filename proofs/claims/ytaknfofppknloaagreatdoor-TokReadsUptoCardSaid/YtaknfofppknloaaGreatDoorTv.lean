/- Those of the layer utf's contracts that this seat's dump has. -/
import Derived.Test.YtaknfofppknloaaGreatDoorTu
import Derived.Test.YtaknfofppknloaaGreatDoorUtfPure4
namespace Go.Proofs.YtaknfofppknloaaGreatDoor
open Go Go.RowKit
set_option linter.all false
theorem nar_cases2 (l : List UInt8) (n : Nat) : (at16 l n < 55296 ∧ n + 1 < l.length / 2) ∨ (at16 l n < 55296 ∧ l.length / 2 ≤ n + 1) ∨ (57344 ≤ at16 l n ∧ n + 1 < l.length / 2) ∨ (57344 ≤ at16 l n ∧ l.length / 2 ≤ n + 1) ∨ (55296 ≤ at16 l n ∧ at16 l n < 56320 ∧ n + 1 < l.length / 2 ∧ 56320 ≤ at16 l (n + 1) ∧ at16 l (n + 1) < 57344) ∨ (55296 ≤ at16 l n ∧ at16 l n < 56320 ∧ l.length / 2 ≤ n + 1) ∨ (55296 ≤ at16 l n ∧ at16 l n < 56320 ∧ n + 1 < l.length / 2 ∧ at16 l (n + 1) < 56320) ∨ (55296 ≤ at16 l n ∧ at16 l n < 56320 ∧ n + 1 < l.length / 2 ∧ 57344 ≤ at16 l (n + 1)) ∨ (56320 ≤ at16 l n ∧ at16 l n < 57344 ∧ n + 1 < l.length / 2) ∨ (56320 ≤ at16 l n ∧ at16 l n < 57344 ∧ l.length / 2 ≤ n + 1) := by omega
theorem rnarrow_odd (l : List UInt8) (w : World) (hs : l.length ≤ 1000000) (h : l.length % 2 = 1) :
    Calls Tryz.prog 77 #[.string ⟨l.toArray⟩] w fun e w' => e = .returned (.tuple #[.string ⟨(narR l).1.toArray⟩, .int .i64 (narR l).2]) ∧ Pur w w' := by
  have hd : (((l.length : Int) % 2) == 1) = true := by simp; omega
  have HN := Lib.hid (show narR l = ([], 11) by rw [narR, if_pos h])
  clear h
  go_enter Tryz.func77, Tryz.ntmps77
  go_wp2
  go_ret2
  exact ⟨by rw [HN.out]; rfl, Pur.refl w⟩
set_option maxHeartbeats 1000000 in
theorem rnarrow_even (l : List UInt8) (w : World) (hs : l.length ≤ 1000000) (h : l.length % 2 = 0) :
    Calls Tryz.prog 77 #[.string ⟨l.toArray⟩] w fun e w' => e = .returned (.tuple #[.string ⟨(narR l).1.toArray⟩, .int .i64 (narR l).2]) ∧ Pur w w' := by
  have hd : (((l.length : Int) % 2) == 1) = false := by simp; omega
  have HN := Lib.hid (show narR l = (narGo l 0 [], 0) by rw [narR, if_neg (by omega)])
  clear h
  go_enter Tryz.func77, Tryz.ntmps77
  go_wp2
  go_loopw [4, 5] (fun o i wr => ∃ (n : Nat) (acc : List UInt8), n ≤ l.length / 2 ∧ i = .int .i64 n ∧ acc.length ≤ 4 * n ∧ o = .string ⟨acc.toArray⟩ ∧ Pur w wr ∧ Hid (narGo l 0 [] = narGo l n acc)) (fun _ i _ => l.length / 2 + 1 - (intOf i).toNat)
  case atStart => exact ⟨0, [], by omega, rfl, by simp, rfl, Pur.refl w, Lib.hid rfl⟩
  case round =>
    obtain ⟨n, acc, hn, rfl, hacc, rfl, hpr, H⟩ := hrel
    by_cases hlt : n < l.length / 2
    · have HG := Lib.hid (show narGo l n acc = narGo l (n + (nst l n).2) (acc ++ enc (nst l n).1) by rw [narGo, if_pos hlt])
      have h16 := at16_lt l n
      have h17 := at16_lt l (n + 1)
      have hend := nst_end l n hlt
      have hlt' : (n : Int) < (l.length : Int) / 2 := by omega
      have hcs := nar_cases2 l n
      clear hd
      rcases hcs with hcc | hcc | hcc | hcc | hcc | hcc | hcc | hcc | hcc | hcc
      · have hq : nst l n = (at16 l n, 1) := by rw [nst, if_neg (by omega), if_neg (by omega)]
        rw [hq] at hend
        have HQ := Lib.hid hq
        clear hq
        have hle := enc_length_le (at16 l n)
        have R1 : decide (55296 ≤ (at16 l n : Int)) = false := by simp; omega
        have hcn : (n : Int) + 1 < (l.length : Int) / 2 := by omega
        clear hcc
        go_wp2_with fail
        refine (rat_in _ _ _ (by omega) (by omega)).mono ?_
        rintro e w1 ⟨rfl, hp1⟩
        go_wp2_with fail
        refine (rat_in _ (n + 1) _ (by omega) (by omega)).mono ?_
        rintro e w2 ⟨rfl, hp2⟩
        go_wp2_with fail
        refine (rbytes_any _ _ (by omega) (by omega)).mono ?_
        rintro e w3 ⟨rfl, hp3⟩
        rw [show (_ : Int).toNat = at16 l n from by omega]
        go_wp2
        go_roundw
        case rel =>
          refine ⟨n + 1, acc ++ enc (at16 l n), by omega, by go_num, by rw [List.length_append]; omega, rfl, ((hpr.trans hp1).trans hp2).trans hp3, Lib.hid ?_⟩
          rw [H.out, HG.out, HQ.out]
        case measure => simp [intOf]; omega
      · have hq : nst l n = (at16 l n, 1) := by rw [nst, if_neg (by omega), if_neg (by omega)]
        rw [hq] at hend
        have HQ := Lib.hid hq
        clear hq
        have hle := enc_length_le (at16 l n)
        have R1 : decide (55296 ≤ (at16 l n : Int)) = false := by simp; omega
        have hcn : (l.length : Int) / 2 ≤ (n : Int) + 1 := by omega
        clear hcc
        go_wp2_with fail
        refine (rat_in _ _ _ (by omega) (by omega)).mono ?_
        rintro e w1 ⟨rfl, hp1⟩
        go_wp2_with fail
        refine (rat_out _ _ _ (by omega) (by omega)).mono ?_
        rintro e w2 ⟨rfl, hp2⟩
        go_wp2_with fail
        refine (rbytes_any _ _ (by omega) (by omega)).mono ?_
        rintro e w3 ⟨rfl, hp3⟩
        rw [show (_ : Int).toNat = at16 l n from by omega]
        go_wp2
        go_roundw
        case rel =>
          refine ⟨n + 1, acc ++ enc (at16 l n), by omega, by go_num, by rw [List.length_append]; omega, rfl, ((hpr.trans hp1).trans hp2).trans hp3, Lib.hid ?_⟩
          rw [H.out, HG.out, HQ.out]
        case measure => simp [intOf]; omega
      · have hq : nst l n = (at16 l n, 1) := by rw [nst, if_neg (by omega), if_neg (by omega)]
        rw [hq] at hend
        have HQ := Lib.hid hq
        clear hq
        have hle := enc_length_le (at16 l n)
        have R1 : decide (55296 ≤ (at16 l n : Int)) = true := by simp; omega
        have R2 : decide ((at16 l n : Int) ≤ 56319) = false := by simp; omega
        have R5 : decide ((at16 l n : Int) ≤ 57343) = false := by simp; omega
        have hcn : (n : Int) + 1 < (l.length : Int) / 2 := by omega
        clear hcc
        go_wp2_with fail
        refine (rat_in _ _ _ (by omega) (by omega)).mono ?_
        rintro e w1 ⟨rfl, hp1⟩
        go_wp2_with fail
        refine (rat_in _ (n + 1) _ (by omega) (by omega)).mono ?_
        rintro e w2 ⟨rfl, hp2⟩
        go_wp2_with fail
        refine (rbytes_any _ _ (by omega) (by omega)).mono ?_
        rintro e w3 ⟨rfl, hp3⟩
        rw [show (_ : Int).toNat = at16 l n from by omega]
        go_wp2
        go_roundw
        case rel =>
          refine ⟨n + 1, acc ++ enc (at16 l n), by omega, by go_num, by rw [List.length_append]; omega, rfl, ((hpr.trans hp1).trans hp2).trans hp3, Lib.hid ?_⟩
          rw [H.out, HG.out, HQ.out]
        case measure => simp [intOf]; omega
      · have hq : nst l n = (at16 l n, 1) := by rw [nst, if_neg (by omega), if_neg (by omega)]
        rw [hq] at hend
        have HQ := Lib.hid hq
        clear hq
        have hle := enc_length_le (at16 l n)
        have R1 : decide (55296 ≤ (at16 l n : Int)) = true := by simp; omega
        have R2 : decide ((at16 l n : Int) ≤ 56319) = false := by simp; omega
        have R5 : decide ((at16 l n : Int) ≤ 57343) = false := by simp; omega
        have hcn : (l.length : Int) / 2 ≤ (n : Int) + 1 := by omega
        clear hcc
        go_wp2_with fail
        refine (rat_in _ _ _ (by omega) (by omega)).mono ?_
        rintro e w1 ⟨rfl, hp1⟩
        go_wp2_with fail
        refine (rat_out _ _ _ (by omega) (by omega)).mono ?_
        rintro e w2 ⟨rfl, hp2⟩
        go_wp2_with fail
        refine (rbytes_any _ _ (by omega) (by omega)).mono ?_
        rintro e w3 ⟨rfl, hp3⟩
        rw [show (_ : Int).toNat = at16 l n from by omega]
        go_wp2
        go_roundw
        case rel =>
          refine ⟨n + 1, acc ++ enc (at16 l n), by omega, by go_num, by rw [List.length_append]; omega, rfl, ((hpr.trans hp1).trans hp2).trans hp3, Lib.hid ?_⟩
          rw [H.out, HG.out, HQ.out]
        case measure => simp [intOf]; omega
      · have hq : nst l n = (65536 + (at16 l n - 55296) * 1024 + at16 l (n + 1) - 56320, 2) := by rw [nst, if_pos (by omega)]
        rw [hq] at hend
        have HQ := Lib.hid hq
        clear hq
        have hle := enc_length_le (65536 + (at16 l n - 55296) * 1024 + at16 l (n + 1) - 56320)
        have R1 : decide (55296 ≤ (at16 l n : Int)) = true := by simp; omega
        have R2 : decide ((at16 l n : Int) ≤ 56319) = true := by simp; omega
        have R3 : decide (56320 ≤ (at16 l (n + 1) : Int)) = true := by simp; omega
        have R4 : decide ((at16 l (n + 1) : Int) ≤ 57343) = true := by simp; omega
        have hcn : (n : Int) + 1 < (l.length : Int) / 2 := by omega
        have E9 := Lib.hid (show ((65536 : Int) + ((at16 l n : Int) - 55296) * 1024 + (at16 l (n + 1) : Int) - 56320).toNat = 65536 + (at16 l n - 55296) * 1024 + at16 l (n + 1) - 56320 by omega)
        have g1 : (55296 : Int) ≤ at16 l n := by omega
        have g2 : (at16 l n : Int) ≤ 56319 := by omega
        have g3 : (56320 : Int) ≤ at16 l (n + 1) := by omega
        have g4 : (at16 l (n + 1) : Int) ≤ 57343 := by omega
        clear hcc
        go_wp2_with fail
        refine (rat_in _ _ _ (by omega) (by omega)).mono ?_
        rintro e w1 ⟨rfl, hp1⟩
        go_wp2_with fail
        refine (rat_in _ (n + 1) _ (by omega) (by omega)).mono ?_
        rintro e w2 ⟨rfl, hp2⟩
        go_wp2_with fail
        refine (rbytes_any _ _ (by omega) (by omega)).mono ?_
        rintro e w3 ⟨rfl, hp3⟩
        rw [E9.out]
        go_wp2
        go_roundw
        case rel =>
          refine ⟨n + 2, acc ++ enc (65536 + (at16 l n - 55296) * 1024 + at16 l (n + 1) - 56320), by omega, by go_num, by rw [List.length_append]; omega, rfl, ((hpr.trans hp1).trans hp2).trans hp3, Lib.hid ?_⟩
          rw [H.out, HG.out, HQ.out]
        case measure => simp [intOf]; omega
      · have hq : nst l n = (65533, 1) := by rw [nst, if_neg (by omega), if_pos (by omega)]
        rw [hq] at hend
        have HQ := Lib.hid hq
        clear hq
        have hle := enc_length_le (65533)
        have R1 : decide (55296 ≤ (at16 l n : Int)) = true := by simp; omega
        have R2 : decide ((at16 l n : Int) ≤ 56319) = true := by simp; omega
        have R5 : decide ((at16 l n : Int) ≤ 57343) = true := by simp; omega
        have hcn : (l.length : Int) / 2 ≤ (n : Int) + 1 := by omega
        clear hcc
        go_wp2_with fail
        refine (rat_in _ _ _ (by omega) (by omega)).mono ?_
        rintro e w1 ⟨rfl, hp1⟩
        go_wp2_with fail
        refine (rat_out _ _ _ (by omega) (by omega)).mono ?_
        rintro e w2 ⟨rfl, hp2⟩
        go_wp2_with fail
        refine (rbytes_any _ _ (by omega) (by omega)).mono ?_
        rintro e w3 ⟨rfl, hp3⟩
        rw [show (_ : Int).toNat = 65533 from by omega]
        go_wp2
        go_roundw
        case rel =>
          refine ⟨n + 1, acc ++ enc (65533), by omega, by go_num, by rw [List.length_append]; omega, rfl, ((hpr.trans hp1).trans hp2).trans hp3, Lib.hid ?_⟩
          rw [H.out, HG.out, HQ.out]
        case measure => simp [intOf]; omega
      · have hq : nst l n = (65533, 1) := by rw [nst, if_neg (by omega), if_pos (by omega)]
        rw [hq] at hend
        have HQ := Lib.hid hq
        clear hq
        have hle := enc_length_le (65533)
        have R1 : decide (55296 ≤ (at16 l n : Int)) = true := by simp; omega
        have R2 : decide ((at16 l n : Int) ≤ 56319) = true := by simp; omega
        have R3 : decide (56320 ≤ (at16 l (n + 1) : Int)) = false := by simp; omega
        have R5 : decide ((at16 l n : Int) ≤ 57343) = true := by simp; omega
        have hcn : (n : Int) + 1 < (l.length : Int) / 2 := by omega
        clear hcc
        go_wp2_with fail
        refine (rat_in _ _ _ (by omega) (by omega)).mono ?_
        rintro e w1 ⟨rfl, hp1⟩
        go_wp2_with fail
        refine (rat_in _ (n + 1) _ (by omega) (by omega)).mono ?_
        rintro e w2 ⟨rfl, hp2⟩
        go_wp2_with fail
        refine (rbytes_any _ _ (by omega) (by omega)).mono ?_
        rintro e w3 ⟨rfl, hp3⟩
        rw [show (_ : Int).toNat = 65533 from by omega]
        go_wp2
        go_roundw
        case rel =>
          refine ⟨n + 1, acc ++ enc (65533), by omega, by go_num, by rw [List.length_append]; omega, rfl, ((hpr.trans hp1).trans hp2).trans hp3, Lib.hid ?_⟩
          rw [H.out, HG.out, HQ.out]
        case measure => simp [intOf]; omega
      · have hq : nst l n = (65533, 1) := by rw [nst, if_neg (by omega), if_pos (by omega)]
        rw [hq] at hend
        have HQ := Lib.hid hq
        clear hq
        have hle := enc_length_le (65533)
        have R1 : decide (55296 ≤ (at16 l n : Int)) = true := by simp; omega
        have R2 : decide ((at16 l n : Int) ≤ 56319) = true := by simp; omega
        have R3 : decide (56320 ≤ (at16 l (n + 1) : Int)) = true := by simp; omega
        have R4 : decide ((at16 l (n + 1) : Int) ≤ 57343) = false := by simp; omega
        have R5 : decide ((at16 l n : Int) ≤ 57343) = true := by simp; omega
        have hcn : (n : Int) + 1 < (l.length : Int) / 2 := by omega
        clear hcc
        go_wp2_with fail
        refine (rat_in _ _ _ (by omega) (by omega)).mono ?_
        rintro e w1 ⟨rfl, hp1⟩
        go_wp2_with fail
        refine (rat_in _ (n + 1) _ (by omega) (by omega)).mono ?_
        rintro e w2 ⟨rfl, hp2⟩
        go_wp2_with fail
        refine (rbytes_any _ _ (by omega) (by omega)).mono ?_
        rintro e w3 ⟨rfl, hp3⟩
        rw [show (_ : Int).toNat = 65533 from by omega]
        go_wp2
        go_roundw
        case rel =>
          refine ⟨n + 1, acc ++ enc (65533), by omega, by go_num, by rw [List.length_append]; omega, rfl, ((hpr.trans hp1).trans hp2).trans hp3, Lib.hid ?_⟩
          rw [H.out, HG.out, HQ.out]
        case measure => simp [intOf]; omega
      · have hq : nst l n = (65533, 1) := by rw [nst, if_neg (by omega), if_pos (by omega)]
        rw [hq] at hend
        have HQ := Lib.hid hq
        clear hq
        have hle := enc_length_le (65533)
        have R1 : decide (55296 ≤ (at16 l n : Int)) = true := by simp; omega
        have R2 : decide ((at16 l n : Int) ≤ 56319) = false := by simp; omega
        have R5 : decide ((at16 l n : Int) ≤ 57343) = true := by simp; omega
        have hcn : (n : Int) + 1 < (l.length : Int) / 2 := by omega
        clear hcc
        go_wp2_with fail
        refine (rat_in _ _ _ (by omega) (by omega)).mono ?_
        rintro e w1 ⟨rfl, hp1⟩
        go_wp2_with fail
        refine (rat_in _ (n + 1) _ (by omega) (by omega)).mono ?_
        rintro e w2 ⟨rfl, hp2⟩
        go_wp2_with fail
        refine (rbytes_any _ _ (by omega) (by omega)).mono ?_
        rintro e w3 ⟨rfl, hp3⟩
        rw [show (_ : Int).toNat = 65533 from by omega]
        go_wp2
        go_roundw
        case rel =>
          refine ⟨n + 1, acc ++ enc (65533), by omega, by go_num, by rw [List.length_append]; omega, rfl, ((hpr.trans hp1).trans hp2).trans hp3, Lib.hid ?_⟩
          rw [H.out, HG.out, HQ.out]
        case measure => simp [intOf]; omega
      · have hq : nst l n = (65533, 1) := by rw [nst, if_neg (by omega), if_pos (by omega)]
        rw [hq] at hend
        have HQ := Lib.hid hq
        clear hq
        have hle := enc_length_le (65533)
        have R1 : decide (55296 ≤ (at16 l n : Int)) = true := by simp; omega
        have R2 : decide ((at16 l n : Int) ≤ 56319) = false := by simp; omega
        have R5 : decide ((at16 l n : Int) ≤ 57343) = true := by simp; omega
        have hcn : (l.length : Int) / 2 ≤ (n : Int) + 1 := by omega
        clear hcc
        go_wp2_with fail
        refine (rat_in _ _ _ (by omega) (by omega)).mono ?_
        rintro e w1 ⟨rfl, hp1⟩
        go_wp2_with fail
        refine (rat_out _ _ _ (by omega) (by omega)).mono ?_
        rintro e w2 ⟨rfl, hp2⟩
        go_wp2_with fail
        refine (rbytes_any _ _ (by omega) (by omega)).mono ?_
        rintro e w3 ⟨rfl, hp3⟩
        rw [show (_ : Int).toNat = 65533 from by omega]
        go_wp2
        go_roundw
        case rel =>
          refine ⟨n + 1, acc ++ enc (65533), by omega, by go_num, by rw [List.length_append]; omega, rfl, ((hpr.trans hp1).trans hp2).trans hp3, Lib.hid ?_⟩
          rw [H.out, HG.out, HQ.out]
        case measure => simp [intOf]; omega
    · obtain rfl : n = l.length / 2 := by omega
      go_wp2
      go_ret2
      refine ⟨?_, hpr⟩
      rw [HN.out, H.out, narGo, if_neg (by omega)]
      rfl
theorem rnarrow_any (l : List UInt8) (w : World) (hs : l.length ≤ 1000000) :
    Calls Tryz.prog 77 #[.string ⟨l.toArray⟩] w fun e w' => e = .returned (.tuple #[.string ⟨(narR l).1.toArray⟩, .int .i64 (narR l).2]) ∧ Pur w w' := by
  by_cases h : l.length % 2 = 1
  · exact rnarrow_odd l w hs h
  · exact rnarrow_even l w hs (by omega)
end Go.Proofs.YtaknfofppknloaaGreatDoor
