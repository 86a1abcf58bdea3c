/- Find, both; Same. -/
import Derived.Test.YthfoidodcfdpnaaDoorFld6
namespace Go.Proofs.YthfoidodcfdpnaaDoor
open Go Go.RowKit
theorem find_step {fs : List Fld} {n : Nat} {f : Fld} {name : Bytes} (h : fs[n]? = some f) : find (fs.drop n) name = if f.1 = name then (f.2, true) else find (fs.drop (n + 1)) name := by
  have hlt := (List.getElem?_eq_some_iff.1 h).1
  have e : fs.drop n = f :: fs.drop (n + 1) := by
    rw [List.drop_eq_getElem_cons hlt]
    rw [List.getElem?_eq_getElem hlt] at h
    rw [Option.some.inj h]
  rw [e, find, List.find?_cons]
  by_cases hn : f.1 = name
  · simp [hn]
  · have : (f.1 == name) = false := by simpa using hn
    rw [this, if_neg hn]
    rfl
theorem find_end (fs : List Fld) (name : Bytes) : find (fs.drop fs.length) name = ([], false) := by rw [List.drop_length]; rfl
set_option maxRecDepth 100000 in
set_option maxHeartbeats 1000000 in
theorem rfind_any (v : Value) (fs : List Fld) (name : Bytes) (w : World) (hR : FRead w v fs) (hs : fs.length ≤ 4611686018427387903) :
    Calls Tryd.prog 13 #[v, .string ⟨name.toArray⟩] w fun e w' => e = .returned (.tuple #[.string ⟨(find fs name).1.toArray⟩, .bool (find fs name).2]) ∧ w = w' := by
  obtain ⟨a, c, rfl, hC⟩ := hR
  go_enter Tryd.func13, Tryd.ntmps13
  go_wp2
  go_loop [6] (fun k => ∃ n : Nat, n ≤ fs.length ∧ k = .int .i64 n ∧ Hid (find fs name = find (fs.drop n) name)) (fun k => fs.length + 1 - (intOf k).toNat)
  case atStart => exact ⟨0, by omega, rfl, Lib.hid (by simp)⟩
  case round =>
    obtain ⟨n, hn, rfl, H⟩ := hrel
    by_cases hlt : n < fs.length
    · obtain ⟨f, hf⟩ : ∃ f, fs[n]? = some f := ⟨_, List.getElem?_eq_getElem hlt⟩
      obtain ⟨b, o, rfl, hb, c1, c2⟩ := hC n f hf
      rw [Nat.mul_comm 2 n] at c1 c2
      have HS := Lib.hid (find_step (name := name) hf)
      have hlt' : (n : Int) < fs.length := by omega
      by_cases he : f.1 = name
      · have hd : (f.1 == name) = true := by simpa using he
        have HF := Lib.hid (show find fs name = (f.2, true) by rw [H.out, HS.out, if_pos he])
        clear he hC hf
        go_wp2
        go_ret2
        exact ⟨by rw [HF.out]; rfl, rfl⟩
      · have hd : (f.1 == name) = false := by simpa using he
        have HF := Lib.hid (show find fs name = find (fs.drop (n + 1)) name by rw [H.out, HS.out, if_neg he])
        clear he hC hf
        go_wp2
        go_round
        case rel => exact ⟨n + 1, by omega, by go_num, HF⟩
        case measure => simp [intOf]; omega
    · obtain rfl : n = fs.length := by omega
      have HF := Lib.hid (show find fs name = ([], false) by rw [H.out, find_end])
      clear hC
      go_wp2
      go_ret2
      exact ⟨by rw [HF.out]; rfl, rfl⟩
set_option maxRecDepth 100000 in
set_option maxHeartbeats 1000000 in
theorem find_any (v : Value) (fs : List Fld) (name : Bytes) (w : World) (hR : FRead w v fs) (hs : fs.length ≤ 4611686018427387903) :
    Calls Tryd.prog 12 #[v, .string ⟨name.toArray⟩] w fun e w' => e = .returned (.tuple #[.string ⟨(find fs name).1.toArray⟩, .bool (find fs name).2]) ∧ Pur w w' := by
  obtain ⟨a, c, rfl, hC⟩ := hR
  go_enter Tryd.func12, Tryd.ntmps12
  go_wp2
  go_loopw [10] (fun k wr => ∃ n : Nat, n ≤ fs.length ∧ k = .int .i64 n ∧ Pur w wr ∧ Hid (find fs name = find (fs.drop n) name)) (fun k _ => fs.length + 1 - (intOf k).toNat)
  case atStart => exact ⟨0, by omega, rfl, Pur.refl w, Lib.hid (by simp)⟩
  case round =>
    obtain ⟨n, hn, rfl, hpr, H⟩ := hrel
    by_cases hlt : n < fs.length
    · obtain ⟨f, hf⟩ : ∃ f, fs[n]? = some f := ⟨_, List.getElem?_eq_getElem hlt⟩
      obtain ⟨b, o, rfl, hb, c1, c2⟩ := hC n f hf
      rw [Nat.mul_comm 2 n] at c1 c2
      have c1 := (hpr.cell (p := ⟨b, o + n * 2, none⟩) hb).trans c1
      have c2 := (hpr.cell (p := ⟨b, o + n * 2 + 1, none⟩) hb).trans c2
      have HS := Lib.hid (find_step (name := name) hf)
      have hlt' : (n : Int) < fs.length := by omega
      by_cases he : f.1 = name
      · have hd : (f.1 == name) = true := by simpa using he
        have HF := Lib.hid (show find fs name = (f.2, true) by rw [H.out, HS.out, if_pos he])
        clear he hC hf
        go_wp2
        go_ret2
        exact ⟨by rw [HF.out]; rfl, hpr.alloc _⟩
      · have hd : (f.1 == name) = false := by simpa using he
        have HF := Lib.hid (show find fs name = find (fs.drop (n + 1)) name by rw [H.out, HS.out, if_neg he])
        clear he hC hf
        go_wp2
        go_roundw
        case rel => exact ⟨n + 1, by omega, by go_num, hpr.alloc _, HF⟩
        case measure => simp [intOf]; omega
    · obtain rfl : n = fs.length := by omega
      have HF := Lib.hid (show find fs name = ([], false) by rw [H.out, find_end])
      clear hC
      go_wp2
      go_ret2
      exact ⟨by rw [HF.out]; rfl, hpr⟩
end Go.Proofs.YthfoidodcfdpnaaDoor
