/- How often a header stands, both; a request's first line, both. -/
import Derived.Test.YtlgdkaeiadhiaaaGreatDoorHt5
namespace Go.Proofs.YtlgdkaeiadhiaaaGreatDoor
open Go Go.RowKit
set_option linter.all false
/-- fields as cells -/
def fcells (fs : List Fld) : List Value := fs.flatMap fun f => [.string ⟨f.1.toArray⟩, .string ⟨f.2.toArray⟩]
theorem fcells_snoc (fs : List Fld) (f : Fld) : fcells fs ++ [.string ⟨f.1.toArray⟩, .string ⟨f.2.toArray⟩] = fcells (fs ++ [f]) := by simp [fcells]
theorem fcells_at : ∀ (fs : List Fld) (j : Nat) (f : Fld), fs[j]? = some f → (fcells fs)[2 * j]? = some (.string ⟨f.1.toArray⟩) ∧ (fcells fs)[2 * j + 1]? = some (.string ⟨f.2.toArray⟩)
  | [], j, f, h => by simp at h
  | g :: fs, 0, f, h => by
    obtain rfl : g = f := by simpa using h
    exact ⟨rfl, rfl⟩
  | g :: fs, j + 1, f, h => by
    have := fcells_at fs j f (by simpa using h)
    simp only [fcells, List.flatMap_cons] at this ⊢
    rw [show 2 * (j + 1) = 2 * j + 1 + 1 by omega]
    exact this
/-- v is a slice of fields that reads as fs. -/
def FRead (w : World) (v : Value) (fs : List Fld) : Prop :=
  ∃ a c, v = .slice a fs.length c ∧ ∀ (j : Nat) f, fs[j]? = some f → ∃ b o, a = some ⟨b, o, none⟩ ∧ b < w.heap.size ∧ w.cell? ⟨b, o + j * 2, none⟩ = some (.string ⟨f.1.toArray⟩) ∧ w.cell? ⟨b, o + j * 2 + 1, none⟩ = some (.string ⟨f.2.toArray⟩)
theorem FRead.pur {w w' : World} {v : Value} {fs : List Fld} (h : FRead w v fs) (hp : Pur w w') : FRead w' v fs := by
  obtain ⟨a, c, h1, h2⟩ := h
  refine ⟨a, c, h1, fun j f hj => ?_⟩
  obtain ⟨b, o, e, hb, c1, c2⟩ := h2 j f hj
  exact ⟨b, o, e, Nat.lt_of_lt_of_le hb hp.size, (hp.cell hb).trans c1, (hp.cell hb).trans c2⟩
theorem FRead.nil (w : World) : FRead w (.slice none 0 0) [] := ⟨none, 0, rfl, fun j f h => by simp at h⟩
theorem FRead.of_own {w : World} {B : Nat} {e : TypeId} {v : Value} {fs : List Fld} (h : w.ownsRow B e 2 v fs.length (fcells fs)) : FRead w v fs := by
  obtain ⟨h1, h2⟩ := id h
  rcases h2 with ⟨rfl, h0⟩ | ⟨g, cap, cur, rfl, hb, hg, _⟩
  · obtain rfl : fs = [] := List.length_eq_zero_iff.1 h0
    exact FRead.nil w
  · refine ⟨_, _, rfl, fun j f hj => ⟨g, 0, rfl, (Array.getElem?_eq_some_iff.1 hg).1, ?_, ?_⟩⟩
    · have := h.cells (g := g) rfl (2 * j) _ (fcells_at fs j f hj).1
      rw [add_zero'] at this
      rw [Nat.zero_add, Nat.mul_comm]
      exact this
    · have := h.cells (g := g) rfl (2 * j + 1) _ (fcells_at fs j f hj).2
      rw [add_zero'] at this
      rw [Nat.zero_add, Nat.mul_comm]
      exact this
theorem cnt_step {hs : List Fld} {k : Nat} {f : Fld} {name : Bytes} (h : hs[k]? = some f) : cnt (hs.take (k + 1)) name = cnt (hs.take k) name + (if f.1 = name then 1 else 0) := by
  have hlt := (List.getElem?_eq_some_iff.1 h).1
  have e : hs.take (k + 1) = hs.take k ++ [f] := by
    rw [List.take_succ_eq_append_getElem hlt]
    rw [List.getElem?_eq_getElem hlt] at h
    rw [Option.some.inj h]
  unfold cnt
  rw [e, List.filter_append, List.length_append]
  congr 1
  by_cases hn : f.1 = name <;> simp [hn]
theorem fst_step {hs : List Fld} {k : Nat} {f : Fld} {name : Bytes} (h : hs[k]? = some f) : fst' (hs.take (k + 1)) name = if f.1 = name ∧ cnt (hs.take k) name = 0 then f.2 else fst' (hs.take k) name := by
  have hlt := (List.getElem?_eq_some_iff.1 h).1
  have e : hs.take (k + 1) = hs.take k ++ [f] := by
    rw [List.take_succ_eq_append_getElem hlt]
    rw [List.getElem?_eq_getElem hlt] at h
    rw [Option.some.inj h]
  have hc : cnt (hs.take k) name = 0 ↔ (hs.take k).find? (fun f => decide (f.1 = name)) = none := by
    unfold cnt
    rw [List.length_eq_zero_iff, List.filter_eq_nil_iff, List.find?_eq_none]
  rw [e]
  unfold fst'
  rw [List.find?_append]
  cases hf : (hs.take k).find? (fun f => decide (f.1 = name)) with
  | some x =>
    rw [if_neg (fun h => by rw [hc, hf] at h; cases h.2)]
    rfl
  | none =>
    by_cases hn : f.1 = name
    · rw [if_pos ⟨hn, hc.2 hf⟩]
      simp [hn]
    · rw [if_neg (fun h => hn h.1)]
      simp [hn]
theorem cnt_le (hs : List Fld) (name : Bytes) : cnt hs name ≤ hs.length := List.length_filter_le _ _
set_option maxRecDepth 100000 in
set_option maxHeartbeats 4000000 in
theorem count_any (g : Nat) (hs : List Fld) (v : Value) (name : Bytes) (w : World) (hv : w.cell? ⟨g, 1, none⟩ = some v) (hR : FRead w v hs) (hl : hs.length ≤ 1000000) :
    Calls Tryz.prog 22 #[.pointer (some ⟨g, 0, none⟩), .string ⟨name.toArray⟩] w fun e w' => e = .returned (.tuple #[.int .i64 (cnt hs name : Nat), .string ⟨(fst' hs name).toArray⟩]) ∧ Pur w w' := by
  obtain ⟨a, c, rfl, hC⟩ := hR
  go_enter Tryz.func22, Tryz.ntmps22
  go_wp2
  go_loopw [6, 7, 15] (fun n s k wr => ∃ (m : Nat) (N : Nat) (S : Bytes), m ≤ hs.length ∧ n = .int .i64 N ∧ s = .string ⟨S.toArray⟩ ∧ k = .int .i64 m ∧ N ≤ m ∧ Pur w wr ∧ Hid (N = cnt (hs.take m) name ∧ S = fst' (hs.take m) name)) (fun _ _ k _ => hs.length + 1 - (intOf k).toNat)
  case atStart => exact ⟨0, 0, [], by omega, rfl, rfl, rfl, by omega, Pur.refl w, Lib.hid ⟨rfl, rfl⟩⟩
  case round =>
    obtain ⟨m, N, S, hm, rfl, rfl, rfl, hNm, hpr, H⟩ := hrel
    by_cases hlt : m < hs.length
    · obtain ⟨f, hf⟩ : ∃ f, hs[m]? = some f := ⟨_, List.getElem?_eq_getElem hlt⟩
      obtain ⟨b, o, rfl, hb, c1, c2⟩ := hC m f hf
      have c1 := (hpr.cell (p := ⟨b, o + m * 2, none⟩) hb).trans c1
      have c2 := (hpr.cell (p := ⟨b, o + m * 2 + 1, none⟩) hb).trans c2
      have hlt' : (m : Int) < hs.length := by omega
      have HC := Lib.hid (cnt_step (name := name) hf)
      have HF := Lib.hid (fst_step (name := name) hf)
      by_cases hn : f.1 = name
      · have t1 : (f.1 == name) = true := by simp [hn]
        by_cases h0 : N = 0
        · have HN := Lib.hid (show 0 + 1 = cnt (hs.take (m + 1)) name ∧ f.2 = fst' (hs.take (m + 1)) name by
            have := H.out
            rw [HC.out, HF.out, ← this.1, if_pos hn, if_pos ⟨hn, h0⟩, h0]
            exact ⟨rfl, rfl⟩)
          subst h0
          clear hn hf hC H HC HF
          go_wp2
          go_roundw
          case rel => exact ⟨m + 1, 0 + 1, f.2, by omega, rfl, rfl, by go_num, by omega, hpr.alloc _, HN⟩
          case measure => simp [intOf]; omega
        · have t0 : ((N : Int) == 0) = false := by simp only [beq_eq_false_iff_ne, ne_eq]; omega
          have HN := Lib.hid (show N + 1 = cnt (hs.take (m + 1)) name ∧ S = fst' (hs.take (m + 1)) name by
            have := H.out
            rw [HC.out, HF.out, ← this.1, if_pos hn, if_neg (fun h => h0 h.2)]
            exact ⟨rfl, this.2⟩)
          clear hn hf hC H HC HF h0
          go_wp2
          go_roundw
          case rel => exact ⟨m + 1, N + 1, S, by omega, by go_num, rfl, by go_num, by omega, hpr.alloc _, HN⟩
          case measure => simp [intOf]; omega
      · have t1 : (f.1 == name) = false := by simpa using hn
        have HN := Lib.hid (show N = cnt (hs.take (m + 1)) name ∧ S = fst' (hs.take (m + 1)) name by
          have := H.out
          rw [HC.out, HF.out, ← this.1, if_neg hn, if_neg (fun h => hn h.1)]
          exact ⟨rfl, this.2⟩)
        clear hn hf hC H HC HF
        go_wp2
        go_roundw
        case rel => exact ⟨m + 1, N, S, by omega, rfl, rfl, by go_num, by omega, hpr.alloc _, HN⟩
        case measure => simp [intOf]; omega
    · obtain rfl : m = hs.length := by omega
      have HN := Lib.hid (show N = cnt hs name ∧ S = fst' hs name by have := H.out; rw [List.take_length] at this; exact this)
      clear hC H
      go_wp2
      go_ret2
      exact ⟨by rw [← HN.out.1, ← HN.out.2]; rfl, hpr⟩
set_option maxRecDepth 100000 in
set_option maxHeartbeats 4000000 in
theorem rcount_any (x0 x2 x3 : Value) (hs : List Fld) (v : Value) (name : Bytes) (w : World) (hR : FRead w v hs) (hl : hs.length ≤ 1000000) :
    Calls Tryz.prog 25 #[.agg #[x0, v, x2, x3], .string ⟨name.toArray⟩] w fun e w' => e = .returned (.tuple #[.int .i64 (cnt hs name : Nat), .string ⟨(fst' hs name).toArray⟩]) ∧ Pur w w' := by
  obtain ⟨a, c, rfl, hC⟩ := hR
  go_enter Tryz.func25, Tryz.ntmps25
  go_wp2
  go_loop [6, 7, 8] (fun n s k => ∃ (m : Nat) (N : Nat) (S : Bytes), m ≤ hs.length ∧ n = .int .i64 N ∧ s = .string ⟨S.toArray⟩ ∧ k = .int .i64 m ∧ N ≤ m ∧ Hid (N = cnt (hs.take m) name ∧ S = fst' (hs.take m) name)) (fun _ _ k => hs.length + 1 - (intOf k).toNat)
  case atStart => exact ⟨0, 0, [], by omega, rfl, rfl, rfl, by omega, Lib.hid ⟨rfl, rfl⟩⟩
  case round =>
    obtain ⟨m, N, S, hm, rfl, rfl, rfl, hNm, H⟩ := hrel
    by_cases hlt : m < hs.length
    · obtain ⟨f, hf⟩ : ∃ f, hs[m]? = some f := ⟨_, List.getElem?_eq_getElem hlt⟩
      obtain ⟨b, o, rfl, hb, c1, c2⟩ := hC m f hf
      have hlt' : (m : Int) < hs.length := by omega
      have HC := Lib.hid (cnt_step (name := name) hf)
      have HF := Lib.hid (fst_step (name := name) hf)
      by_cases hn : f.1 = name
      · have t1 : (f.1 == name) = true := by simp [hn]
        by_cases h0 : N = 0
        · have HN := Lib.hid (show 0 + 1 = cnt (hs.take (m + 1)) name ∧ f.2 = fst' (hs.take (m + 1)) name by
            have := H.out
            rw [HC.out, HF.out, ← this.1, if_pos hn, if_pos ⟨hn, h0⟩, h0]
            exact ⟨rfl, rfl⟩)
          subst h0
          clear hn hf hC H HC HF
          go_wp2
          go_round
          case rel => exact ⟨m + 1, 0 + 1, f.2, by omega, rfl, rfl, by go_num, by omega, HN⟩
          case measure => simp [intOf]; omega
        · have t0 : ((N : Int) == 0) = false := by simp only [beq_eq_false_iff_ne, ne_eq]; omega
          have HN := Lib.hid (show N + 1 = cnt (hs.take (m + 1)) name ∧ S = fst' (hs.take (m + 1)) name by
            have := H.out
            rw [HC.out, HF.out, ← this.1, if_pos hn, if_neg (fun h => h0 h.2)]
            exact ⟨rfl, this.2⟩)
          clear hn hf hC H HC HF h0
          go_wp2
          go_round
          case rel => exact ⟨m + 1, N + 1, S, by omega, by go_num, rfl, by go_num, by omega, HN⟩
          case measure => simp [intOf]; omega
      · have t1 : (f.1 == name) = false := by simpa using hn
        have HN := Lib.hid (show N = cnt (hs.take (m + 1)) name ∧ S = fst' (hs.take (m + 1)) name by
          have := H.out
          rw [HC.out, HF.out, ← this.1, if_neg hn, if_neg (fun h => hn h.1)]
          exact ⟨rfl, this.2⟩)
        clear hn hf hC H HC HF
        go_wp2
        go_round
        case rel => exact ⟨m + 1, N, S, by omega, rfl, rfl, by go_num, by omega, HN⟩
        case measure => simp [intOf]; omega
    · obtain rfl : m = hs.length := by omega
      have hlt' : decide (hs.length < hs.length) = false := by simp
      have HN := Lib.hid (show N = cnt hs name ∧ S = fst' hs name by have := H.out; rw [List.take_length] at this; exact this)
      clear hC H
      go_wp2
      go_ret2
      exact ⟨by rw [← HN.out.1, ← HN.out.2]; rfl, (Pur.refl w).alloc _⟩
end Go.Proofs.YtlgdkaeiadhiaaaGreatDoor
