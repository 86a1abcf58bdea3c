/- Layer 8: (*Heap).at: the object of a number. -/
import Derived.Test.YtfophnmnehpenaaDoorHm1
namespace Go.Proofs.YtfophnmnehpenaaDoor
open Go Go.RowKit
set_option linter.all false
/-- the place of an object, or none -/
def Hs.at (s : Hs) (i : Int) : Option Addr := if i < 0 ∨ (s.ps.length : Int) ≤ i then none else (s.ps[i.toNat]?).map fun p => ⟨p.o, 0, none⟩
theorem HpAt.cell0 {w : World} {s : Hs} (h : HpAt w s) : w.cell? ⟨s.h, 0, none⟩ = some s.ov := by
  rw [cell_of_row w _ 0 _ _ _ h.own]; rfl
theorem HpAt.cell1 {w : World} {s : Hs} (h : HpAt w s) : w.cell? ⟨s.h, 1, none⟩ = some (.int .i64 s.left) := by
  rw [cell_of_row w _ 1 _ _ _ h.own]; rfl
/-- the objects' row -/
theorem HpAt.rows {w : World} {s : Hs} (h : HpAt w s) : ∃ a c, s.ov = .slice a s.ps.length c ∧ ∀ (i : Nat) (p : Pl), s.ps[i]? = some p → ∃ g, a = some ⟨g, 0, none⟩ ∧ w.cell? ⟨g, i, none⟩ = some (.pointer (some ⟨p.o, 0, none⟩)) := by
  have hr := h.row
  rcases hr.2 with ⟨e, h0⟩ | ⟨g, cap, cur, e, _⟩
  · rw [h0]
    exact ⟨none, 0, e, fun i p hp => by rw [List.length_eq_zero_iff.1 h0] at hp; simp at hp⟩
  · refine ⟨some ⟨g, 0, none⟩, cap, e, fun i p hp => ⟨g, rfl, ?_⟩⟩
    have := hr.cells (g := g) (by rw [e]; rfl) i (.pointer (some ⟨p.o, 0, none⟩)) (by simp [ptrs, hp])
    rw [← this]
    unfold Addr.add
    split <;> simp_all
theorem HpAt.short {w : World} {s : Hs} (h : HpAt w s) : (s.ps.length : Int) ≤ 9223372036854775807 := by
  rcases h.row.2 with ⟨e, h0⟩ | ⟨g, cap, cur, e, _, _, h1, h2, _⟩
  · omega
  · simp only [maxLen] at h2
    omega
set_option maxRecDepth 100000 in
theorem at_any (s : Hs) (i : Int) (w : World) (h : HpAt w s) : Calls Tryd.prog 40 #[.pointer (some ⟨s.h, 0, none⟩), .int .i64 i] w fun e w' => e = .returned (.pointer (s.at i)) ∧ w = w' := by
  have c0 := h.cell0
  obtain ⟨a, c, hov, hrow⟩ := h.rows
  rw [hov] at c0
  have hst := h.short
  clear hov h
  unfold Hs.at
  by_cases h1 : i < 0
  · rw [if_pos (Or.inl h1)]
    go_enter Tryd.func40, Tryd.ntmps40
    go_wp2
    go_ret
    exact ⟨rfl, rfl⟩
  by_cases h2 : (s.ps.length : Int) ≤ i
  · rw [if_pos (Or.inr h2)]
    go_enter Tryd.func40, Tryd.ntmps40
    go_wp2
    go_ret
    exact ⟨rfl, rfl⟩
  rw [if_neg (by omega)]
  have h3 : i.toNat < s.ps.length := by omega
  obtain ⟨p, hp⟩ : ∃ p, s.ps[i.toNat]? = some p := ⟨_, List.getElem?_eq_getElem h3⟩
  obtain ⟨g, rfl, hc⟩ := hrow i.toNat p hp
  rw [hp]
  have h4 : 0 ≤ i := by omega
  have h5 : i < (s.ps.length : Int) := by omega
  go_enter Tryd.func40, Tryd.ntmps40
  go_wp2
  go_ret
  exact ⟨rfl, rfl⟩
end Go.Proofs.YtfophnmnehpenaaDoor
