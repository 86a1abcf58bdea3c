/- Tokens, Tell and Same as the laws call them; awake. -/
import Derived.Test.YtaknfofppknloaaDoorTk22
namespace Go.Proofs.YtaknfofppknloaaDoor
open Go Go.RowKit
set_option linter.all false
namespace Tk
abbrev Ans := Except ((Nat × Nat) × Nat) (List TokV)
/-- what Tokens has handed back says this -/
def Told (w : World) (r : Ans) (v ev : Value) : Prop := match r with
  | .ok ts => ev = .nilIface ∧ TRead w v ts
  | .error (pos, n) => v = .slice none 0 0 ∧ ∃ b, ev = .iface 47 (.pointer (some ⟨b, 0, none⟩)) ∧
      w.heap[b]? = some (.cells #[.int .i64 (pos.1 : Int), .int .i64 (pos.2 : Int), .iface 40 (.int .i64 (n : Int))] 57 (0, 0))
theorem Told.pur {w w' : World} {r : Ans} {v ev : Value} (h : Told w r v ev) (hp : Pur w w') : Told w' r v ev := by
  rcases r with ⟨pos, n⟩ | ts
  · obtain ⟨h1, b, h2, h3⟩ := h
    exact ⟨h1, b, h2, bk_pur h3 hp⟩
  · exact ⟨h.1, h.2.pur hp⟩
theorem tokens_told (l : List UInt8) (w : World) (hW : TW w) : Calls Tryd.prog 8 #[.string ⟨l.toArray⟩] w fun e w' => ∃ v ev, e = .returned (.tuple #[v, ev]) ∧ Pur w w' ∧ Told w' (whole l) v ev := by
  refine (tokens_any l w hW.tabs hW.fold).mono ?_
  rintro e w' ⟨hp, h⟩
  rcases hr : whole l with ⟨pos, n⟩ | ts
  · rw [hr] at h
    obtain ⟨b, hb, rfl, hc⟩ := h
    exact ⟨_, _, rfl, hp, rfl, b, rfl, hc⟩
  · rw [hr] at h
    obtain ⟨v, avs, rfl, hrow⟩ := h
    exact ⟨_, _, rfl, hp, rfl, hrow.read⟩
def Ans.num (r : Ans) : Nat := match r with | .ok _ => 0 | .error (_, n) => n
def Ans.pos (r : Ans) : Nat × Nat := match r with | .ok _ => (0, 0) | .error (p, _) => p
def Ans.toks (r : Ans) : List TokV := match r with | .ok ts => ts | .error _ => []
theorem tell_told {w : World} {r : Ans} {v ev : Value} (h : Told w r v ev) (hW : TW w) : Calls Tryd.prog 13 #[ev] w fun e w' => e = .returned (.tuple #[.int .i64 (Ans.num r : Int), .agg #[.int .i64 ((Ans.pos r).1 : Int), .int .i64 ((Ans.pos r).2 : Int)]]) ∧ Pur w w' := by
  rcases r with ⟨pos, n⟩ | ts
  · obtain ⟨h1, b, rfl, h3⟩ := h
    exact tell_fault b _ _ _ w hW h3
  · obtain ⟨rfl, h2⟩ := h
    exact tell_nil w
theorem Told.read {w : World} {r : Ans} {v ev : Value} (h : Told w r v ev) : TRead w v (Ans.toks r) := by
  rcases r with ⟨pos, n⟩ | ts
  · obtain ⟨rfl, -⟩ := h
    exact ⟨none, 0, rfl, ⟨Nat.le_refl _, by simp [Ans.toks]⟩, fun i x hx => by simp [Ans.toks] at hx⟩
  · exact h.2
def tA : List UInt8 := [60, 97, 32, 98, 61, 39, 120, 38, 97, 109, 112, 59, 121, 39, 47, 62, 38, 35, 54, 53, 59, 60, 33, 91, 67, 68, 65, 84, 65, 91, 60, 93, 93, 62]
def tB : List UInt8 := [60, 97, 10, 32, 98, 61, 49, 62]
theorem whole_a : whole tA = .ok [⟨1, [97], [⟨[98], [120, 38, 121], (1, 4)⟩], [], (1, 1), true⟩, ⟨3, [], [], [65, 60], (1, 17), false⟩] := by rfl
theorem whole_b : whole tB = .error ((2, 4), 21) := by rfl
set_option maxRecDepth 100000 in
set_option maxHeartbeats 4000000 in
theorem awake_any (w : World) (hW : TW w) : Calls Tryd.prog 7 #[] w fun e w' => e = .returned (.bool true) ∧ Pur w w' := by
  have T1 := fun w hW => tokens_told tA w hW
  have T2 := fun w hW => tokens_told tB w hW
  rw [whole_a] at T1
  rw [whole_b] at T2
  go_enter Tryd.func7, Tryd.ntmps7
  go_wp2_with fail
  refine (T1 _ hW).mono ?_
  rintro e w1 ⟨v1, e1, rfl, p1, h1⟩
  obtain ⟨rfl, h1⟩ := h1
  go_wp2_with fail
  refine (T2 _ (hW.pur p1)).mono ?_
  rintro e w2 ⟨v2, e2, rfl, p2, h2⟩
  go_wp2_with fail
  have TL := tell_told h2 (hW.pur (p1.trans p2))
  simp only [Ans.num, Ans.pos] at TL
  refine TL.mono ?_
  rintro e w3 ⟨rfl, p3⟩
  have hP := p1.trans (p2.trans p3)
  have p5 : Pur w3 (w3.alloc (.cells #[.int .i64 2, .int .i64 4] 30)) := (Pur.refl w3).alloc _
  have b5 := bk_new w3 (.cells #[.int .i64 2, .int .i64 4] 30)
  obtain ⟨a, c, rfl, hc, HA⟩ := (h1.pur (p2.trans p3)).pur p5
  obtain ⟨g, av, rfl, hg, k0, k1, k2, k3, k4, k5, k6, k7⟩ := HA 0 _ rfl
  obtain ⟨g', bv, e9, -, l0, l1, l2, l3, l4, l5, l6, l7⟩ := HA 1 _ rfl
  cases e9
  obtain ⟨a2, c2, rfl, hc2, HB⟩ := k7
  obtain ⟨g2, rfl, hg2, m0, m1, m2, m3⟩ := HB 0 _ rfl
  simp only [Nat.zero_mul, Nat.one_mul, Nat.zero_add] at k0 k1 k2 k3 k4 k5 k6 l0 l1 l2 l3 l4 l5 l6 m0 m1 m2 m3
  have z0 := bk_cell b5 0 _ rfl
  have z1 := bk_cell b5 1 _ rfl
  have hc' : (2 : Int) ≤ c := by have := hc.1; simp at this; omega
  have hc2' : (1 : Int) ≤ c2 := by have := hc2.1; simp at this; omega
  clear T1 T2 TL h1 h2 p1 p2 HA HB
  go_wp2
  go_ret
  exact ⟨rfl, hP.trans p5⟩
end Tk
end Go.Proofs.YtaknfofppknloaaDoor
