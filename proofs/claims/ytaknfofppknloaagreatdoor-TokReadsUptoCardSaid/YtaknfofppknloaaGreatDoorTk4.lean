/- Layer 2: characters as UTF-8 (narrow). -/
import Derived.Test.YtaknfofppknloaaGreatDoorTk3
import Derived.Test.YtaknfofppknloaaGreatDoorTkB
namespace Go.Proofs.YtaknfofppknloaaGreatDoor
open Go Go.RowKit
set_option linter.all false
namespace Tk
/-- a slice that reads as these characters -/
def IRead (w : World) (v : Value) (cs : Cs) : Prop := ∃ a c, v = .slice a cs.length c ∧ ∀ k, k < cs.length → ∃ g o, a = some ⟨g, o, none⟩ ∧ g < w.heap.size ∧ w.cell? ⟨g, o + k, none⟩ = some (.int .i64 ((cs.getD k 0 : Nat) : Int))
theorem IRead.pur {w w' : World} {v : Value} {cs : Cs} (h : IRead w v cs) (hp : Pur w w') : IRead w' v cs := by
  obtain ⟨a, c, e, h⟩ := h
  refine ⟨a, c, e, fun k hk => ?_⟩
  obtain ⟨g, o, e1, e2, e3⟩ := h k hk
  exact ⟨g, o, e1, Nat.lt_of_lt_of_le e2 hp.size, (hp.cell (p := ⟨g, o + k, none⟩) e2).trans e3⟩
theorem IRead.of_own {w : World} {B : Nat} {e : TypeId} {v : Value} {cs : Cs} (h : w.ownsRow B e 1 v cs.length (ints cs)) : IRead w v cs := by
  rcases Nat.eq_zero_or_pos cs.length with h0 | h0
  · obtain ⟨a, c, e⟩ := row_shape h
    exact ⟨a, c, e, fun k hk => by omega⟩
  · obtain ⟨g, c, e, _, hg, _, hc⟩ := row_at h h0
    refine ⟨_, c, e, fun k hk => ⟨g, 0, rfl, hg, ?_⟩⟩
    rw [Nat.zero_add]
    exact (hc k _ (by simp [ints, List.getElem?_eq_getElem hk])).1
theorem narrow_snoc (cs : Cs) (n : Nat) (h : n < cs.length) : narrow (cs.take (n + 1)) = narrow (cs.take n) ++ enc (cs.getD n 0) := by
  unfold narrow
  rw [List.take_succ_eq_append_getElem h, List.flatMap_append, List.getD_eq_getElem?_getD, List.getElem?_eq_getElem h]
  simp only [List.flatMap_cons, List.flatMap_nil, List.append_nil, Option.getD_some]
theorem narrow_len (cs : Cs) : (narrow cs).length ≤ 4 * cs.length := by
  unfold narrow
  induction cs with
  | nil => simp
  | cons c cs ih => have := enc_len c; simp only [List.flatMap_cons, List.length_append, List.length_cons]; omega
set_option maxRecDepth 100000 in
set_option maxHeartbeats 2000000 in
theorem narrow_any (v : Value) (cs : Cs) (w : World) (h : IRead w v cs) (hok : ∀ c ∈ cs, okc c) (hl : cs.length ≤ 1000000) :
    Calls Tryz.prog 59 #[v] w fun e w' => e = .returned (.string ⟨(narrow cs).toArray⟩) ∧ Pur w w' := by
  have hR : ∀ w', Pur w w' → IRead w' v cs := fun w' hp => h.pur hp
  obtain ⟨a, c, rfl, -⟩ := h
  go_enter Tryz.func59, Tryz.ntmps59
  go_wp2
  go_loopw [8] (fun k wr => ∃ n : Nat, n ≤ cs.length ∧ k = .int .i64 n ∧ Lib.IsBuilder 115 5 w.heap.size w.heap.size (Lib.byteCells (narrow (cs.take n))) wr ∧ Pur w wr) (fun k _ => cs.length + 1 - (intOf k).toNat)
  case atStart => exact ⟨0, by omega, rfl, Lib.fresh_isBuilder _ _ w, (Pur.refl w).alloc _⟩
  case round =>
    obtain ⟨n, hn, rfl, hown, hpr⟩ := hrel
    by_cases hlt : n < cs.length
    · have hlt' : (n : Int) < cs.length := by omega
      obtain ⟨a', c', e', hk⟩ := hR wr hpr
      cases e'
      obtain ⟨g, o, rfl, -, hk⟩ := hk n hlt
      have hsn := narrow_snoc cs n hlt
      have hx : okc (cs.getD n 0) := by rw [List.getD_eq_getElem?_getD, List.getElem?_eq_getElem hlt]; exact hok _ (List.getElem_mem hlt)
      have hnl := narrow_len (cs.take n)
      rw [List.length_take] at hnl
      generalize cs.getD n 0 = x at *
      have hxb : x ≤ 1114111 := by unfold okc at hx; omega
      have BR := fun w2 h2 h3 => bld_rune w.heap.size w.heap.size (narrow (cs.take n)) x hx w2 h2 (by omega) h3
      have w1 : IntKind.i32.wrap (x : Int) = (x : Int) := IntWalk.i32_in _ (by omega)
      clear hR
      go_wp2_with fail
      refine (BR _ hown hpr.size).mono ?_
      rintro e w1 ⟨⟨m, rfl⟩, hown1, hpr1⟩
      go_wp2
      go_roundw
      case rel => exact ⟨n + 1, by omega, by go_num, .inr (hsn ▸ hown1), Below.trans hpr hpr1⟩
      case measure => simp [intOf]; omega
    · obtain rfl : n = cs.length := by omega
      rw [List.take_length] at hown
      go_wp2_with fail
      refine (Tryz.Builder_String_any w.heap.size w.heap.size _ _ hown hpr.size).mono ?_
      rintro e w1 ⟨rfl, h1⟩
      go_wp2
      go_ret
      exact ⟨rfl, Below.trans hpr h1⟩
end Tk
end Go.Proofs.YtaknfofppknloaaGreatDoor
