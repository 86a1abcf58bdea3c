/- Those of the layer utf's contracts that this seat's dump has. -/
import Derived.Test.YtaknfofppknloaaGreatDoorShelf
import Derived.Test.YtaknfofppknloaaGreatDoorBase
import Derived.Test.YtaknfofppknloaaGreatDoorTu
import Derived.Lib.Builder
import Derived.Lib.AppendStr
import Derived.Lib.UnsafeStr
import Derived.Laws.Externs
namespace Go.Proofs.YtaknfofppknloaaGreatDoor
open Go Go.RowKit
set_option linter.all false
theorem enc_len (c : Nat) : (enc c).length ≤ 4 := by
  unfold enc
  repeat (first | split | simp)
theorem bld_size : ∃ j, Tryz.prog.info? 115 = some j ∧ j.size = 2 := by
  have h : (Tryz.prog.info? 115).map (·.size) = some 2 := by kernel_rfl
  exact Option.map_eq_some_iff.1 h
theorem bld_lies : liesAt Tryz.prog Tryz.prog.depth 115 (2 / Tryz.prog.cellsOf 115) 0 115 1 = true := by kernel_rfl
theorem byte_info : (Tryz.prog.info? 5).map (fun i => (i.zero, i.size, i.bytes)) = some (some (.int .u8 0), 1, 1) := by kernel_rfl
set_option maxRecDepth 100000 in
set_option maxHeartbeats 1000000 in
theorem copyCheck_used (b : Nat) (w : World) (h0 : w.cell? ⟨b, 0, none⟩ = some (.pointer (some ⟨b, 0, none⟩))) :
    Calls Tryz.prog 82 #[.pointer (some ⟨b, 0, none⟩)] w fun e w' => e = .returned (.tuple #[]) ∧ w' = w := by
  obtain ⟨j, hj, _⟩ := bld_size
  go_enter Tryz.func82, Tryz.ntmps82
  go_wp2
  rw [Lib.run_neq_ptr_same w _ Tryz.underlying113 hj]
  go_wp2
  go_end0
  exact ⟨rfl, rfl⟩
set_option maxRecDepth 100000 in
set_option maxHeartbeats 1000000 in
theorem copyCheck_fresh (b : Nat) (w : World) (h0 : w.cell? ⟨b, 0, none⟩ = some (.pointer none)) (hsh : w.shape? b = some (115, 2)) (hfz : w.frozen? ⟨b, 0, none⟩ = false) :
    Calls Tryz.prog 82 #[.pointer (some ⟨b, 0, none⟩)] w fun e w' => e = .returned (.tuple #[]) ∧ w' = w.setCell ⟨b, 0, none⟩ (.pointer (some ⟨b, 0, none⟩)) := by
  obtain ⟨j, hj, hjs⟩ := bld_size
  go_enter Tryz.func82, Tryz.ntmps82
  go_wp2
  rw [Lib.run_to_unsafe w ⟨b, 0, none⟩ Tryz.underlying113 Tryz.underlying75 hj (by rw [hjs]; decide) hsh (Nat.zero_lt_succ 1)]
  simp only [Result.andThen]
  rw [Oper.upon_value]
  go_wp2
  rw [run_callFunc_extern Tryz.func90 (by kernel_rfl) (by kernel_rfl) (by kernel_rfl) (e := Extern.AbiNoEscape.same) (by kernel_rfl)]
  rw [Lib.run_noEscape]
  simp only [Result.andThen]
  rw [Oper.upon_value]
  go_wp2
  rw [Lib.run_from_unsafe w ⟨b, 0, none⟩ Tryz.underlying75 Tryz.underlying113 hj hsh bld_lies]
  simp only [Result.andThen]
  rw [Oper.upon_value]
  go_wp2
  go_end0
  exact ⟨rfl, rfl⟩
theorem copyCheck_any (B b : Nat) (bs : List Value) (w : World) (h : Lib.IsBuilder 115 5 B b bs w) :
    Calls Tryz.prog 82 #[.pointer (some ⟨b, 0, none⟩)] w fun e w' => e = .returned (.tuple #[]) ∧ (Lib.BuilderAt 115 5 B b (.pointer (some ⟨b, 0, none⟩)) bs w' ∧ Below B w w') := by
  rcases h with h | h
  · refine (copyCheck_fresh b w h.cell0 h.shape h.frozen0).mono ?_
    rintro e w' ⟨rfl, rfl⟩
    exact ⟨rfl, h.used _, (Below.refl B w).setCell (p := ⟨b, 0, none⟩) h.1 _⟩
  · refine (copyCheck_used b w h.cell0).mono ?_
    rintro e w' ⟨rfl, rfl⟩
    exact ⟨rfl, h, Below.refl B _⟩
theorem bldAt_pur {T e : TypeId} {B b : Nat} {p : Value} {bs : List Value} {w w' : World} (h : Lib.BuilderAt T e B b p bs w) (hp : Pur w w') : Lib.BuilderAt T e B b p bs w' := by
  have hlt := h.lt
  obtain ⟨hB, v, hb, hown, hne⟩ := h
  exact ⟨hB, v, (hp.block b hlt).trans hb, ownsRow_pur hown hp, hne⟩
theorem bld_pur {T e : TypeId} {B b : Nat} {bs : List Value} {w w' : World} (h : Lib.IsBuilder T e B b bs w) (hp : Pur w w') : Lib.IsBuilder T e B b bs w' :=
  h.imp (fun h => bldAt_pur h hp) (fun h => bldAt_pur h hp)
set_option maxRecDepth 100000 in
set_option maxHeartbeats 2000000 in
theorem bld_rune (B b : Nat) (acc : List UInt8) (c : Nat) (hc : okc c) (w : World) (h : Lib.IsBuilder 115 5 B b (Lib.byteCells acc) w) (hlen : acc.length + 4 ≤ 140737488355328) (hBw : B ≤ w.heap.size) :
    Calls Tryz.prog 74 #[.pointer (some ⟨b, 0, none⟩), .int .i32 (c : Int)] w fun e w' => (∃ m : Int, e = .returned (.tuple #[.int .i64 m, .nilIface])) ∧ (Lib.BuilderAt 115 5 B b (.pointer (some ⟨b, 0, none⟩)) (Lib.byteCells (acc ++ enc c)) w' ∧ Below B w w') := by
  have hcb : c ≤ 1114111 := by unfold okc at hc; omega
  have hel := enc_len c
  have hw1 : IntKind.i64.wrap (((acc ++ enc c).length : Int) - (acc.length : Int)) = ((acc ++ enc c).length : Int) - (acc.length : Int) := IntWalk.i64_in _ (by rw [List.length_append]; omega)
  go_enter Tryz.func74, Tryz.ntmps74
  go_wp2_with (go_at_call 82; refine (copyCheck_any B b _ _ h).mono ?_)
  rintro e w1 ⟨rfl, h1, hb1⟩
  obtain ⟨hB, v, hbk, hown, hne⟩ := h1
  have c0 : w1.cell? ⟨b, 0, none⟩ = some (.pointer (some ⟨b, 0, none⟩)) := by rw [Lib.cell_of_heap hbk]; rfl
  have c1 : w1.cell? ⟨b, 1, none⟩ = some v := by rw [Lib.cell_of_heap hbk]; rfl
  have hlt : b < w1.heap.size := by
    rcases Nat.lt_or_ge b w1.heap.size with h' | h'
    · exact h'
    · simp [Array.getElem?_eq_none h'] at hbk
  have hbl : (Lib.byteCells acc).length = acc.length := by simp [Lib.byteCells]
  rw [hbl] at hown
  obtain ⟨ao, cap, rfl⟩ : ∃ ao cap, v = .slice ao acc.length cap := by
    rcases hown.2 with ⟨hv, h0⟩ | ⟨g, cap, cur, hv, _⟩
    · exact ⟨none, 0, by rw [hv, h0]⟩
    · exact ⟨_, _, hv⟩
  have AR := Tryz.utf8_AppendRune_plain B _ acc.length _ (c : Int) (by omega) (by omega) w1 hown hlen (Nat.le_trans hBw hb1.size)
  go_wp2_with fail
  refine AR.mono ?_
  rintro e w2 ⟨v', rfl, hown', o, hgrow⟩
  have hb2 : w2.heap[b]? = some (.cells #[.pointer (some ⟨b, 0, none⟩), .slice ao acc.length cap] 115 (0, 0)) := by
    rw [hgrow.block b (by simp; omega) (fun e => hne e.symm), Lib.alloc_old w1 _ b hlt]
    exact hbk
  have hrc : (Lib.runeCells (c : Int)).length = (enc c).length := by rw [← bv_enc c hc]; simp [bv]
  have hown2 : w2.ownsRow B 5 1 v' (acc ++ enc c).length (Lib.byteCells (acc ++ enc c)) := by
    rw [List.length_append, ← hrc]
    have : Lib.byteCells (acc ++ enc c) = Lib.byteCells acc ++ Lib.runeCells (c : Int) := by rw [← bv_enc c hc]; simp [Lib.byteCells, bv]
    rw [this]
    exact hown'
  obtain ⟨ao', cap', rfl⟩ : ∃ ao cap, v' = .slice ao (acc ++ enc c).length cap := by
    rcases hown2.2 with ⟨hv, h0⟩ | ⟨g, cap, cur, hv, _⟩
    · exact ⟨none, 0, by rw [hv, h0]⟩
    · exact ⟨_, _, hv⟩
  have d0 : w2.cell? ⟨b, 0, none⟩ = some (.pointer (some ⟨b, 0, none⟩)) := by rw [Lib.cell_of_heap hb2]; rfl
  have d1 : w2.cell? ⟨b, 1, none⟩ = some (.slice ao acc.length cap) := by rw [Lib.cell_of_heap hb2]; rfl
  have f1 : w2.frozen? ⟨b, 1, none⟩ = false := Lib.frozen_of_heap hb2 1
  generalize (acc ++ enc c).length = N at *
  clear hown' AR
  go_wp2
  go_ret2
  refine ⟨⟨_, rfl⟩, ?_, ?_⟩
  · exact Lib.BuilderAt.put (T := 115) (e := 5) hB hb2 (bs' := Lib.byteCells (acc ++ enc c)) (by have := hown2.1; rw [Nat.mul_one] at this; rw [this]; exact hown2) (by decide)
  · exact ((hb1.alloc (by have := hb1.size; omega) _).grown hgrow (by have := hb1.size; simp; omega) (fun k hk => (hown.lt k hk).1)).setCell (p := ⟨b, 1, none⟩) hB _
end Go.Proofs.YtaknfofppknloaaGreatDoor
