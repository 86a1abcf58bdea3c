/- Layer 2: Tokens, with its recover. -/
import Derived.Test.YtaknfofppknloaaGreatDoorTk18
import Derived.Tactics
import Derived.Tactics2
import Derived.Defers
import Derived.Recover
namespace Go.Proofs.YtaknfofppknloaaGreatDoor
open Go Go.RowKit
set_option linter.all false
namespace Tk
/-- tokens as they are handed back: a list of the call's own -/
structure TokRow (w : World) (B : Nat) (v : Value) (avs : List Value) (ts : List TokV) : Prop where
  toks : w.ownsRow 0 38 7 v ts.length (tokCells avs ts)
  len : avs.length = ts.length
  attrs : ∀ (j : Nat) u t, avs[j]? = some u → ts[j]? = some t → w.ownsRow 0 40 4 u t.attrs.length (t.attrs.flatMap AttrV.cells)
  apart : (v.ownBlock.toList ++ avs.flatMap fun v => v.ownBlock.toList).Nodup
  low : ∀ b ∈ v.ownBlock.toList ++ avs.flatMap fun v => v.ownBlock.toList, B ≤ b
/-- how Tokens ends -/
def Toks (w : World) (r : Except ((Nat × Nat) × Nat) (List TokV)) (e : Ending) (w' : World) : Prop := Pur w w' ∧ match r with
  | .ok ts => ∃ v avs, e = .returned (.tuple #[v, .nilIface]) ∧ TokRow w' w.heap.size v avs ts
  | .error (pos, n) => ∃ b, w.heap.size ≤ b ∧ e = .returned (.tuple #[.slice none 0 0, .iface 46 (.pointer (some ⟨b, 0, none⟩))]) ∧
      w'.heap[b]? = some (.cells #[.int .i64 (pos.1 : Int), .int .i64 (pos.2 : Int), .iface 32 (.int .i64 (n : Int))] 61 (0, 0))
theorem ta_fault (v : Value) (xT : TypeId) (w : World) : (Instr.typeAssert (.iface 46 v) xT 46 false).run Tryz.prog w = .ok v w := by kernel_rfl
theorem catch_pan (p q b : Nat) (v1 v2 : Value) (w : World) (hpq : p ≠ q) (h1 : w.heap[p]? = some (.cells #[v1] 23 (0, 0))) (h2 : w.heap[q]? = some (.cells #[v2] 25 (0, 0))) :
    CallsD Tryz.prog 9 #[.pointer (some ⟨p, 0, none⟩), .pointer (some ⟨q, 0, none⟩)] (.panicking [{ v := .iface 46 (.pointer (some ⟨b, 0, none⟩)), recovered := false }]) w fun e u' w' =>
      e = .returned (.tuple #[]) ∧ u' = .panicking [{ v := .iface 46 (.pointer (some ⟨b, 0, none⟩)), recovered := true }] ∧ Chg [p, q] w w' ∧
      w'.heap[p]? = some (.cells #[.slice none 0 0] 23 (0, 0)) ∧ w'.heap[q]? = some (.cells #[.iface 46 (.pointer (some ⟨b, 0, none⟩))] 25 (0, 0)) := by
  have c1 := bk_cell h1 0 _ rfl
  have c2 := bk_cell h2 0 _ rfl
  have f1 := bk_free h1 0
  have f2 := bk_free h2 0
  have hta := ta_fault
  refine callsD_of_wpS Tryz.func9 rfl fun c₀ cs hu => ?_
  apply wpS_seq
  apply wpS_region
  simp [wpOpsS, go_sem, recoverD, hu, Tryz.ntmps9, Exit.thenS]
  apply wpS_seq
  apply wpS_region
  simp [wpOpsS, go_sem, Exit.thenS, Act.eval, Array.replicate]
  refine wpS_cond (t := true) (by simp [Act.eval, Array.replicate]) ?_
  simp only [if_true]
  refine wpS_of_wp ?_
  go_region
  have k1 : Chg [p, q] w (((w.setCell ⟨p, 0, none⟩ (.slice none 0 0)).setCell ⟨q, 0, none⟩ (.iface 46 (.pointer (some ⟨b, 0, none⟩)))).drew) :=
    (((Chg.refl _ w).setCell (a := ⟨p, 0, none⟩) (.inl (by simp)) _).setCell (a := ⟨q, 0, none⟩) (.inl (by simp)) _).drew
  have k2 : (((w.setCell ⟨p, 0, none⟩ (.slice none 0 0)).setCell ⟨q, 0, none⟩ (.iface 46 (.pointer (some ⟨b, 0, none⟩)))).drew).heap[p]? = some (.cells #[.slice none 0 0] 23 (0, 0)) :=
    bk_drew (bk_other (bk_set h1 0 _) (a := ⟨q, 0, none⟩) hpq _)
  have k3 : (((w.setCell ⟨p, 0, none⟩ (.slice none 0 0)).setCell ⟨q, 0, none⟩ (.iface 46 (.pointer (some ⟨b, 0, none⟩)))).drew).heap[q]? = some (.cells #[.iface 46 (.pointer (some ⟨b, 0, none⟩))] 25 (0, 0)) :=
    bk_drew (bk_set (bk_other h2 (a := ⟨p, 0, none⟩) (Ne.symm hpq) _) 0 _)
  generalize ((w.setCell ⟨p, 0, none⟩ (.slice none 0 0)).setCell ⟨q, 0, none⟩ (.iface 46 (.pointer (some ⟨b, 0, none⟩)))).drew = W at *
  clear c1 c2 f1 f2 hta
  cases c₀
  simp_all [bodyPostS, results, Tryz.results9]
theorem catch_idle (p q : Nat) (w : World) :
    CallsD Tryz.prog 9 #[.pointer (some ⟨p, 0, none⟩), .pointer (some ⟨q, 0, none⟩)] .returning w fun e u' w' => e = .returned (.tuple #[]) ∧ u' = .returning ∧ w' = w := by
  refine callsD_of_wpS Tryz.func9 rfl fun c₀ cs hu => ?_
  apply wpS_seq
  apply wpS_region
  simp [wpOpsS, go_sem, recoverD, hu, Tryz.ntmps9, Exit.thenS]
  apply wpS_seq
  apply wpS_region
  simp [wpOpsS, go_sem, Exit.thenS, Act.eval, Array.replicate]
  refine wpS_cond (t := false) (by simp [Act.eval, Array.replicate]) ?_
  simp only [Bool.false_eq_true, if_false]
  refine wpS_of_wp (wp_skip ?_)
  cases c₀
  simp_all [bodyPostS, results, Tryz.results9]
theorem nil_row (w : World) (e : TypeId) (k : Nat) : w.ownsRow 0 e k (.slice none 0 0) 0 [] := ⟨by simp, .inl ⟨rfl, rfl⟩⟩
/-- TOKENS -/
theorem tokens_any (l : List UInt8) (w : World) (hT : Lib.Utf8Tabs 4 5 w) (hF : FoldW w) :
    Calls Tryz.prog 5 #[.string ⟨l.toArray⟩] w fun e w' => Toks w (whole l) e w' := by
  have hmf : ∀ (fn : Fn) (first cap : Array Value) (w : World), (Instr.makeFunc fn first cap).run Tryz.prog w = .ok (.func fn first cap) w := fun _ _ _ _ => rfl
  obtain ⟨W0, hW0⟩ : ∃ W0, W0 = ((w.alloc (.cells #[.slice none 0 0] 23)).alloc (.cells #[.nilIface] 25)).alloc (.cells #[.slice none 0 0, .int .i64 0, .slice none 0 0, .slice none 0 0, .int .i64 0] 45) := ⟨_, rfl⟩
  have hs1 : (w.alloc (.cells #[.slice none 0 0] 23)).heap.size = w.heap.size + 1 := Array.size_push _
  have hs2 : ((w.alloc (.cells #[.slice none 0 0] 23)).alloc (.cells #[.nilIface] 25)).heap.size = w.heap.size + 1 + 1 := by
    rw [← hs1]; exact Array.size_push _
  have hsz : W0.heap.size = w.heap.size + 1 + 1 + 1 := by rw [hW0, ← hs2]; exact Array.size_push _
  have hP : Pur w W0 := by rw [hW0]; exact (((Pur.refl w).alloc _).alloc _).alloc _
  have b0 : W0.heap[w.heap.size]? = some (.cells #[.slice none 0 0] 23 (0, 0)) := by
    rw [hW0]; exact bk_alloc (bk_alloc (bk_new w _) _) _
  have b1 : W0.heap[w.heap.size + 1]? = some (.cells #[.nilIface] 25 (0, 0)) := by
    rw [hW0]; have := bk_alloc (bk_new (w.alloc (.cells #[.slice none 0 0] 23)) (.cells #[.nilIface] 25)) (.cells #[.slice none 0 0, .int .i64 0, .slice none 0 0, .slice none 0 0, .int .i64 0] 45)
    rwa [hs1] at this
  have b2 : W0.heap[w.heap.size + 1 + 1]? = some (.cells #[.slice none 0 0, .int .i64 0, .slice none 0 0, .slice none 0 0, .int .i64 0] 45 (0, 0)) := by
    rw [hW0]; have := bk_new ((w.alloc (.cells #[.slice none 0 0] 23)).alloc (.cells #[.nilIface] 25)) (.cells #[.slice none 0 0, .int .i64 0, .slice none 0 0, .slice none 0 0, .int .i64 0] 45)
    rwa [hs2] at this
  have hAt : At W0 ⟨w.heap.size + 1 + 1, .slice none 0 0, .slice none 0 0, .slice none 0 0, []⟩ ⟨[], 0, [], [], 0⟩ :=
    ⟨b2, nil_row _ _ _, nil_row _ _ _, nil_row _ _ _, rfl, (fun j v t hv _ => by simp at hv), by simp [Pl.all, Pl.rows, Pl.kept, Value.ownBlock], by simp, (fun c hc => by cases hc), fun c hc => by cases hc⟩
  have hB : Base w ⟨w.heap.size + 1 + 1, .slice none 0 0, .slice none 0 0, .slice none 0 0, []⟩ W0 :=
    ⟨hT, hF, hP, by intro b hb; simp [Pl.all, Pl.rows, Pl.kept, Value.ownBlock] at hb; omega⟩
  have hall : (⟨w.heap.size + 1 + 1, .slice none 0 0, .slice none 0 0, .slice none 0 0, []⟩ : Pl).all = [w.heap.size + 1 + 1] := by simp [Pl.all, Pl.rows, Pl.kept, Value.ownBlock]
  have AL := all_any l hAt hB
  rcases hr : whole l with ⟨pos, n⟩ | ts
  · rw [hr] at AL
    go_enter_defers Tryz.func5, Tryz.ntmps5
    go_wp2_with fail
    rw [← hW0]
    refine AL.mono ?_
    intro e w1 hA
    obtain ⟨b, rfl, hb, hc, hcell⟩ := hA
    rw [hall] at hc
    have q0 : w1.heap[w.heap.size]? = _ := bk_chg b0 hc (by simp; omega)
    have q1 : w1.heap[w.heap.size + 1]? = _ := bk_chg b1 hc (by simp)
    refine leaves_cons (f := 9) (args := #[.pointer (some ⟨w.heap.size, 0, none⟩), .pointer (some ⟨w.heap.size + 1, 0, none⟩)]) (by simp) (by simp [go_sem]) ?_
    refine (catch_pan _ _ b _ _ _ (by omega) q0 q1).mono ?_
    rintro e u' w2 ⟨rfl, rfl, hc2, r0, r1⟩
    have z0 := bk_cell r0 0 _ rfl
    have z1 := bk_cell r1 0 _ rfl
    have hPur : Pur w w2 := pur_chg (pur_chg hP hc (by intro x hx; simp at hx; omega)) hc2 (by intro x hx; simp at hx; omega)
    have hcell2 : w2.heap[b]? = some (.cells #[.int .i64 (pos.1 : Int), .int .i64 (pos.2 : Int), .iface 32 (.int .i64 (n : Int))] 61 (0, 0)) := bk_chg hcell hc2 (by simp; omega)
    have hend : Toks w (.error (pos, n)) (.returned (.tuple #[.slice none 0 0, .iface 46 (.pointer (some ⟨b, 0, none⟩))])) w2 := ⟨hPur, b, by omega, rfl, hcell2⟩
    clear hcell hcell2 hc hc2 q0 q1 r0 r1 hPur AL hAt hB b0 b1 b2 hP hsz hs1 hs2
    simp [Leaves, settle, results, Tryz.results5, go_sem, z0, z1, hend]
  · rw [hr] at AL
    go_enter_defers Tryz.func5, Tryz.ntmps5
    go_wp2_with fail
    rw [← hW0]
    refine AL.mono ?_
    intro e w1 hA
    obtain ⟨rfl, p', d', hA1, hts, hst⟩ := hA
    have ps : p'.s = w.heap.size + 1 + 1 := hst.s
    have hc := hst.chg
    rw [hall] at hc
    have q0 : w1.heap[w.heap.size]? = _ := bk_chg b0 hc (by simp; omega)
    have q1 : w1.heap[w.heap.size + 1]? = _ := bk_chg b1 hc (by simp)
    have c2 := hA1.c2
    have f2 := hA1.f 2
    have hnew : ∀ b ∈ p'.all, w.heap.size + 1 + 1 ≤ b := fun b hb => by
      rcases hst.new b hb with h | h
      · rw [hall] at h; simp at h; omega
      · omega
    obtain ⟨ta, tc, htv⟩ := row_shape hA1.toks
    have hlen : d'.toks.length = ts.length := by rw [hts]
    rw [ps, htv, hlen] at c2
    rw [ps] at f2
    have x0 := bk_cell q0 0 _ rfl
    have x1 := bk_cell q1 0 _ rfl
    have y0 := bk_free q0 0
    have y1 := bk_free q1 0
    clear AL
    go_wp2
    obtain ⟨W2, hW2⟩ : ∃ W2, W2 = (w1.setCell ⟨w.heap.size, 0, none⟩ (.slice ta ts.length tc)).setCell ⟨w.heap.size + 1, 0, none⟩ .nilIface := ⟨_, rfl⟩
    rw [← hW2]
    have r0 : W2.heap[w.heap.size]? = some (.cells #[.slice ta ts.length tc] 23 (0, 0)) := by
      rw [hW2]; exact bk_other (bk_set q0 0 _) (a := ⟨w.heap.size + 1, 0, none⟩) (by simp) _
    have r1 : W2.heap[w.heap.size + 1]? = some (.cells #[.nilIface] 25 (0, 0)) := by
      rw [hW2]; exact bk_set (bk_other q1 (a := ⟨w.heap.size, 0, none⟩) (by simp) _) 0 _
    have z0 := bk_cell r0 0 _ rfl
    have z1 := bk_cell r1 0 _ rfl
    have hc2 : Chg [w.heap.size, w.heap.size + 1] w1 W2 := by
      rw [hW2]; exact ((Chg.refl _ w1).setCell (a := ⟨w.heap.size, 0, none⟩) (.inl (by simp)) _).setCell (a := ⟨w.heap.size + 1, 0, none⟩) (.inl (by simp)) _
    have hA2 : At W2 p' d' := hA1.same fun b hb => hc2.block b (hA1.lt b hb) (by have := hnew b hb; simp; omega)
    have hPur : Pur w W2 := pur_chg (pur_chg hP hc (by intro x hx; simp at hx; omega)) hc2 (by intro x hx; simp at hx; omega)
    have hsub : ∀ b, b ∈ p'.tv.ownBlock.toList ++ p'.kept → b ∈ p'.all := fun b hb => by
      unfold Pl.all Pl.rows
      rcases List.mem_append.1 hb with h | h <;> simp [h]
    have hend : Toks w (.ok ts) (.returned (.tuple #[.slice ta ts.length tc, .nilIface])) W2 := by
      refine ⟨hPur, .slice ta ts.length tc, p'.avs, rfl, ?_⟩
      rw [← hlen, ← htv]
      refine ⟨by rw [← hts]; exact hA2.toks, by rw [hA2.len, hts], by rw [← hts]; exact hA2.attrs, ?_, fun b hb => ?_⟩
      · have h1 := hA2.apart
        unfold Pl.all Pl.rows at h1
        have h2 := (List.nodup_cons.1 h1).2
        rw [List.nodup_append] at h2 ⊢
        obtain ⟨k1, k2, k3⟩ := h2
        rw [List.nodup_append] at k2
        obtain ⟨k4, k5, k6⟩ := k2
        rw [List.nodup_append] at k5
        exact ⟨k1, k5.2.1, fun a ha b hb => k3 a ha b (by simp; exact .inr (.inr (by simpa [Pl.kept] using hb)))⟩
      · have := hnew b (hsub b hb); omega
    clear hA2 hA1 hPur hc hc2 q0 q1 r0 r1 hAt hB b0 b1 b2 hP hsz hs1 hs2 hW2 hst hnew c2 f2 x0 x1 y0 y1
    refine leaves_cons (f := 9) (args := #[.pointer (some ⟨w.heap.size, 0, none⟩), .pointer (some ⟨w.heap.size + 1, 0, none⟩)]) (by simp) (by simp [go_sem]) ?_
    refine (catch_idle _ _ W2).mono ?_
    rintro e u' w3 ⟨rfl, rfl, rfl⟩
    simp [Leaves, settle, results, Tryz.results5, go_sem, z0, z1, hend]
end Tk
end Go.Proofs.YtaknfofppknloaaGreatDoor
