/- Layer 3: a replacer used for the first time (draft). Layer 3: single bytes are replaced by texts. -/
import Derived.Test.YtigfcchblfnnbaaGreatDoorTeI
import Derived.Test.YtigfcchblfnnbaaGreatDoorTeS
import Derived.Lib.SlBuf
namespace Go.Proofs.YtigfcchblfnnbaaGreatDoor
open Go Go.RowKit
set_option linter.all false
namespace Te
open Tk (mem_own append_new)
/-- what byteStringReplacer.Replace is asked to do -/
def BsrOk (ps : Mk) (l : Bs) : Prop := ∀ (rb : Nat) (tv : Value) (B : Nat) (w : World), Tab w rb (look ps) tv → w.ownsRow B 9 1 tv ps.length (strs (ps.reverse.map fun p => [p.1])) →
  Calls Tryz.prog 245 #[.pointer (some ⟨rb, 0, none⟩), .string ⟨l.toArray⟩] w fun e w' => e = .returned (.string ⟨(escB (look ps) l).toArray⟩) ∧ Pur w w'
set_option maxRecDepth 100000 in
set_option maxHeartbeats 8000000 in
theorem replace_any (ps : Mk) (l : Bs) (b og oc : Nat) (w : World) (hR : BsrOk ps l) (ho : OldNew w og ps) (hb : w.heap[b]? = some (.cells #[.int .u32 0, .int .i32 0, .int .u32 0, .nilIface, .slice (some ⟨og, 0, none⟩) (2 * ps.length) oc] 191 (0, 0)))
    (hob : og ≠ b) (h2 : 2 ≤ ps.length) (hl : ps.length ≤ 100) (hoc : 2 * ps.length ≤ oc) (hd : (ps.map Prod.fst).Nodup) (hn : ∀ p ∈ ps, p.2.length ≠ 1 ∧ p.2.length ≤ 100) :
    Calls Tryz.prog 75 #[.pointer (some ⟨b, 0, none⟩), .string ⟨l.toArray⟩] w fun e w' => e = .returned (.string ⟨(escB (look ps) l).toArray⟩) ∧ Chg [b] w w' := by
  have hw1 : Chg [b] w (w.setCell ⟨b, 1, none⟩ (.int .i32 1)) := (Chg.refl _ w).setCell (.inl (by simp)) _
  have ho1 : OldNew (w.setCell ⟨b, 1, none⟩ (.int .i32 1)) og ps := by
    refine ⟨Nat.lt_of_lt_of_le ho.lt hw1.size, fun j p e => ?_, fun j p e => ?_⟩
    · rw [World.cell?_setCell_other _ _ _ _ (by simp [hob])]; exact ho.old j p e
    · rw [World.cell?_setCell_other _ _ _ _ (by simp [hob])]; exact ho.new j p e
  have BO := buildOnce_any ps b og oc (.int .u32 0) .nilIface _ ho1 (bk_set hb 1 (.int .i32 1)) h2 hl hoc hd hn
  have DO := o_do b 191 _ _ _ w hb _ BO
  have hmf : ∀ (fn : Fn) (first cap : Array Value) (w : World), (Instr.makeFunc fn first cap).run Tryz.prog w = .ok (.func fn first cap) w := fun _ _ _ _ => rfl
  clear BO ho ho1 hd hn
  go_enter Tryz.func75, Tryz.ntmps75
  go_wp2_with fail
  refine DO.mono ?_
  rintro e w' ⟨rfl, w1, y3, y4, h1, ⟨rb, tv, rfl, hc1, hrl, hT, hown⟩, rfl⟩
  have h2' := bk_set (bk_set (bk_drew h1) 0 (.int .u32 1)) 1 (.int .i32 0)
  have hc2 : Chg [b] w1 ((w1.drew.setCell ⟨b, 0, none⟩ (.int .u32 1)).setCell ⟨b, 1, none⟩ (.int .i32 0)) := (((Chg.refl _ w1).pur (Pur.refl w1).drew).setCell (.inl (by simp)) _).setCell (.inl (by simp)) _
  have hsz1 : w.heap.size ≤ rb := Nat.le_trans hw1.size hrl
  have hbl := bk_lt hb
  have hT2 := hT.chg hc2 (by simp; omega) (fun x hx C f e => by
    obtain rfl := List.mem_singleton.1 hx
    rw [h1] at e
    simp at e)
  have hown2 := row_chg hown hc2 (fun g hg hm => by have := (hown.lt g hg).1; have := hw1.size; have := List.mem_singleton.1 hm; omega)
  have RR := hR rb tv _ _ hT2 hown2
  have k3 := bk_cell h2' 3 _ rfl
  have hcc := (hw1.trans hc1).trans hc2
  clear DO hR hT hown hT2 hown2
  generalize (w1.drew.setCell ⟨b, 0, none⟩ (.int .u32 1)).setCell ⟨b, 1, none⟩ (.int .i32 0) = w2 at *
  go_wp2_with fail
  refine RR.mono ?_
  rintro e w3 ⟨rfl, p3⟩
  clear RR
  go_wp2
  go_ret
  exact ⟨rfl, hcc.pur p3⟩
end Te
end Go.Proofs.YtigfcchblfnnbaaGreatDoor
namespace Go.Proofs.YtigfcchblfnnbaaGreatDoor
open Go Go.RowKit
set_option linter.all false
namespace Te
open Tk (mem_own)
theorem makeU8 (w : World) (N : Nat) (hN : N ≤ 16777216) :
    (Instr.makeSlice 75 (.int .i64 N) (.int .i64 N)).run Tryz.prog w = .ok (.slice (some ⟨w.heap.size, 0, none⟩) N N) (w.alloc (.cells (Array.replicate N (.int .u8 0)) 5)) := by
  obtain ⟨i, hi, hz, hs, hb⟩ := info_parts infoU8
  have := run_makeSlice (P := Tryz.prog) w 75 5 i (.int .u8 0) Tryz.underlying75 hi hz .i64 .i64 N N (by omega) (by omega) (by rw [hs]; simp; omega) (by rw [hb]; omega) (by omega)
  rw [this, hs]
  have e : madeCells #[Value.int .u8 0] N = Array.replicate N (.int .u8 0) := by
    unfold madeCells
    apply Array.ext
    · simp
    · intro i h1 h2
      simp [Nat.mod_one]
  simp
  exact congrArg (fun cs => w.alloc (.cells cs 5)) e
theorem neq_nil (w : World) (t e : TypeId) (a : Option Addr) (n c n' c' : Nat) (h : Tryz.prog.underlying t = some (.slice e)) : (binOp .neq t (.slice a n c) (.slice none n' c')).run Tryz.prog w = .ok (.bool a.isSome) w := by
  simp only [binOp]
  simp [Op.equal, Op.maxDepth, Lib.run_equalIn_slice_nil w 9999 t e a n c n' c' h]
  try (cases a <;> rfl)
theorem buf_new (w : World) (N : Nat) : Lib.Buf w (w.alloc (.cells (Array.replicate N (.int .u8 0)) 5)) w.heap.size N [] := by
  have := Lib.Buf.start w (Array.replicate N (.int .u8 0)) 5 N 0 (by simp)
  exact this
theorem buf_put {w0 wr : World} {h N : Nat} {acc : Bs} (hb : Lib.Buf w0 wr h N acc) (c : UInt8) (hl : acc.length < N) : Lib.Buf w0 (wr.setCell ⟨h, acc.length, none⟩ (.int .u8 (c.toNat : Int))) h N (acc ++ [c]) := by
  refine ⟨hb.below.setCell (p := ⟨h, acc.length, none⟩) (Nat.le_refl _) _, fun j hj => ?_, fun j hj => ?_, fun j x hx => ?_, by simp; omega⟩
  · by_cases e : j = acc.length
    · subst e
      obtain ⟨v, hv⟩ := Option.isSome_iff_exists.1 (hb.there _ hj)
      rw [World.cell?_setCell_same _ _ _ hv]; first | done | rfl
    · rw [World.cell?_setCell_other _ _ _ _ (by simp <;> omega)]; exact hb.there j hj
  · rw [World.frozen?_setCell]; exact hb.free j hj
  · by_cases e : j < acc.length
    · rw [List.getElem?_append_left e] at hx
      rw [World.cell?_setCell_other _ _ _ _ (by simp <;> omega)]; exact hb.holds j x hx
    · have hj : j = acc.length := by
        have := (List.getElem?_eq_some_iff.1 hx).1
        simp at this; omega
      subst hj
      simp at hx
      subst hx
      obtain ⟨v, hv⟩ := Option.isSome_iff_exists.1 (hb.there _ hl)
      exact World.cell?_setCell_same _ _ _ hv
theorem buf_str {w0 wr : World} {h N : Nat} {acc : Bs} (hb : Lib.Buf w0 wr h N acc) (hN : acc.length = N) :
    (convert 75 9 (.slice (some ⟨h, 0, none⟩) N N)).run Tryz.prog wr = .ok (.string ⟨acc.toArray⟩) wr := by
  have hm : (acc.map fun b => ((b.toNat : Nat) : Int)).map B8 = acc := by
    rw [List.map_map]
    conv => rhs; rw [← List.map_id acc]
    exact List.map_congr_left fun b _ => B8_toNat b
  rw [run_str_of_cells wr 75 9 5 ⟨h, 0, none⟩ N N (acc.map fun b => ((b.toNat : Nat) : Int)) (by simp [hN]) Tryz.underlying75 Tryz.underlying5 Tryz.underlying9 fun j hj => ?_, hm]
  have ha : (Addr.mk h 0 none).add j = ⟨h, j, none⟩ := by unfold Addr.add; split <;> simp_all
  have hj' : j < acc.length := by omega
  rw [ha, hb.holds j acc[j] (List.getElem?_eq_getElem hj')]
  simp [hj']
theorem look_mem {ps : Mk} {c : UInt8} (h : look ps c ≠ none) : c ∈ ps.reverse.map Prod.fst := by
  rw [List.map_reverse, List.mem_reverse]
  exact Decidable.byContradiction fun k => h (look_none k)
theorem look_some {ps : Mk} {c : UInt8} {n : Bs} (h : look ps c = some n) : ∃ p ∈ ps, p.2 = n := by
  unfold look at h
  obtain ⟨p, hp, rfl⟩ := Option.map_eq_some_iff.1 h
  exact ⟨p, List.mem_of_find?_eq_some hp, rfl⟩
theorem look_in {ps : Mk} {c : UInt8} (h : c ∈ ps.map Prod.fst) : ∃ n, look ps c = some n := by
  induction ps with
  | nil => simp at h
  | cons p ps ih =>
    rw [look_cons]
    by_cases e : p.1 = c
    · exact ⟨_, by rw [if_pos e]⟩
    · rw [if_neg e]
      refine ih ?_
      simp only [List.map_cons, List.mem_cons] at h
      exact h.resolve_left fun k => e k.symm
theorem grow1_le {ps : Mk} (hn : ∀ p ∈ ps, 1 ≤ p.2.length ∧ p.2.length ≤ 6) (c : UInt8) : grow1 (look ps) c ≤ 5 := by
  unfold grow1
  cases h : look ps c with
  | none => simp
  | some n =>
    obtain ⟨p, hp, rfl⟩ := look_some h
    have := (hn p hp).2
    simp; omega
theorem grows_le {ps : Mk} (hn : ∀ p ∈ ps, 1 ≤ p.2.length ∧ p.2.length ≤ 6) : ∀ l : Bs, grows (look ps) l ≤ 5 * l.length
  | [] => by simp [grows]
  | c :: l => by
    have := grows_le hn l
    have := grow1_le hn c
    rw [grows_cons, List.length_cons]; omega
theorem esc_take (m : UInt8 → Option Bs) (l : Bs) (i : Nat) (c : UInt8) (h : l[i]? = some c) : escB m (l.take (i + 1)) = escB m (l.take i) ++ (m c).getD [c] ∧ grows m (l.take (i + 1)) = grows m (l.take i) + grow1 m c := by
  obtain ⟨hi, e⟩ := List.getElem?_eq_some_iff.1 h
  have e2 : l.take (i + 1) = l.take i ++ [c] := by rw [List.take_succ, h]; rfl
  rw [e2, escB_snoc, grows_snoc]
  exact ⟨rfl, rfl⟩
theorem esc_split (m : UInt8 → Option Bs) (l : Bs) (i : Nat) : escB m l = escB m (l.take i) ++ escB m (l.drop i) := by
  conv => lhs; rw [← List.take_append_drop i l]
  unfold escB
  rw [List.flatMap_append]
def cnt (m : UInt8 → Option Bs) (l os : Bs) : Nat := (os.map fun o => l.count o * grow1 m o).sum
theorem cnt_take (m : UInt8 → Option Bs) (l os : Bs) (j : Nat) (o : UInt8) (h : os[j]? = some o) : cnt m l (os.take (j + 1)) = cnt m l (os.take j) + l.count o * grow1 m o ∧ (os.take (j + 1)).any (fun o => l.count o != 0) = ((os.take j).any (fun o => l.count o != 0) || l.count o != 0) := by
  have e2 : os.take (j + 1) = os.take j ++ [o] := by rw [List.take_succ, h]; rfl
  rw [e2]
  simp [cnt]
theorem cnt_le {ps : Mk} (hn : ∀ p ∈ ps, 1 ≤ p.2.length ∧ p.2.length ≤ 6) (l : Bs) : ∀ os : Bs, cnt (look ps) l os ≤ os.length * (5 * l.length)
  | [] => by simp [cnt]
  | o :: os => by
    have h1 := cnt_le hn l os
    have h2 := grow1_le hn o
    have h3 : l.count o ≤ l.length := List.count_le_length
    have h4 : l.count o * grow1 (look ps) o ≤ 5 * l.length := by
      calc l.count o * grow1 (look ps) o ≤ l.length * 5 := Nat.mul_le_mul h3 h2
        _ = 5 * l.length := Nat.mul_comm _ _
    have e : cnt (look ps) l (o :: os) = l.count o * grow1 (look ps) o + cnt (look ps) l os := by simp [cnt]
    rw [e, List.length_cons, Nat.succ_mul]; omega
end Te
end Go.Proofs.YtigfcchblfnnbaaGreatDoor
