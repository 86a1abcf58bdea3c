/- Same: the same fields? -/
import Derived.Test.YthfoidodcfdpnaaDoorFld7
import Derived.Laws.StructEq
namespace Go.Proofs.YthfoidodcfdpnaaDoor
open Go Go.RowKit
theorem FRead.at {w : World} {a : Option Addr} {n c : Nat} {fs : List Fld} (h : FRead w (.slice a n c) fs) : n = fs.length ∧ ∀ (j : Nat) f, fs[j]? = some f → ∃ b o, a = some ⟨b, o, none⟩ ∧ b < w.heap.size ∧ w.cell? ⟨b, o + j * 2, none⟩ = some (.string ⟨f.1.toArray⟩) ∧ w.cell? ⟨b, o + j * 2 + 1, none⟩ = some (.string ⟨f.2.toArray⟩) := by
  obtain ⟨a', c', e, h2⟩ := h
  injection e with e1 e2 e3
  subst e1 e2 e3
  exact ⟨rfl, fun j f hj => by have := h2 j f hj; rw [Nat.mul_comm 2 j] at this; exact this⟩
theorem fld_under : Tryd.prog.underlying 34 = some (.struct (Tryd.prog.fieldsOf 34)) := by kernel_rfl
theorem fld_stood : Tryd.prog.stoodInHeld 34 = false := by kernel_rfl
theorem fld_guard : Tryd.prog.eqGuardType Tryd.prog.depth 34 = false := by kernel_rfl
theorem fld_fields : (Tryd.prog.fieldsOf 34).toList = [{ name := "Name", type := 9, offset := 0, embedded := false, tag := "", pkgPath := "", byteOffset := 0 }, { name := "Value", type := 9, offset := 1, embedded := false, tag := "", pkgPath := "", byteOffset := 16 }] := by kernel_rfl
def fldNe (f g : Fld) : Bool := !decide (f = g)
@[go_sem] theorem guard_fld (op : BinOp) (x y : Operand) (xs ys : Array Value) (w : World) : (eqGuard op 34 x y (.agg xs) (.agg ys)).run Tryd.prog w = .ok () w := run_eqGuard_agg w op _ x y xs ys fld_guard
@[go_sem high] theorem run_neq_fld (f g : Fld) (w : World) : (binOp .neq 34 (.agg #[.string ⟨f.1.toArray⟩, .string ⟨f.2.toArray⟩]) (.agg #[.string ⟨g.1.toArray⟩, .string ⟨g.2.toArray⟩])).run Tryd.prog w = .ok (.bool (fldNe f g)) w := by
  rw [run_neq_struct, run_equalIn_struct w 9999 _ _ _ fld_under fld_stood, fld_fields]
  have hp : ∀ (x y : Bytes), (Go.part 9 #[.string ⟨x.toArray⟩, .string ⟨y.toArray⟩] 0).run Tryd.prog w = .ok (.string ⟨x.toArray⟩) w := fun x y => by go_simp
  have hp2 : ∀ (x y : Bytes), (Go.part 9 #[.string ⟨x.toArray⟩, .string ⟨y.toArray⟩] 1).run Tryd.prog w = .ok (.string ⟨y.toArray⟩) w := fun x y => by go_simp
  have hq : ∀ (x y : Bytes), (Op.equalIn 9999 9 (.string ⟨x.toArray⟩) (.string ⟨y.toArray⟩)).run Tryd.prog w = .ok (decide (x = y)) w := fun x y => by
    rw [run_equalIn_string w 9998 9 _ _ Tryd.underlying9, ByteArray.toList_eq, ByteArray.toList_eq]
    congr 1
    by_cases h : x = y
    · subst h; simp
    · have : (x == y) = false := by simpa using h
      simp [h]
  obtain ⟨f1, f2⟩ := f
  obtain ⟨g1, g2⟩ := g
  by_cases h1 : f1 = g1 <;> by_cases h2 : f2 = g2 <;> simp [Op.eqFields, hp, hp2, hq, h1, h2, fldNe]
set_option maxRecDepth 100000 in
set_option maxHeartbeats 1000000 in
theorem same_any (v u : Value) (fs gs : List Fld) (w : World) (hR : FRead w v fs) (hQ : FRead w u gs) (hs : fs.length ≤ 4611686018427387903) (ht : gs.length ≤ 4611686018427387903) :
    Calls Tryd.prog 14 #[v, u] w fun e w' => e = .returned (.bool (decide (fs = gs))) ∧ Pur w w' := by
  obtain ⟨a, c, rfl, _⟩ := id hR
  obtain ⟨a', c', rfl, _⟩ := id hQ
  have hC := Lib.hid hR.at.2
  have hD := Lib.hid hQ.at.2
  clear hR hQ
  by_cases hl : fs.length = gs.length
  · have d1 : ((fs.length : Int) != gs.length) = false := by simp; omega
    have HL := Lib.hid hl
    clear hl
    go_enter Tryd.func14, Tryd.ntmps14
    go_wp2
    go_loopw [5] (fun k wr => ∃ n : Nat, n ≤ fs.length ∧ k = .int .i64 n ∧ Pur w wr ∧ Hid (∀ j, j < n → fs[j]? = gs[j]?)) (fun k _ => fs.length + 1 - (intOf k).toNat)
    case atStart => exact ⟨0, by omega, rfl, Pur.refl w, Lib.hid (fun j h => by omega)⟩
    case round =>
      obtain ⟨n, hn, rfl, hpr, H⟩ := hrel
      by_cases hlt : n < fs.length
      · obtain ⟨f, hf⟩ : ∃ f, fs[n]? = some f := ⟨_, List.getElem?_eq_getElem hlt⟩
        obtain ⟨g, hg⟩ : ∃ g, gs[n]? = some g := ⟨_, List.getElem?_eq_getElem (by have := HL.out; omega)⟩
        obtain ⟨b, o, rfl, hb, c1, c2⟩ := hC.out n f hf
        obtain ⟨b', o', rfl, hb', c3, c4⟩ := hD.out n g hg
        have k1 : ∀ x : PW wr, x.to.cell? ⟨b, o + n * 2, none⟩ = some (.string ⟨f.1.toArray⟩) := fun x => ((hpr.trans x.pur).cell (p := ⟨b, o + n * 2, none⟩) hb).trans c1
        have k2 : ∀ x : PW wr, x.to.cell? ⟨b, o + n * 2 + 1, none⟩ = some (.string ⟨f.2.toArray⟩) := fun x => ((hpr.trans x.pur).cell (p := ⟨b, o + n * 2 + 1, none⟩) hb).trans c2
        have k3 : ∀ x : PW wr, x.to.cell? ⟨b', o' + n * 2, none⟩ = some (.string ⟨g.1.toArray⟩) := fun x => ((hpr.trans x.pur).cell (p := ⟨b', o' + n * 2, none⟩) hb').trans c3
        have k4 : ∀ x : PW wr, x.to.cell? ⟨b', o' + n * 2 + 1, none⟩ = some (.string ⟨g.2.toArray⟩) := fun x => ((hpr.trans x.pur).cell (p := ⟨b', o' + n * 2 + 1, none⟩) hb').trans c4
        have hlt' : (n : Int) < fs.length := by omega
        have hlt2 : (n : Int) < gs.length := by have := HL.out; omega
        have hz : (0 : Int) ≤ n := by omega
        by_cases he : f = g
        · subst he
          have hd : fldNe f f = false := by simp [fldNe]
          have HN : Hid (∀ j, j < n + 1 → fs[j]? = gs[j]?) := Lib.hid (fun j h => by
            by_cases e : j = n
            · rw [e, hf, hg]
            · exact H.out j (by omega))
          clear hf hg
          go_wp2
          refine wp_region_pur (by kernel_rfl) (by kernel_rfl) ?_
          repeat (quiet_step (fail))
          refine wpQuiet_nil ?_
          intro wq hq
          go_wp2
          go_roundw
          case rel => exact ⟨n + 1, by omega, by go_num, hpr.trans hq, HN⟩
          case measure => simp [intOf]; omega
        · have hd : fldNe f g = true := by simp [fldNe, he]
          have HF := Lib.hid (show decide (fs = gs) = false by
            simp only [decide_eq_false_iff_not]
            rintro rfl
            rw [hf] at hg
            exact he (Option.some.inj hg))
          clear hf hg
          go_wp2
          refine wp_region_pur (by kernel_rfl) (by kernel_rfl) ?_
          repeat (quiet_step (fail))
          refine wpQuiet_nil ?_
          intro wq hq
          go_wp2
          go_ret
          exact ⟨by rw [HF.out]; rfl, hpr.trans hq⟩
      · have HF := Lib.hid (show decide (fs = gs) = true by
          refine decide_eq_true (List.ext_getElem? fun j => ?_)
          by_cases h : j < n
          · exact H.out j h
          · have := HL.out
            rw [List.getElem?_eq_none (by omega), List.getElem?_eq_none (by omega)])
        have hle : (fs.length : Int) ≤ n := by omega
        go_wp2
        go_ret
        exact ⟨by rw [HF.out]; rfl, hpr⟩
  · have d1 : ((fs.length : Int) != gs.length) = true := by simp; omega
    have HF := Lib.hid (show decide (fs = gs) = false by simp; rintro rfl; exact hl rfl)
    clear hl
    go_enter Tryd.func14, Tryd.ntmps14
    go_wp2
    go_ret
    exact ⟨by rw [HF.out]; rfl, Pur.refl w⟩
end Go.Proofs.YthfoidodcfdpnaaDoor
