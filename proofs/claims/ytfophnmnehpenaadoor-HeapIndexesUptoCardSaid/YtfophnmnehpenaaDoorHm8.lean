/- Layer 8: (*Heap).Array. -/
import Derived.Test.YtfophnmnehpenaaDoorHm6
import Derived.Test.YtfophnmnehpenaaDoorHm7
namespace Go.Proofs.YtfophnmnehpenaaDoor
open Go Go.RowKit
set_option linter.all false
def Hd.array (d : Hd) (vs : List Va) : (Int × Int) × Hd := if vs.all (Va.right d.xs.length) = true then d.add (Ob.fresh 2 (-1) 0 0 0 vs) (1 + vs.length) else ((0, 1), d)
theorem Hd.Ok.array {G : Nat} {d : Hd} (h : d.Ok G) (vs : List Va) : (d.array vs).2.Ok G := by
  unfold Hd.array
  split
  · exact h.add _ _ (by simp [Ob.cost, Ob.fresh]) (Ob.fresh_ok _ _ _ _ _ _ _ (by omega))
  · exact h
theorem VRead.each {w : World} {v : Value} {vs : List Va} (h : VRead w v vs) : ∃ a c, v = .slice a vs.length c ∧ ∀ (n : Nat) x, vs[n]? = some x → ∃ b o, a = some ⟨b, o, none⟩ ∧ b < w.heap.size ∧ ∀ (i : Nat) u, x.cells[i]? = some u → w.cell? ⟨b, o + n * 4 + i, none⟩ = some u := by
  rcases h with ⟨rfl, rfl⟩ | ⟨b, o, c, rfl, hb, hc⟩
  · exact ⟨none, 0, rfl, fun n x hx => by simp at hx⟩
  · refine ⟨_, c, rfl, fun n x hx => ⟨b, o, rfl, hb, fun i u hu => ?_⟩⟩
    have := hc _ _ (va_at vs n x hx i u hu)
    rw [← Nat.add_assoc] at this
    exact this
set_option maxRecDepth 100000 in
set_option maxHeartbeats 4000000 in
theorem array_any (s : Hs) (v : Value) (vs : List Va) (w : World) (h : HpAt w s) (hv : VRead w v vs) (hwf : ∀ x ∈ vs, x.wf) (hn : vs.length ≤ 1000000) {G : Nat} (hok : s.d.Ok G) :
    Calls Tryd.prog 15 #[.pointer (some ⟨s.h, 0, none⟩), v] w fun e w' =>
      e = .returned (.tuple #[.int .i64 (s.d.array vs).1.1, .int .i64 (s.d.array vs).1.2]) ∧ ∃ s', HpAt w' s' ∧ Step w s w' s' ∧ s'.d = (s.d.array vs).2 := by
  have hlen : s.d.xs.length = s.ps.length := h.len
  obtain ⟨a, c, rfl, hC⟩ := hv.each
  obtain ⟨R, hR⟩ : ∃ R, s.d.array vs = R := ⟨_, rfl⟩
  rw [hR]
  unfold Hd.array at hR
  rw [hlen] at hR
  have HR0 := Lib.hid hR
  clear hR
  go_enter Tryd.func15, Tryd.ntmps15
  go_wp2
  go_loopw [10] (fun i wr => ∃ n : Nat, n ≤ vs.length ∧ i = .int .i64 n ∧ Pur w wr ∧ Hid (∀ x ∈ vs.take n, x.right s.ps.length = true)) (fun i _ => vs.length + 1 - (intOf i).toNat)
  case atStart => exact ⟨0, by omega, rfl, Pur.refl w, Lib.hid (by simp)⟩
  case round =>
    obtain ⟨n, hnl, rfl, hpr, HR⟩ := hrel
    by_cases hlt : n < vs.length
    · have hlt' : (n : Int) < vs.length := by omega
      have hn0 : (0 : Int) ≤ n := by omega
      obtain ⟨x, hx⟩ : ∃ x, vs[n]? = some x := ⟨_, List.getElem?_eq_getElem hlt⟩
      have hxw := hwf x (List.mem_of_getElem? hx)
      obtain ⟨b, o, ha, hb, hcell⟩ := hC n x hx
      have k0 := (hpr.cell (p := ⟨b, o + n * 4 + 0, none⟩) hb).trans (hcell 0 _ rfl)
      have k1 := (hpr.cell (p := ⟨b, o + n * 4 + 1, none⟩) hb).trans (hcell 1 _ rfl)
      have k2 := (hpr.cell (p := ⟨b, o + n * 4 + 2, none⟩) hb).trans (hcell 2 _ rfl)
      have k3 := (hpr.cell (p := ⟨b, o + n * 4 + 3, none⟩) hb).trans (hcell 3 _ rfl)
      rw [Nat.add_zero] at k0
      subst ha
      have RT := fun (wx : World) (hw : HpAt wx s) => right_any s x wx hw hxw.1 hxw.2
      have hr := h.pur hpr
      have hfin : ∀ wx, Pur w wx → ∃ s', HpAt wx s' ∧ Step w s wx s' ∧ s'.d = s.d := fun wx hp => ⟨s, h.pur hp, Step.pur hp, rfl⟩
      have HT : Hid (vs.take (n + 1) = vs.take n ++ [x]) := Lib.hid (by rw [List.take_succ, hx]; rfl)
      have HX : Hid (x ∈ vs) := Lib.hid (List.mem_of_getElem? hx)
      clear hcell hC hwf hxw
      obtain ⟨bx, hbx⟩ : ∃ bx, x.right s.ps.length = bx := ⟨_, rfl⟩
      rw [hbx] at RT
      obtain ⟨kk, nn, tt, rr⟩ := x
      simp only [Va.v, Va.cells] at RT
      go_wp2_with fail
      refine (RT _ (hr.pur ?hp1)).mono ?_
      case hp1 => exact (Pur.refl _).alloc _
      rintro e w2 ⟨rfl, h2⟩
      have hp2 := (hpr.trans ((Pur.refl wr).alloc (.cells #[.int .i64 kk, .float .f64 nn, .string ⟨tt.toArray⟩, .int .i64 rr] 33))).trans h2
      have hfin2 := hfin _ hp2
      clear k0 k1 k2 k3 RT hr hfin hok h2 hpr
      rcases bx with _ | _
      · have HN : ¬ vs.all (Va.right s.ps.length) = true := fun ha => by
          rw [List.all_eq_true.1 ha _ HX.out] at hbx
          cases hbx
        have e := HR0.out
        rw [if_neg HN] at e
        subst e
        go_wp2
        go_ret2
        exact ⟨rfl, hfin2⟩
      · go_wp2
        go_roundw
        case rel =>
          refine ⟨n + 1, by omega, by go_num, hp2, Lib.hid (fun y hy => ?_)⟩
          rw [HT.out] at hy
          rcases List.mem_append.1 hy with hy | hy
          · exact HR.out y hy
          · rw [List.mem_singleton.1 hy]; exact hbx
        case measure => simp [intOf]; omega
    · obtain rfl : n = vs.length := by omega
      have HA : vs.all (Va.right s.ps.length) = true := List.all_eq_true.2 (fun y hy => HR.out y (by rw [List.take_length]; exact hy))
      have e := HR0.out
      rw [if_pos HA] at e
      have CL := clone_any _ vs wr (hv.pur hpr) hn
      clear hC hwf HA HR hlen HR0
      have AD := fun (v' : Value) (w3 : World) (hp : Pur w w3) (hrow : w3.ownsRow w.heap.size 33 4 v' vs.length (vs.flatMap Va.cells)) =>
        add_new s (Ob.fresh 2 (-1) 0 0 0 vs) (.slice none 0 0) v' (.map none) (1 + vs.length) w (w3.alloc (.cells #[.int .i64 2, .int .i64 (-1), .int .i64 0, .int .i64 0, .int .i64 0, .slice none 0 0, .map none, v'] 78)) w3.heap.size (hp.alloc _) hp.size h (bk_new _ _) rfl rfl rfl
          (hrow.alloc _) (fun e => by have := (hrow.lt _ e).2; omega) (by omega) hok
      rw [e] at AD
      clear e
      have wr1 : IntKind.i64.wrap (1 + (vs.length : Int)) = 1 + vs.length := IntWalk.i64_in _ (by omega)
      go_wp2_with fail
      refine CL.mono ?_
      rintro e w3 ⟨v', rfl, h3, hrow⟩
      have AD' := AD v' w3 (hpr.trans h3) (row_low hrow hpr.size)
      obtain ⟨a3, c3, rfl⟩ := row_shape hrow
      clear AD CL hrow
      go_wp2_with fail
      refine AD'.mono ?_
      rintro e w' ⟨rfl, hw⟩
      go_wp2
      go_ret2
      exact ⟨rfl, hw⟩
end Go.Proofs.YtfophnmnehpenaaDoor
