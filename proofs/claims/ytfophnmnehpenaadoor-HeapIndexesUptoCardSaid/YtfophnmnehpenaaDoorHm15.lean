/- Layer 8: (*Heap).holder, (*Heap).Get. -/
import Derived.Test.YtfophnmnehpenaaDoorHm14
namespace Go.Proofs.YtfophnmnehpenaaDoor
open Go Go.RowKit
set_option linter.all false
theorem holder_none (d : Hd) (key : List UInt8) (m : Nat) (i : Int) (h : d.obj i = none) : d.holder key m i = -1 := by
  cases m with
  | zero => rfl
  | succ m => unfold Hd.holder; rw [h]
theorem holder_here (d : Hd) (key : List UInt8) (m : Nat) (i : Int) (x : Ob) (h : d.obj i = some x) (ho : (x.own key).2 = true) : d.holder key (m + 1) i = i := by
  unfold Hd.holder; rw [h]; simp [ho]
theorem holder_up (d : Hd) (key : List UInt8) (m : Nat) (i : Int) (x : Ob) (h : d.obj i = some x) (ho : (x.own key).2 = false) : d.holder key (m + 1) i = d.holder key m x.proto := by
  rw [Hd.holder, h]; simp [ho]
theorem own_at {d : Hd} {i : Int} {x : Ob} (h : d.obj i = some x) (key : List UInt8) : d.own i key = x.own key := by unfold Hd.own; rw [h]
set_option maxRecDepth 100000 in
set_option maxHeartbeats 4000000 in
theorem holder_any (s : Hs) (i : Int) (key : List UInt8) (w : World) (h : HpAt w s) {G : Nat} (hok : s.d.Ok G) (hkl : key.length ≤ 1000000) :
    Calls Tryd.prog 44 #[.pointer (some ⟨s.h, 0, none⟩), .int .i64 i, .string ⟨key.toArray⟩] w fun e w' => e = .returned (.int .i64 (s.d.holder key (s.d.xs.length + 1) i)) ∧ Pur w w' := by
  have hst := h.short
  have hlen : s.d.xs.length = s.ps.length := h.len
  obtain ⟨H, hH⟩ : ∃ H, s.d.holder key (s.d.xs.length + 1) i = H := ⟨_, rfl⟩
  rw [hH]
  have HH := Lib.hid hH
  clear hH
  go_enter Tryd.func44, Tryd.ntmps44
  go_wp2
  go_loopw [1] (fun v wr => ∃ (j : Int) (m : Nat), v = .int .i64 j ∧ Pur w wr ∧ Hid ((∀ x, s.d.obj j = some x → j < m) ∧ s.d.holder key m j = H)) (fun v _ => (intOf v + 1).toNat)
  case atStart => exact ⟨i, s.d.xs.length + 1, rfl, Pur.refl w, Lib.hid ⟨fun x hx => by have := (Hd.obj_mem hx).2.2.1; omega, HH.out⟩⟩
  case round =>
    obtain ⟨j, m, rfl, hpr, HR⟩ := hrel
    have hr := h.pur hpr
    have AT := at_any s j wr hr
    rcases hx : s.d.obj j with _ | x
    · rw [(at_none h j).2 hx] at AT
      have e := holder_none s.d key m j hx
      rw [HR.out.2] at e
      subst e
      clear HR HH h hr hlen hst
      go_wp2_with fail
      go_wp2_with fail
      refine (AT).mono ?_
      rintro e w2 ⟨rfl, rfl⟩
      go_wp2
      go_ret
      exact ⟨rfl, hpr⟩
    · obtain ⟨-, j0, j1, j2⟩ := Hd.obj_mem hx
      obtain ⟨p, hp, -, -⟩ := h.find hx
      rw [hp] at AT
      have j3 : j < (s.ps.length : Int) := by omega
      have OW := own_pur s j key wr hr hok hkl (own_at hx key)
      have hpr2 : x.proto < j := by
        have := (hok.at hx).1
        omega
      obtain ⟨m, rfl⟩ : ∃ m', m = m' + 1 := ⟨m - 1, by have := HR.out.1 x hx; omega⟩
      have hm := HR.out.1 x hx
      have Q : ∀ wx, Pur wr wx → ∃ g c, wx.cell? ⟨s.h, 0, none⟩ = some (.slice (some ⟨g, 0, none⟩) s.ps.length c) ∧ wx.cell? ⟨g, j.toNat, none⟩ = some (.pointer (some ⟨p.o, 0, none⟩)) ∧ wx.cell? ⟨p.o, 1, none⟩ = some (.int .i64 x.proto) := fun wx hp2 => by
        have hw := hr.pur hp2
        obtain ⟨a, c, hov, hrow⟩ := hw.rows
        obtain ⟨p', hp', hob, -⟩ := hw.find hx
        rw [hp] at hp'
        have ho : p.o = p'.o := by simpa using hp'
        have hps : s.ps[j.toNat]? = some p' ∨ True := .inr trivial
        have h3 : j.toNat < s.ps.length := by omega
        obtain ⟨g, ha, hg⟩ := hrow j.toNat s.ps[j.toNat] (List.getElem?_eq_getElem h3)
        have hpp : s.ps[j.toNat].o = p.o := by
          unfold Hs.at at hp
          rw [if_neg (by omega), List.getElem?_eq_getElem h3] at hp
          simpa using hp
        rw [hpp] at hg
        refine ⟨g, c, ?_, hg, ?_⟩
        · rw [hw.cell0, hov, ha]
        · rw [ho]; exact bk_cell hob.own 1 _ rfl
      have hpro := (hok.at hx).1
      rcases hb : (x.own key).2 with _ | _
      · have e := holder_up s.d key m j x hx hb
        rw [HR.out.2] at e
        have HE := Lib.hid e
        have hnew : ∀ y, s.d.obj x.proto = some y → x.proto < m := fun _ _ => by omega
        have HN := Lib.hid hnew
        rw [hb] at OW
        generalize (x.own key).1 = y at OW
        obtain ⟨kk, nn, tt, rr⟩ := y
        simp only [Va.v, Va.cells] at OW
        clear HR HH e hnew hpro h hr hlen hx hb hp hm j2
        go_wp2_with fail
        go_wp2_with fail
        refine (AT).mono ?_
        rintro e w1 ⟨rfl, rfl⟩
        go_wp2_with fail
        go_wp2_with fail
        refine (OW).mono ?_
        rintro e w2 ⟨rfl, hp2⟩
        obtain ⟨g, c, q0, q1, q2⟩ := Q (w2.alloc (.cells #[.int .i64 kk, .float .f64 nn, .string ⟨tt.toArray⟩, .int .i64 rr] 33)) (hp2.alloc _)
        clear Q OW AT
        go_wp2
        go_roundw
        case rel => exact ⟨x.proto, m, rfl, (hpr.trans hp2).alloc _, Lib.hid ⟨HN.out, HE.out.symm⟩⟩
        case measure => simp [intOf]; omega
      · have e := holder_here s.d key m j x hx hb
        rw [HR.out.2] at e
        subst e
        rw [hb] at OW
        generalize (x.own key).1 = y at OW
        obtain ⟨kk, nn, tt, rr⟩ := y
        simp only [Va.v, Va.cells] at OW
        clear HR HH hpro h hr hlen hx hb hp hm j2 Q
        go_wp2_with fail
        go_wp2_with fail
        refine (AT).mono ?_
        rintro e w1 ⟨rfl, rfl⟩
        go_wp2_with fail
        go_wp2_with fail
        refine (OW).mono ?_
        rintro e w2 ⟨rfl, hp2⟩
        go_wp2
        go_ret
        exact ⟨rfl, (hpr.trans hp2).alloc _⟩
end Go.Proofs.YtfophnmnehpenaaDoor
