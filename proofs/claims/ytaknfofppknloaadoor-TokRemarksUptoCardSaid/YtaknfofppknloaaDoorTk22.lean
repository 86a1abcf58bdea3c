/- The document's Same, at lists that are the same. -/
import Derived.Test.YtaknfofppknloaaDoorTk21
namespace Go.Proofs.YtaknfofppknloaaDoor
open Go Go.RowKit
set_option linter.all false
namespace Tk
/-- a token's places -/
def TokV.spots (t : TokV) : (Nat × Nat) × List (Nat × Nat) := (t.at_, t.attrs.map AttrV.at_)
set_option maxRecDepth 100000 in
set_option maxHeartbeats 4000000 in
theorem same_any (ts us : List TokV) (va vb : Value) (w : World) (pl : Bool) (ha : TRead w va ts) (hb : TRead w vb us) (h : ts.map TokV.bare = us.map TokV.bare)
    (hp : pl = true → ts.map TokV.spots = us.map TokV.spots) :
    Calls Tryd.prog 10 #[va, vb, .bool pl] w fun e w' => e = .returned (.bool true) ∧ Pur w w' := by
  have hlen : ts.length = us.length := by simpa using congrArg List.length h
  obtain ⟨aa, ac, rfl, ⟨hac, ham⟩, HA⟩ := id ha
  obtain ⟨ba, bc, rfl, ⟨hbc, hbm⟩, HB⟩ := id hb
  simp only [hlen] at ha hac ⊢
  have AT : ∀ n, n < us.length → ∃ s t : TokV, s.bare = t.bare ∧ (pl = true → s.at_ = t.at_ ∧ s.attrs.map AttrV.at_ = t.attrs.map AttrV.at_) ∧ ts[n]? = some s ∧ us[n]? = some t := fun n hn => by
    have hn' : n < ts.length := by omega
    refine ⟨ts[n], us[n], ?_, fun e => ?_, List.getElem?_eq_getElem _, List.getElem?_eq_getElem _⟩
    · have := congrArg (fun l => l[n]?) h
      simpa only [List.getElem?_map, List.getElem?_eq_getElem hn', List.getElem?_eq_getElem hn, Option.map_some, Option.some.injEq] using this
    · have := congrArg (fun l => l[n]?) (hp e)
      simp only [List.getElem?_map, List.getElem?_eq_getElem hn', List.getElem?_eq_getElem hn, Option.map_some, Option.some.injEq, TokV.spots, Prod.mk.injEq] at this
      exact this
  have hlen := Lib.hid hlen
  clear h hp HA HB
  go_enter Tryd.func10, Tryd.ntmps10
  go_wp2
  go_loopw [7] (fun k wr => ∃ n : Nat, n ≤ us.length ∧ k = .int .i64 n ∧ Pur w wr) (fun k _ => us.length + 1 - (intOf k).toNat)
  case atStart => exact ⟨0, by omega, rfl, Pur.refl w⟩
  case round =>
    obtain ⟨n, hn, rfl, hpr⟩ := hrel
    by_cases hlt : n < us.length
    · have hlt2 : (n : Int) < us.length := by omega
      have hac' : (us.length : Int) ≤ ac := by omega
      have hbc' : (us.length : Int) ≤ bc := by omega
      have wn : IntKind.i64.wrap ((n : Int) + 1) = (n : Int) + 1 := IntWalk.i64_in _ (by omega)
      obtain ⟨s, t, e1, e2, h1, h2⟩ := AT n hlt
      obtain ⟨aa', ac', e4, -, HA⟩ := ha.pur hpr
      obtain ⟨ba', bc', e5, -, HB⟩ := hb.pur hpr
      simp only [Value.slice.injEq] at e4 e5
      obtain ⟨rfl, -, rfl⟩ := e4
      obtain ⟨rfl, -, rfl⟩ := e5
      obtain ⟨ga, av, rfl, hga, k0, k1, k2, k3, k4, k5, k6, k7⟩ := HA n s h1
      obtain ⟨gb, bv, rfl, hgb, l0, l1, l2, l3, l4, l5, l6, l7⟩ := HB n t h2
      have ST : ∀ x : PW wr, Calls Tryd.prog 16 #[s.val av, t.val bv, .bool pl] x.to fun e w' => e = .returned (.bool true) ∧ Pur x.to w' := fun x => sametok_any s t av bv x.to pl (k7.pur x.pur) (l7.pur x.pur) e1 e2
      unfold TokV.val TokV.cells at ST
      have K0 : ∀ x : PW wr, x.to.cell? ⟨ga, n * 7, none⟩ = _ := fun x => (x.pur.cell hga).trans k0
      have K1 : ∀ x : PW wr, x.to.cell? ⟨ga, n * 7 + 1, none⟩ = _ := fun x => (x.pur.cell hga).trans k1
      have K2 : ∀ x : PW wr, x.to.cell? ⟨ga, n * 7 + 2, none⟩ = _ := fun x => (x.pur.cell hga).trans k2
      have K3 : ∀ x : PW wr, x.to.cell? ⟨ga, n * 7 + 3, none⟩ = _ := fun x => (x.pur.cell hga).trans k3
      have K4 : ∀ x : PW wr, x.to.cell? ⟨ga, n * 7 + 4, none⟩ = _ := fun x => (x.pur.cell hga).trans k4
      have K5 : ∀ x : PW wr, x.to.cell? ⟨ga, n * 7 + 5, none⟩ = _ := fun x => (x.pur.cell hga).trans k5
      have K6 : ∀ x : PW wr, x.to.cell? ⟨ga, n * 7 + 6, none⟩ = _ := fun x => (x.pur.cell hga).trans k6
      have L0 : ∀ x : PW wr, x.to.cell? ⟨gb, n * 7, none⟩ = _ := fun x => (x.pur.cell hgb).trans l0
      have L1 : ∀ x : PW wr, x.to.cell? ⟨gb, n * 7 + 1, none⟩ = _ := fun x => (x.pur.cell hgb).trans l1
      have L2 : ∀ x : PW wr, x.to.cell? ⟨gb, n * 7 + 2, none⟩ = _ := fun x => (x.pur.cell hgb).trans l2
      have L3 : ∀ x : PW wr, x.to.cell? ⟨gb, n * 7 + 3, none⟩ = _ := fun x => (x.pur.cell hgb).trans l3
      have L4 : ∀ x : PW wr, x.to.cell? ⟨gb, n * 7 + 4, none⟩ = _ := fun x => (x.pur.cell hgb).trans l4
      have L5 : ∀ x : PW wr, x.to.cell? ⟨gb, n * 7 + 5, none⟩ = _ := fun x => (x.pur.cell hgb).trans l5
      have L6 : ∀ x : PW wr, x.to.cell? ⟨gb, n * 7 + 6, none⟩ = _ := fun x => (x.pur.cell hgb).trans l6
      obtain ⟨a1, a2, rfl, -, -⟩ := id k7
      obtain ⟨a3, a4, rfl, -, -⟩ := id l7
      clear k0 k1 k2 k3 k4 k5 k6 k7 l0 l1 l2 l3 l4 l5 l6 l7 HA HB AT ha hb h1 h2 e1 e2
      go_wp2
      refine wp_region_pur (by kernel_rfl) (by kernel_rfl) ?_
      repeat (go_big_quiet_step (((go_at_call 16; exact quiet_pur (ST _)))))
      refine wpQuiet_nil ?_
      intro wq hq
      go_wp2
      go_roundw
      case rel => exact ⟨n + 1, by omega, by go_num, hpr.trans hq⟩
      case measure => simp [intOf]; omega
    · obtain rfl : n = us.length := by omega
      clear AT ha hb
      go_wp2
      go_ret
      exact ⟨rfl, hpr⟩
end Tk
end Go.Proofs.YtaknfofppknloaaDoor
