/- Layer 8: an array of an empty slice that is not nil. -/
import Derived.Test.YtfophnmnehpenaaDoorHA9
namespace Go.Proofs.YtfophnmnehpenaaDoor
open Go Go.RowKit
set_option linter.all false
/-- a slice reads as a list of values: nil, empty, or not -/
def VRead2 (w : World) (v : Value) (vs : List Va) : Prop := VRead w v vs ∨ ∃ a c, v = .slice (some a) 0 c ∧ vs = []
theorem VRead2.pur {w w' : World} {v : Value} {vs : List Va} (h : VRead2 w v vs) (hp : Pur w w') : VRead2 w' v vs := h.imp (fun h => h.pur hp) id
set_option maxRecDepth 100000 in
theorem clone_none (a : Addr) (c : Nat) (w : World) : Calls Tryd.prog 39 #[.slice (some a) 0 c] w fun e w' => ∃ v', e = .returned v' ∧ Pur w w' ∧ w'.ownsRow w.heap.size 33 4 v' 0 [] := by
  obtain ⟨i0, hi, hz⟩ := Option.map_eq_some_iff.1 va_info
  simp only [Prod.mk.injEq] at hz
  obtain ⟨hz0, hz1, hz2⟩ := hz
  obtain ⟨z0, hz0, hzs⟩ := Option.map_eq_some_iff.1 hz0
  have hm := World.ownsRow_made (base := w.heap.size) (e := 33) (size := 4) w #[] 0 (Nat.le_refl _) (by decide) rfl
  have hsz := ((Pur.refl w).alloc (.cells #[] 33)).size
  have hn1 : 0 + 0 ≤ maxLen := by unfold maxLen; omega
  have he : ∀ w : World, (binOp .eql 30 (.slice (some a) 0 c) (.slice none 0 0)).run Tryd.prog w = .ok (.bool false) w := fun _ => rfl
  go_enter Tryd.func39, Tryd.ntmps39
  go_wp2_with (at_builtin; refine wpList_append_own_at _ rfl _ _ 30 rfl w.heap.size 33 i0 z0 4 40 Tryd.underlying30 hi hz0 hz1 hz2 hzs (by decide) _ _ _ rfl hm a 0 c [] rfl rfl (fun j u hu => by simp at hu) (fun u hu => by cases hu) hn1 (by decide) hsz ?_)
  intro v5 w5 hown5 hgrow _ hid
  have hp : Pur w w5 := ((Pur.refl w).alloc (.cells #[] 33)).grown hgrow hsz (fun k hk => (hm.lt k hk).1)
  clear hm hgrow hid
  go_wp2
  go_ret
  exact ⟨_, rfl, hp, hown5⟩
set_option maxRecDepth 100000 in
set_option maxHeartbeats 4000000 in
theorem array_none (s : Hs) (a : Addr) (c : Nat) (w : World) (h : HpAt w s) {G : Nat} (hok : s.d.Ok G) :
    Calls Tryd.prog 15 #[.pointer (some ⟨s.h, 0, none⟩), .slice (some a) 0 c] w fun e w' =>
      e = .returned (.tuple #[.int .i64 (s.d.array []).1.1, .int .i64 (s.d.array []).1.2]) ∧ ∃ s', HpAt w' s' ∧ Step w s w' s' ∧ s'.d = (s.d.array []).2 := by
  have he : s.d.array [] = s.d.add (Ob.fresh 2 (-1) 0 0 0 []) 1 := rfl
  rw [he]
  have CL := fun w => clone_none a c w
  have AD := fun (v' : Value) (w3 : World) (hp : Pur w w3) (hrow : w3.ownsRow w.heap.size 33 4 v' 0 []) =>
    add_new s (Ob.fresh 2 (-1) 0 0 0 []) (.slice none 0 0) v' (.map none) 1 w (w3.alloc (.cells #[.int .i64 2, .int .i64 (-1), .int .i64 0, .int .i64 0, .int .i64 0, .slice none 0 0, .map none, v'] 78)) w3.heap.size (hp.alloc _) hp.size h (bk_new _ _) rfl rfl rfl
      (hrow.alloc _) (fun e => by have := (hrow.lt _ e).2; omega) (by omega) hok
  generalize s.d.add (Ob.fresh 2 (-1) 0 0 0 []) 1 = R at *
  clear h hok he
  go_enter Tryd.func15, Tryd.ntmps15
  go_wp2
  go_loopw [10] (fun i wr => i = .int .i64 0 ∧ wr = w) (fun i _ => 1 - (intOf i).toNat)
  case atStart => exact ⟨rfl, rfl⟩
  case round =>
    obtain ⟨rfl, rfl⟩ := hrel
    go_wp2_with fail
    refine (CL _).mono ?_
    rintro e w3 ⟨v', rfl, h3, hrow⟩
    have AD' := AD v' w3 h3 hrow
    obtain ⟨a3, c3, rfl⟩ := row_shape hrow
    clear AD CL hrow
    go_wp2_with fail
    refine AD'.mono ?_
    rintro e w' ⟨rfl, hw⟩
    go_wp2
    go_ret2
    exact ⟨rfl, hw⟩
theorem array2_st {w0 w : World} {hh G : Nat} {K : Nat → Prop} {d : Hd} (h : At w0 hh G K w d) (v : Value) (vs : List Va) (hv : VRead2 w v vs) (hwf : ∀ x ∈ vs, x.wf) (hn : vs.length ≤ 1000000) :
    Calls Tryd.prog 15 #[.pointer (some ⟨hh, 0, none⟩), v] w fun e w' => e = .returned (.tuple #[.int .i64 (d.array vs).1.1, .int .i64 (d.array vs).1.2]) ∧ At w0 hh G K w' (d.array vs).2 ∧ Kept K w w' := by
  rcases hv with hv | ⟨a, c, rfl, rfl⟩
  · exact array_st h v vs hv hwf hn
  · obtain ⟨s, h1, h2, h3, h4, h5⟩ := h.ex
    subst h2 h3
    refine (array_none s a c w h1 h.ok).mono ?_
    rintro e w' ⟨rfl, s', k1, k2, k3⟩
    exact ⟨rfl, h.next (h.ok.array []) h1 rfl h4 h5 k1 k2 k3⟩
end Go.Proofs.YtfophnmnehpenaaDoor
