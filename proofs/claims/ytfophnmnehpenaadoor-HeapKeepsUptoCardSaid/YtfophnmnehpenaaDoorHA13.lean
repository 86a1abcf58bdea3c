/- Layer 8: Function, Set, Kind, Proto, Code, Size. -/
import Derived.Test.YtfophnmnehpenaaDoorHA12
import Derived.Test.YtfophnmnehpenaaDoorHA9
namespace Go.Proofs.YtfophnmnehpenaaDoor
open Go Go.RowKit
set_option linter.all false
def Hd.func (d : Hd) (a b p : Int) : (Int × Int) × Hd := if p ≠ -1 ∧ d.obj p = none then ((0, 3), d) else d.add (Ob.fresh 3 (-1) a b p []) 1
theorem Hd.Ok.func {G : Nat} {d : Hd} (h : d.Ok G) (a b p : Int) : (d.func a b p).2.Ok G := by
  unfold Hd.func
  split
  · exact h
  · exact h.add _ _ rfl (Ob.fresh_ok _ _ _ _ _ _ _ (by omega))
set_option maxRecDepth 100000 in
set_option maxHeartbeats 2000000 in
theorem func_any (s : Hs) (a b p : Int) (w : World) (h : HpAt w s) {G : Nat} (hok : s.d.Ok G) :
    Calls Tryd.prog 48 #[.pointer (some ⟨s.h, 0, none⟩), .int .i64 a, .int .i64 b, .int .i64 p] w fun e w' =>
      e = .returned (.tuple #[.int .i64 (s.d.func a b p).1.1, .int .i64 (s.d.func a b p).1.2]) ∧ ∃ s', HpAt w' s' ∧ Step w s w' s' ∧ s'.d = (s.d.func a b p).2 := by
  have AT := at_any s p w h
  have AD := add_new s (Ob.fresh 3 (-1) a b p []) (.slice none 0 0) (.slice none 0 0) (.map none) 1 w (w.alloc (.cells #[.int .i64 3, .int .i64 (-1), .int .i64 a, .int .i64 b, .int .i64 p, .slice none 0 0, .map none, .slice none 0 0] 78)) w.heap.size ((Pur.refl w).alloc _) (Nat.le_refl _) h (bk_new _ _) rfl rfl rfl (World.ownsRow_nil _ _ _ _) (by simp [Value.ownBlock]) (by decide) hok
  have hat := at_none h p
  unfold Hd.func
  by_cases h1 : p = -1
  · subst h1
    rw [if_neg (fun hc => hc.1 rfl)]
    generalize s.d.add _ _ = R at *
    clear h hat hok
    go_enter Tryd.func48, Tryd.ntmps48
    go_wp2_with fail
    refine AD.mono ?_
    rintro e w' ⟨rfl, hw⟩
    go_wp2
    go_ret2
    exact ⟨rfl, hw⟩
  · by_cases h2 : s.d.obj p = none
    · rw [if_pos ⟨h1, h2⟩]
      rw [hat.2 h2] at AT
      have hfin : ∃ s', HpAt w s' ∧ Step w s w s' ∧ s'.d = s.d := ⟨s, h, Step.refl w s, rfl⟩
      clear h hat hok AD
      go_enter Tryd.func48, Tryd.ntmps48
      go_wp2_with fail
      refine AT.mono ?_
      rintro e w' ⟨rfl, rfl⟩
      go_wp2
      go_ret2
      exact ⟨rfl, hfin⟩
    · rw [if_neg (fun hc => h2 hc.2)]
      obtain ⟨ad, had⟩ : ∃ ad, s.at p = some ad := Option.ne_none_iff_exists'.1 (fun e => h2 (hat.1 e))
      rw [had] at AT
      generalize s.d.add _ _ = R at *
      clear h hat hok
      go_enter Tryd.func48, Tryd.ntmps48
      go_wp2_with fail
      refine AT.mono ?_
      rintro e w' ⟨rfl, rfl⟩
      go_wp2_with fail
      refine AD.mono ?_
      rintro e w' ⟨rfl, hw⟩
      go_wp2
      go_ret2
      exact ⟨rfl, hw⟩
def Hd.set (d : Hd) (i : Int) (key : List UInt8) (v : Va) : (Bool × Int) × Hd :=
  if d.obj i = none then ((false, 3), d)
  else let k := d.holder key (d.xs.length + 1) i
    if k < 0 then ((false, 0), d) else ((true, (d.put k key v).1), (d.put k key v).2)
theorem Hd.Ok.set {G : Nat} {d : Hd} (h : d.Ok G) (i : Int) (key : List UInt8) (v : Va) : (d.set i key v).2.Ok G := by
  unfold Hd.set
  split
  · exact h
  · simp only
    split
    · exact h
    · exact h.put _ _ _
set_option maxRecDepth 100000 in
set_option maxHeartbeats 4000000 in
theorem set_any (s : Hs) (i : Int) (key : List UInt8) (v : Va) (w : World) (h : HpAt w s) {G : Nat} (hok : s.d.Ok G) (hvw : v.wf) (hkl : key.length ≤ 1000000) :
    Calls Tryd.prog 49 #[.pointer (some ⟨s.h, 0, none⟩), .int .i64 i, .string ⟨key.toArray⟩, v.v] w fun e w' =>
      e = .returned (.tuple #[.bool (s.d.set i key v).1.1, .int .i64 (s.d.set i key v).1.2]) ∧ Left w s w' (s.d.set i key v).2 := by
  obtain ⟨kk, nn, tt, rr⟩ := v
  have p1 : Pur w (w.alloc (.cells #[.int .i64 kk, .float .f64 nn, .string ⟨tt.toArray⟩, .int .i64 rr] 33)) := (Pur.refl w).alloc _
  have AT := at_any s i _ (h.pur p1)
  have hfin : ∀ w', Pur w w' → Left w s w' s.d := fun w' hpp => ⟨s, h.pur hpp, Step.pur hpp, rfl, fun _ => rfl⟩
  unfold Hd.set
  by_cases hx : s.d.obj i = none
  · rw [if_pos hx]
    rw [(at_none h i).2 hx] at AT
    simp only [Va.v, Va.cells]
    clear h hok hx
    go_enter Tryd.func49, Tryd.ntmps49
    go_wp2_with fail
    go_wp2_with fail
    refine (AT).mono ?_
    rintro e w1 ⟨rfl, rfl⟩
    go_wp2
    go_ret2
    exact ⟨rfl, hfin _ p1⟩
  · rw [if_neg hx]
    obtain ⟨ad, had⟩ : ∃ ad, s.at i = some ad := Option.ne_none_iff_exists'.1 (fun e => hx ((at_none h i).1 e))
    rw [had] at AT
    have HO := holder_any s i key _ (h.pur p1) hok hkl
    generalize s.d.holder key (s.d.xs.length + 1) i = k at *
    have PT := fun w2 (hp : Pur (w.alloc (.cells #[.int .i64 kk, .float .f64 nn, .string ⟨tt.toArray⟩, .int .i64 rr] 33)) w2) => put_any s k key ⟨kk, nn, tt, rr⟩ w2 (h.pur (p1.trans hp)) hok hvw hkl
    have V2 := fun w2 (hp : Pur (w.alloc (.cells #[.int .i64 kk, .float .f64 nn, .string ⟨tt.toArray⟩, .int .i64 rr] 33)) w2) => bk_pur (bk_new w (.cells #[.int .i64 kk, .float .f64 nn, .string ⟨tt.toArray⟩, .int .i64 rr] 33)) hp
    simp only [Va.v, Va.cells] at *
    by_cases hk : k < 0
    · simp only [if_pos hk]
      clear h hok hx PT V2
      go_enter Tryd.func49, Tryd.ntmps49
      go_wp2_with fail
      go_wp2_with fail
      refine (AT).mono ?_
      rintro e w1 ⟨rfl, rfl⟩
      go_wp2_with fail
      refine HO.mono ?_
      rintro e w2 ⟨rfl, h2⟩
      go_wp2
      go_ret2
      exact ⟨rfl, hfin _ (p1.trans h2)⟩
    · simp only [if_neg hk]
      have hkd := decide_eq_false hk
      generalize s.d.put k key ⟨kk, nn, tt, rr⟩ = R at *
      clear h hok hx hfin
      go_enter Tryd.func49, Tryd.ntmps49
      go_wp2_with fail
      go_wp2_with fail
      refine (AT).mono ?_
      rintro e w1 ⟨rfl, rfl⟩
      go_wp2_with fail
      refine HO.mono ?_
      rintro e w2 ⟨rfl, h2⟩
      have PT' := PT _ h2
      have B := V2 _ h2
      have c0 := bk_cell B 0 _ rfl
      have c1 := bk_cell B 1 _ rfl
      have c2 := bk_cell B 2 _ rfl
      have c3 := bk_cell B 3 _ rfl
      clear PT V2 B AT HO
      go_wp2_with fail
      refine PT'.mono ?_
      rintro e w3 ⟨rfl, hL⟩
      go_wp2
      go_ret2
      exact ⟨rfl, hL.after (p1.trans h2)⟩
def Hd.kind (d : Hd) (i : Int) : Int := ((d.obj i).map Ob.kind).getD 0
def Hd.proto (d : Hd) (i : Int) : Int := ((d.obj i).map Ob.proto).getD (-1)
set_option maxRecDepth 100000 in
theorem kind_any (s : Hs) (i : Int) (w : World) (h : HpAt w s) : Calls Tryd.prog 50 #[.pointer (some ⟨s.h, 0, none⟩), .int .i64 i] w fun e w' => e = .returned (.int .i64 (s.d.kind i)) ∧ w = w' := by
  have AT := at_any s i w h
  unfold Hd.kind
  rcases hx : s.d.obj i with _ | x
  · rw [(at_none h i).2 hx] at AT
    clear h hx
    go_enter Tryd.func50, Tryd.ntmps50
    go_wp2_with fail
    go_wp2_with fail
    refine (AT).mono ?_
    rintro e w1 ⟨rfl, rfl⟩
    go_wp2
    go_ret
    exact ⟨rfl, rfl⟩
  · obtain ⟨p, hp, hxx, hat, hob⟩ := h.pl hx
    rw [hat] at AT
    have q0 := bk_cell hob.own 0 _ rfl
    clear h hx hp hxx hat hob
    go_enter Tryd.func50, Tryd.ntmps50
    go_wp2_with fail
    go_wp2_with fail
    refine (AT).mono ?_
    rintro e w1 ⟨rfl, rfl⟩
    go_wp2
    go_ret
    exact ⟨rfl, rfl⟩
set_option maxRecDepth 100000 in
theorem proto_any (s : Hs) (i : Int) (w : World) (h : HpAt w s) : Calls Tryd.prog 51 #[.pointer (some ⟨s.h, 0, none⟩), .int .i64 i] w fun e w' => e = .returned (.int .i64 (s.d.proto i)) ∧ w = w' := by
  have AT := at_any s i w h
  unfold Hd.proto
  rcases hx : s.d.obj i with _ | x
  · rw [(at_none h i).2 hx] at AT
    clear h hx
    go_enter Tryd.func51, Tryd.ntmps51
    go_wp2_with fail
    go_wp2_with fail
    refine (AT).mono ?_
    rintro e w1 ⟨rfl, rfl⟩
    go_wp2
    go_ret
    exact ⟨rfl, rfl⟩
  · obtain ⟨p, hp, hxx, hat, hob⟩ := h.pl hx
    rw [hat] at AT
    have q0 := bk_cell hob.own 1 _ rfl
    clear h hx hp hxx hat hob
    go_enter Tryd.func51, Tryd.ntmps51
    go_wp2_with fail
    go_wp2_with fail
    refine (AT).mono ?_
    rintro e w1 ⟨rfl, rfl⟩
    go_wp2
    go_ret
    exact ⟨rfl, rfl⟩
def Hd.code (d : Hd) (i : Int) : (Int × Int × Int) × Bool := match d.obj i with
  | none => ((0, 0, 0), false)
  | some x => if x.kind = 3 then ((x.a, x.b, x.scope), true) else ((0, 0, 0), false)
set_option maxRecDepth 100000 in
set_option maxHeartbeats 2000000 in
theorem code_any (s : Hs) (i : Int) (w : World) (h : HpAt w s) : Calls Tryd.prog 52 #[.pointer (some ⟨s.h, 0, none⟩), .int .i64 i] w fun e w' => e = .returned (.tuple #[.int .i64 (s.d.code i).1.1, .int .i64 (s.d.code i).1.2.1, .int .i64 (s.d.code i).1.2.2, .bool (s.d.code i).2]) ∧ Pur w w' := by
  have AT := at_any s i w h
  unfold Hd.code
  rcases hx : s.d.obj i with _ | x
  · rw [(at_none h i).2 hx] at AT
    clear h hx
    go_enter Tryd.func52, Tryd.ntmps52
    go_wp2_with fail
    go_wp2_with fail
    refine (AT).mono ?_
    rintro e w1 ⟨rfl, rfl⟩
    go_wp2
    refine bodyPost_ret (v := .tuple #[.int .i64 0, .int .i64 0, .int .i64 0, .bool false]) (by simp [results, Tryd.results52, go_sem]) rfl ⟨rfl, Pur.refl _⟩
  · obtain ⟨p, hp, hxx, hat, hob⟩ := h.pl hx
    rw [hat] at AT
    have q0 := bk_cell hob.own 0 _ rfl
    have q2 : ∀ y : PW w, y.to.cell? ⟨p.o, 2, none⟩ = some (.int .i64 x.a) := fun y => bk_cell (bk_pur hob.own y.pur) 2 _ rfl
    have q3 : ∀ y : PW w, y.to.cell? ⟨p.o, 3, none⟩ = some (.int .i64 x.b) := fun y => bk_cell (bk_pur hob.own y.pur) 3 _ rfl
    have q4 : ∀ y : PW w, y.to.cell? ⟨p.o, 4, none⟩ = some (.int .i64 x.scope) := fun y => bk_cell (bk_pur hob.own y.pur) 4 _ rfl
    by_cases hk : x.kind = 3
    · simp only [if_pos hk]
      rw [hk] at q0
      clear h hx hp hxx hat hob
      go_enter Tryd.func52, Tryd.ntmps52
      go_wp2_with fail
      go_wp2_with fail
      refine (AT).mono ?_
      rintro e w1 ⟨rfl, rfl⟩
      go_wp2_with fail
      refine wp_region_pur (by kernel_rfl) (by kernel_rfl) ?_
      repeat (go_big_quiet_step (fail))
      refine wpQuiet_nil ?_
      intro w2 h2
      go_wp2
      refine bodyPost_ret (v := .tuple #[.int .i64 x.a, .int .i64 x.b, .int .i64 x.scope, .bool true]) (by simp [results, Tryd.results52, go_sem]) rfl ⟨rfl, h2⟩
    · simp only [if_neg hk]
      have hd := decide_eq_false hk
      have hn : (x.kind != 3) = true := bne_iff_ne.2 hk
      clear h hx hp hxx hat hob q2 q3 q4
      go_enter Tryd.func52, Tryd.ntmps52
      go_wp2_with fail
      go_wp2_with fail
      refine (AT).mono ?_
      rintro e w1 ⟨rfl, rfl⟩
      go_wp2
      refine bodyPost_ret (v := .tuple #[.int .i64 0, .int .i64 0, .int .i64 0, .bool false]) (by simp [results, Tryd.results52, go_sem]) rfl ⟨rfl, Pur.refl _⟩
set_option maxRecDepth 100000 in
theorem size_any (s : Hs) (w : World) (h : HpAt w s) : Calls Tryd.prog 27 #[.pointer (some ⟨s.h, 0, none⟩)] w fun e w' => e = .returned (.tuple #[.int .i64 s.d.xs.length, .int .i64 s.d.left]) ∧ Pur w w' := by
  obtain ⟨a, c, hov, -⟩ := h.rows
  have q0 : ∀ y : PW w, y.to.cell? ⟨s.h, 0, none⟩ = some (.slice a s.ps.length c) := fun y => by rw [← hov]; exact bk_cell (bk_pur h.own y.pur) 0 _ rfl
  have q1 : ∀ y : PW w, y.to.cell? ⟨s.h, 1, none⟩ = some (.int .i64 s.left) := fun y => bk_cell (bk_pur h.own y.pur) 1 _ rfl
  have hl : (s.d.xs.length : Int) = s.ps.length := by rw [show s.d.xs.length = s.ps.length from h.len]
  rw [hl]
  clear hl hov h
  go_enter Tryd.func27, Tryd.ntmps27
  go_wp2_with fail
  refine wp_region_pur (by kernel_rfl) (by kernel_rfl) ?_
  repeat (go_big_quiet_step (fail))
  refine wpQuiet_nil ?_
  intro w2 h2
  go_wp2
  go_ret2
  exact ⟨rfl, h2⟩
end Go.Proofs.YtfophnmnehpenaaDoor
