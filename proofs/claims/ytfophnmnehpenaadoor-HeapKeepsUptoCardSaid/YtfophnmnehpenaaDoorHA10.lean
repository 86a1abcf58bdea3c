/- Layer 8: (*Heap).Items. Layer 8: (*Heap).Keys. -/
import Derived.Test.YtfophnmnehpenaaDoorHA9
import Derived.Test.YtfophnmnehpenaaDoorAppRead
namespace Go.Proofs.YtfophnmnehpenaaDoor
open Go Go.RowKit
set_option linter.all false
def Hd.items (d : Hd) (i : Int) : Option (List Va) := (d.obj i).bind fun x => if x.kind = 2 then some x.items else none
set_option maxRecDepth 100000 in
set_option maxHeartbeats 4000000 in
theorem items_any (s : Hs) (i : Int) (w : World) (h : HpAt w s) {G : Nat} (hok : s.d.Ok G) :
    Calls Tryd.prog 17 #[.pointer (some ⟨s.h, 0, none⟩), .int .i64 i] w fun e w' => ∃ v, e = .returned (.tuple #[v, .bool (s.d.items i).isSome]) ∧ Pur w w' ∧ w'.ownsRow w.heap.size 33 4 v ((s.d.items i).getD []).length (((s.d.items i).getD []).flatMap Va.cells) := by
  unfold Hd.items
  have AT := at_any s i w h
  rcases hx : s.d.obj i with _ | x
  · rw [(at_none h i).2 hx] at AT
    have hfin := World.ownsRow_nil w w.heap.size 33 4
    clear h hx hok
    go_enter Tryd.func17, Tryd.ntmps17
    go_wp2_with fail
    go_wp2_with fail
    refine (AT).mono ?_
    rintro e w1 ⟨rfl, rfl⟩
    go_wp2
    go_ret2
    exact ⟨_, rfl, Pur.refl _, hfin⟩
  · obtain ⟨p, hp, hxx, hat, hob⟩ := h.pl hx
    rw [hat] at AT
    have hb := hok.mem (Hd.obj_mem hx).1
    obtain ⟨a, c, hiv⟩ := row_shape hob.items
    by_cases hk : x.kind = 2
    · have ob := hob.own
      rw [hk] at ob
      have q0 := bk_cell ob 0 _ rfl
      have q7 := bk_cell ob 7 (.slice a x.items.length c) (by rw [← hiv]; rfl)
      have CL := clone_any (.slice a x.items.length c) x.items w (by rw [← hiv]; exact VRead.of_own hob.items) (by omega)
      simp only [Option.bind_some, if_pos hk, Option.isSome_some, Option.getD_some]
      clear h hx hp hxx hat hob hiv hk ob hok
      go_enter Tryd.func17, Tryd.ntmps17
      go_wp2_with fail
      go_wp2_with fail
      refine (AT).mono ?_
      rintro e w1 ⟨rfl, rfl⟩
      go_wp2_with fail
      refine CL.mono ?_
      rintro e w2 ⟨v, rfl, h2, hrow⟩
      clear CL AT
      go_wp2
      go_ret2
      exact ⟨_, rfl, h2, hrow⟩
    · have q0 := bk_cell hob.own 0 _ rfl
      have hd := decide_eq_false hk
      simp only [Option.bind_some, if_neg hk, Option.isSome_none, Option.getD_none]
      have hfin := World.ownsRow_nil w w.heap.size 33 4
      clear h hx hp hxx hat hob hiv hok
      go_enter Tryd.func17, Tryd.ntmps17
      go_wp2_with fail
      go_wp2_with fail
      refine (AT).mono ?_
      rintro e w1 ⟨rfl, rfl⟩
      go_wp2
      go_ret2
      exact ⟨_, rfl, Pur.refl _, hfin⟩
theorem items_st {w0 w : World} {hh G : Nat} {K : Nat → Prop} {d : Hd} (h : At w0 hh G K w d) (i : Int) :
    Calls Tryd.prog 17 #[.pointer (some ⟨hh, 0, none⟩), .int .i64 i] w fun e w' => ∃ v, e = .returned (.tuple #[v, .bool (d.items i).isSome]) ∧ Pur w w' ∧ w'.ownsRow w.heap.size 33 4 v ((d.items i).getD []).length (((d.items i).getD []).flatMap Va.cells) := by
  obtain ⟨s, h1, h2, h3, h4, h5⟩ := h.ex
  subst h2 h3
  exact items_any s i w h1 h.ok
end Go.Proofs.YtfophnmnehpenaaDoor
namespace Go.Proofs.YtfophnmnehpenaaDoor
open Go Go.RowKit
set_option linter.all false
def Ob.all (x : Ob) : List (List UInt8) := ((List.range x.items.length).map fun n : Nat => keyOf (n : Int)) ++ x.keys
def Hd.keys (d : Hd) (i : Int) : List (List UInt8) := ((d.obj i).map Ob.all).getD []
theorem keys_take (m n : Nat) : keyVs ((List.range (n + 1)).map fun n : Nat => keyOf (n : Int)) = keyVs ((List.range n).map fun n : Nat => keyOf (n : Int)) ++ [.string ⟨(keyOf (n : Int)).toArray⟩] := by
  simp [keyVs, List.range_succ]
theorem keyVs_one (ks : List (List UInt8)) : ∀ u ∈ keyVs ks, u.oneCell' = true := by
  intro u hu
  obtain ⟨k, -, rfl⟩ := List.mem_map.1 hu
  rfl
theorem keyVs_len (ks : List (List UInt8)) : (keyVs ks).length = ks.length := by simp [keyVs]
theorem feeds_own {w w' : World} {B : Nat} {e : TypeId} {v : Value} {n : Nat} {xs : List Value} {a : Option Addr} {m c : Nat} (h : w.ownsRow B e 1 v n xs) (hv : v = .slice a m c) (hp : Pur w w') : m = n ∧ Feeds w' 1 a n xs := by
  rcases h.2 with ⟨rfl, h0⟩ | ⟨g, cap, cur, rfl, hb, hg, _⟩
  · simp only [Value.slice.injEq] at hv
    refine ⟨by omega, h.1, fun hpos => by omega⟩
  · simp only [Value.slice.injEq] at hv
    obtain ⟨rfl, rfl, rfl⟩ := hv
    refine ⟨rfl, h.1, fun hpos => ⟨_, rfl, fun j u hu => ?_⟩⟩
    have hlt := (Array.getElem?_eq_some_iff.1 hg).1
    have := h.cells (g := g) rfl j u hu
    rw [← this]
    exact hp.cell (p := (⟨g, 0, none⟩ : Addr).add j) (by unfold Addr.add; split <;> simp_all)
set_option maxRecDepth 100000 in
set_option maxHeartbeats 4000000 in
theorem keys_any (s : Hs) (i : Int) (w : World) (h : HpAt w s) (hW : HpW w) {G : Nat} (hok : s.d.Ok G) :
    Calls Tryd.prog 18 #[.pointer (some ⟨s.h, 0, none⟩), .int .i64 i] w fun e w' => ∃ v, e = .returned v ∧ Pur w w' ∧ w'.ownsRow w.heap.size 9 1 v (s.d.keys i).length (keyVs (s.d.keys i)) := by
  unfold Hd.keys
  have AT := at_any s i w h
  rcases hx : s.d.obj i with _ | x
  · rw [(at_none h i).2 hx] at AT
    have hfin := World.ownsRow_nil w w.heap.size 9 1
    clear h hx hok
    go_enter Tryd.func18, Tryd.ntmps18
    go_wp2_with fail
    go_wp2_with fail
    refine (AT).mono ?_
    rintro e w1 ⟨rfl, rfl⟩
    go_wp2
    go_ret
    exact ⟨_, rfl, Pur.refl _, hfin⟩
  · obtain ⟨p, hp, hxx, hat, hob⟩ := h.pl hx
    rw [hat] at AT
    obtain ⟨hb1, hb2⟩ := hok.mem (Hd.obj_mem hx).1
    obtain ⟨a, c, hiv⟩ := row_shape hob.items
    obtain ⟨a5, c5, hkv⟩ := row_shape hob.keys
    have Q7 := bk_cell hob.own 7 (.slice a x.items.length c) (by rw [← hiv]; rfl)
    have Q5 : ∀ w', Pur w w' → w'.cell? ⟨p.o, 5, none⟩ = some (.slice a5 x.keys.length c5) := fun w' hp' => bk_cell (bk_pur hob.own hp') 5 _ (by rw [← hkv]; rfl)
    have FE : ∀ w', Pur w w' → Feeds w' 1 a5 x.keys.length (keyVs x.keys) := fun w' hp' => (feeds_own hob.keys hkv hp').2
    obtain ⟨i0, hi0, hzz⟩ := Option.map_eq_some_iff.1 str_info
    simp only [Prod.mk.injEq] at hzz
    obtain ⟨hz0, hz1, hz2⟩ := hzz
    obtain ⟨z0, hz0, hzs⟩ := Option.map_eq_some_iff.1 hz0
    have hall : (((some x).map Ob.all).getD []).length = x.items.length + x.keys.length ∧ keyVs (((some x).map Ob.all).getD []) = keyVs ((List.range x.items.length).map fun n : Nat => keyOf (n : Int)) ++ keyVs x.keys := by
      simp [Ob.all, keyVs]
    rw [hall.1, hall.2]
    clear hall
    have hkv1 := keyVs_one x.keys
    generalize keyVs x.keys = kx at *
    generalize x.items.length = m at *
    generalize x.keys.length = mk at *
    clear h hx hp hxx hat hob hiv hkv hok
    go_enter Tryd.func18, Tryd.ntmps18
    go_wp2_with fail
    go_wp2_with fail
    refine (AT).mono ?_
    rintro e w1 ⟨rfl, rfl⟩
    clear AT
    go_wp2
    go_loopw [6, 18] (fun l k wr => ∃ n : Nat, n ≤ m ∧ k = .int .i64 n ∧ Pur w wr ∧ wr.ownsRow w.heap.size 9 1 l n (keyVs ((List.range n).map fun n : Nat => keyOf (n : Int)))) (fun _ k _ => m + 1 - (intOf k).toNat)
    case atStart => exact ⟨0, by omega, rfl, Pur.refl w, World.ownsRow_nil _ _ _ _⟩
    case round =>
      obtain ⟨n, hn, rfl, hpr, hrow⟩ := hrel
      by_cases hlt : n < m
      · have hltI : (n : Int) < m := by omega
        have KE := key_any (n : Int) wr (hW.pur hpr) (by omega) (by omega)
        have KT := Lib.hid (keys_take m n)
        have hc3 : n + 1 ≤ maxLen := by unfold maxLen; omega
        have hc4 : (n + 1) * 16 ≤ 140737488355328 := by omega
        have hwn : IntKind.i64.wrap ((n : Int) + 1) = n + 1 := IntWalk.i64_in _ (by omega)
        generalize keyOf (n : Int) = kn at *
        have honeK : ∀ u ∈ [Value.string ⟨kn.toArray⟩], u.oneCell' = true := by intro u hu; obtain rfl := List.mem_singleton.1 hu; rfl
        clear Q5 FE Q7
        go_wp2_with fail
        refine KE.mono ?_
        rintro e w2 ⟨rfl, h2⟩
        have hp2 := hpr.trans h2
        have R2 := (World.ownsRow_same hrow (fun g hg => h2.block g (hrow.lt g hg).2)).alloc (.cells #[.string ⟨kn.toArray⟩] 9)
        have hbs := ((hp2.alloc (.cells #[.string ⟨kn.toArray⟩] 9))).size
        clear KE hrow
        go_wp2_with (at_builtin; refine wpList_append_own_at _ rfl _ _ 41 rfl w.heap.size 9 i0 z0 1 16 Tryd.underlying41 hi0 hz0 hz1 hz2 hzs (by decide) _ _ _ rfl R2 ⟨_, 0, none⟩ 1 1 [.string ⟨kn.toArray⟩] rfl rfl ?c1 ?c2 ?c3 ?c4 ?c5 ?_)
        case c1 =>
          intro j u hj
          have e := cell_one_new w2 (.string ⟨kn.toArray⟩) 9 j u hj
          simpa using e
        case c2 => exact honeK
        case c3 => exact hc3
        case c4 => exact hc4
        case c5 => exact hbs
        intro v5 w5 hown5 hgrow _ _
        have hp5 : Pur w w5 := Below.grown (hp2.alloc (.cells #[.string ⟨kn.toArray⟩] 9)) hgrow hbs (fun k hk => (R2.lt k hk).1)
        have hown6 : w5.ownsRow w.heap.size 9 1 v5 (n + 1) (keyVs ((List.range (n + 1)).map fun n : Nat => keyOf (n : Int))) := by rw [KT.out]; exact hown5
        clear hown5 hgrow R2 KT hp2 h2 hpr
        go_wp2
        go_roundw
        case rel => exact ⟨n + 1, by omega, by go_num, hp5, hown6⟩
        case measure => simp [intOf]; omega
      · obtain rfl : n = m := by omega
        have q5 := Q5 _ hpr
        have hfe := Lib.hid (FE _ hpr)
        have hc3 : n + mk ≤ maxLen := by unfold maxLen; omega
        have hc4 : (n + mk) * 16 ≤ 140737488355328 := by omega
        have hbs := hpr.size
        clear Q5 FE Q7
        go_wp2_with (at_builtin; refine wpList_append_feeds rfl _ _ 41 rfl w.heap.size 9 i0 z0 1 16 Tryd.underlying41 hi0 hz0 hz1 hz2 hzs (by decide) _ _ _ rfl hrow _ _ _ kx rfl hfe.out hkv1 hc3 hc4 hbs ?_)
        intro v5 w5 hown5 hgrow
        have hp5 : Pur w w5 := Below.grown hpr hgrow hbs (fun k hk => (hrow.lt k hk).1)
        clear hgrow hrow
        go_wp2
        go_ret
        exact ⟨_, rfl, hp5, hown5⟩
theorem keys_st {w0 w : World} {hh G : Nat} {K : Nat → Prop} {d : Hd} (h : At w0 hh G K w d) (hW : HpW w) (i : Int) :
    Calls Tryd.prog 18 #[.pointer (some ⟨hh, 0, none⟩), .int .i64 i] w fun e w' => ∃ v, e = .returned v ∧ Pur w w' ∧ w'.ownsRow w.heap.size 9 1 v (d.keys i).length (keyVs (d.keys i)) := by
  obtain ⟨s, h1, h2, h3, h4, h5⟩ := h.ex
  subst h2 h3
  exact keys_any s i w h1 hW h.ok
end Go.Proofs.YtfophnmnehpenaaDoor
