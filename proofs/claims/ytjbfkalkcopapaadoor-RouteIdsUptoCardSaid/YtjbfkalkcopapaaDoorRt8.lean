/- A target of the web: the layer's url. -/
import Derived.Test.YtjbfkalkcopapaaDoorRt7
import Derived.Test.YtjbfkalkcopapaaDoorRt4
import Derived.Test.YtjbfkalkcopapaaDoorRtIx
import Derived.RegionTactic
import Derived.Deep.DeepCutAuto
namespace Go.Proofs.YtjbfkalkcopapaaDoor
open Go Go.RowKit
set_option linter.all false
def hmarks : Bytes := [45, 46]
theorem let_host (b : Nat) (hb : b < 256) : letB hmarks b = hostB b := by
  have H : ∀ b : Fin 256, letB hmarks b.val = hostB b.val := by decide +kernel
  exact H ⟨b, hb⟩
theorem okLet_host (s : Bytes) : okLet hmarks s = okHost s := by
  unfold okLet okHost
  congr 2
  induction s with
  | nil => rfl
  | cons c r ih => rw [List.all_cons, List.all_cons, ih, let_host _ (UInt8.toNat_lt c)]
/-- the two blocks of the call's own: the result's (still zero) and the address under way -/
structure Own2 (w wx : World) (c0 c1 c2 c3 c4 : Value) : Prop where
  pur : Pur w wx
  res : wx.heap[w.heap.size]? = some (.cells #[.int .i64 0, .string ⟨#[]⟩, .string ⟨#[]⟩, .int .i64 0, .string ⟨#[]⟩] 24 (0, 0))
  adr : wx.heap[w.heap.size + 1]? = some (.cells #[c0, c1, c2, c3, c4] 24 (0, 0))
theorem Own2.more {w wx wy : World} {c0 c1 c2 c3 c4 : Value} (h : Own2 w wx c0 c1 c2 c3 c4) (hp : Pur wx wy) : Own2 w wy c0 c1 c2 c3 c4 :=
  ⟨h.pur.trans hp, (hp.block _ (Array.getElem?_eq_some_iff.1 h.res).1).trans h.res, (hp.block _ (Array.getElem?_eq_some_iff.1 h.adr).1).trans h.adr⟩
theorem Own2.set2 {w wx : World} {c0 c1 c2 c3 c4 : Value} (h : Own2 w wx c0 c1 c2 c3 c4) (v : Value) : Own2 w (wx.setCell ⟨w.heap.size + 1, 2, none⟩ v) c0 c1 v c3 c4 :=
  ⟨h.pur.setCell (by simp) _, by simp [World.setCell, Array.getElem?_modify, h.res], by simp [World.setCell, Array.getElem?_modify, h.adr]⟩
theorem Own2.set3 {w wx : World} {c0 c1 c2 c3 c4 : Value} (h : Own2 w wx c0 c1 c2 c3 c4) (v : Value) : Own2 w (wx.setCell ⟨w.heap.size + 1, 3, none⟩ v) c0 c1 c2 v c4 :=
  ⟨h.pur.setCell (by simp) _, by simp [World.setCell, Array.getElem?_modify, h.res], by simp [World.setCell, Array.getElem?_modify, h.adr]⟩
theorem Own2.start (w : World) (v : Value) : Own2 w ((w.alloc (.cells #[.int .i64 0, .string ⟨#[]⟩, .string ⟨#[]⟩, .int .i64 0, .string ⟨#[]⟩] 24)).alloc (.cells #[.int .i64 6, .string ⟨#[]⟩, .string ⟨#[]⟩, .int .i64 80, v] 24)) (.int .i64 6) (.string ⟨#[]⟩) (.string ⟨#[]⟩) (.int .i64 80) v := by
  refine ⟨((Pur.refl w).alloc _).alloc _, ?_, ?_⟩
  · show ((w.heap.push _).push _)[w.heap.size]? = _
    rw [Array.getElem?_push, if_neg (by rw [Array.size_push]; omega), Array.getElem?_push_size]
  · show ((w.heap.push _).push _)[w.heap.size + 1]? = _
    rw [Array.getElem?_push, if_pos (by rw [Array.size_push])]
theorem RW.own {w wx : World} {c0 c1 c2 c3 c4 : Value} (hW : RW w) (h : Own2 w wx c0 c1 c2 c3 c4) : RW wx := hW.pur h.pur
set_option maxRecDepth 100000 in
set_option maxHeartbeats 4000000 in
/-- no port: the host and the path decide -/
theorem url_bare (t s : Bytes) (w : World) (hW : RW w) (hs : t.length ≤ 256) (hsl : s.length ≤ 256) (hpr : (hp s).dropWhile (· != 58) = [])
   (C1 : ∀ w, Calls Tryd.prog 24 #[.string ⟨t.toArray⟩, .string ⟨#[104, 116, 116, 112, 58, 47, 47]⟩] w fun e w' => e = .returned (.tuple #[.string ⟨s.toArray⟩, .bool true]) ∧ w = w') :
    Calls Tryd.prog 18 #[.string ⟨t.toArray⟩] w fun e w' => e = .returned (.tuple #[adrV (said190 (if okHost (hostOf (hp s)) = true ∧ okPath (pathOf s) = true then some ⟨6, [], hostOf (hp s), 80, pathOf s⟩ else none)).1, .int .i64 (said190 (if okHost (hostOf (hp s)) = true ∧ okPath (pathOf s) = true then some ⟨6, [], hostOf (hp s), 80, pathOf s⟩ else none)).2]) ∧ Pur w w' := by
  have d1 : decide ((256 : Int) < t.length) = false := decide_eq_false (by omega)
  have X := fun w => ixb_any s 47 w
  have hpl : (hp s).length ≤ 256 := by have := tw_len 47 s; unfold hp; omega
  have C2 := fun w hW => cut58_any (hp s) w hW (by omega)
  rw [hpr] at C2
  have L := fun w => letters_any (hostOf (hp s)) hmarks w (by have := tw_len 58 (hp s); unfold hostOf; omega)
  rw [okLet_host] at L
  have pl : (pathOf s).length ≤ 256 := by
    have := tw_len 47 s
    unfold pathOf
    split
    · simp
    · omega
  have Pa := fun w => path_any (pathOf s) w (by omega)
  clear hpr
  rcases ix47 s with ⟨h1, h2, h3⟩ | ⟨k, h1, hk, h2, h3⟩
  · rw [show ixB s 47 = -1 from h1] at X
    generalize okHost (hostOf (hp s)) = bh at *
    generalize okPath (pathOf s) = bp at *
    generalize hostOf (hp s) = ho at *
    rw [h2] at C2
    rw [h3] at Pa
    rw [h3]
    clear h1 h2 h3 pl
    rcases bh with _ | _
    · rw [if_neg (by simp)]
      go_enter Tryd.func18, Tryd.ntmps18
      go_wp2_with fail
      refine (C1 _).mono ?_
      rintro e w' ⟨rfl, rfl⟩
      go_wp2_with fail
      refine (X _).mono ?_
      rintro e w' ⟨rfl, rfl⟩
      go_wp2_with fail
      have HO0 := Own2.start w (.string ⟨#[47]⟩)
      refine (C2 _ (hW.own HO0)).mono ?_
      rintro e w1 ⟨rfl, hp1⟩
      have HO := HO0.more hp1
      obtain ⟨c0, c1, c2, c3, c4, f0, f1, f2, f3, f4⟩ := blk_facts HO.res
      obtain ⟨g0, g1, g2, g3, g4, k0, k1, k2, k3, k4⟩ := blk_facts HO.adr
      have hz := HO.pur.size
      have HH := Lib.hid HO
      clear HO HO0 hp1 C1 C2 X hpl hs hsl hW
      go_wp2_with fail
      refine (L _).mono ?_
      rintro e w' ⟨rfl, rfl⟩
      go_wp2
      refine bodyPost_ret (v := .tuple #[adrV Adr.zero, .int .i64 190]) (by simp [results, Tryd.results18, go_sem, adrV, Adr.zero, c0, c1, c2, c3, c4, f0, f1, f2, f3, f4]) rfl ⟨rfl, ?_⟩
      have hpu := HH.out.pur
      repeat (first | with_reducible exact hpu | refine Pur.setCell ?_ (by simp) _)
    · rcases bp with _ | _
      · rw [if_neg (by simp)]
        go_enter Tryd.func18, Tryd.ntmps18
        go_wp2_with fail
        refine (C1 _).mono ?_
        rintro e w' ⟨rfl, rfl⟩
        go_wp2_with fail
        refine (X _).mono ?_
        rintro e w' ⟨rfl, rfl⟩
        go_wp2_with fail
        have HO0 := Own2.start w (.string ⟨#[47]⟩)
        refine (C2 _ (hW.own HO0)).mono ?_
        rintro e w1 ⟨rfl, hp1⟩
        have HO := HO0.more hp1
        obtain ⟨c0, c1, c2, c3, c4, f0, f1, f2, f3, f4⟩ := blk_facts HO.res
        obtain ⟨g0, g1, g2, g3, g4, k0, k1, k2, k3, k4⟩ := blk_facts HO.adr
        have hz := HO.pur.size
        have HH := Lib.hid HO
        clear HO HO0 hp1 C1 C2 X hpl hs hsl hW
        go_wp2_with fail
        refine (L _).mono ?_
        rintro e w' ⟨rfl, rfl⟩
        go_wp2_with fail
        refine (Pa _).mono ?_
        rintro e w' ⟨rfl, rfl⟩
        go_wp2
        refine bodyPost_ret (v := .tuple #[adrV Adr.zero, .int .i64 190]) (by simp [results, Tryd.results18, go_sem, adrV, Adr.zero, c0, c1, c2, c3, c4, f0, f1, f2, f3, f4]) rfl ⟨rfl, ?_⟩
        have hpu := HH.out.pur
        repeat (first | with_reducible exact hpu | refine Pur.setCell ?_ (by simp) _)
      · rw [if_pos ⟨rfl, rfl⟩]
        go_enter Tryd.func18, Tryd.ntmps18
        go_wp2_with fail
        refine (C1 _).mono ?_
        rintro e w' ⟨rfl, rfl⟩
        go_wp2_with fail
        refine (X _).mono ?_
        rintro e w' ⟨rfl, rfl⟩
        go_wp2_with fail
        have HO0 := Own2.start w (.string ⟨#[47]⟩)
        refine (C2 _ (hW.own HO0)).mono ?_
        rintro e w1 ⟨rfl, hp1⟩
        have HO := HO0.more hp1
        obtain ⟨c0, c1, c2, c3, c4, f0, f1, f2, f3, f4⟩ := blk_facts HO.res
        obtain ⟨g0, g1, g2, g3, g4, k0, k1, k2, k3, k4⟩ := blk_facts HO.adr
        have hz := HO.pur.size
        have HH := Lib.hid HO
        clear HO HO0 hp1 C1 C2 X hpl hs hsl hW
        go_wp2_with fail
        refine (L _).mono ?_
        rintro e w' ⟨rfl, rfl⟩
        go_wp2_with fail
        refine (Pa _).mono ?_
        rintro e w' ⟨rfl, rfl⟩
        go_wp2
        refine bodyPost_ret (v := .tuple #[adrV ⟨6, [], ho, 80, _⟩, .int .i64 0]) (by simp [results, Tryd.results18, go_sem, adrV, Adr.zero, c0, c1, c2, c3, c4, f0, f1, f2, f3, f4]) rfl ⟨rfl, ?_⟩
        have hpu := HH.out.pur
        repeat (first | with_reducible exact hpu | refine Pur.setCell ?_ (by simp) _)
  · rw [show ixB s 47 = k from h1] at X
    generalize okHost (hostOf (hp s)) = bh at *
    generalize okPath (pathOf s) = bp at *
    generalize hostOf (hp s) = ho at *
    rw [h2] at C2
    rw [h3] at Pa
    rw [h3]
    have kk0 : (0 : Int) ≤ k := by omega
    have kk1 : (k : Int) ≤ s.length := by omega
    clear h1 h2 h3 pl
    rcases bh with _ | _
    · rw [if_neg (by simp)]
      go_enter Tryd.func18, Tryd.ntmps18
      go_wp2_with fail
      refine (C1 _).mono ?_
      rintro e w' ⟨rfl, rfl⟩
      go_wp2_with fail
      refine (X _).mono ?_
      rintro e w' ⟨rfl, rfl⟩
      go_wp2
      go_region
      go_wp2_with fail
      have HO0 := (Own2.start w (.string ⟨(sub s k s.length).toArray⟩)).more (Pur.refl _).drew
      refine (C2 _ (hW.own HO0)).mono ?_
      rintro e w1 ⟨rfl, hp1⟩
      have HO := HO0.more hp1
      obtain ⟨c0, c1, c2, c3, c4, f0, f1, f2, f3, f4⟩ := blk_facts HO.res
      obtain ⟨g0, g1, g2, g3, g4, k0, k1, k2, k3, k4⟩ := blk_facts HO.adr
      have hz := HO.pur.size
      have HH := Lib.hid HO
      clear HO HO0 hp1 C1 C2 X hpl hs hsl hW
      go_wp2_with fail
      refine (L _).mono ?_
      rintro e w' ⟨rfl, rfl⟩
      go_wp2
      refine bodyPost_ret (v := .tuple #[adrV Adr.zero, .int .i64 190]) (by simp [results, Tryd.results18, go_sem, adrV, Adr.zero, c0, c1, c2, c3, c4, f0, f1, f2, f3, f4]) rfl ⟨rfl, ?_⟩
      have hpu := HH.out.pur
      repeat (first | with_reducible exact hpu | refine Pur.setCell ?_ (by simp) _)
    · rcases bp with _ | _
      · rw [if_neg (by simp)]
        go_enter Tryd.func18, Tryd.ntmps18
        go_wp2_with fail
        refine (C1 _).mono ?_
        rintro e w' ⟨rfl, rfl⟩
        go_wp2_with fail
        refine (X _).mono ?_
        rintro e w' ⟨rfl, rfl⟩
        go_wp2
        go_region
        go_wp2_with fail
        have HO0 := (Own2.start w (.string ⟨(sub s k s.length).toArray⟩)).more (Pur.refl _).drew
        refine (C2 _ (hW.own HO0)).mono ?_
        rintro e w1 ⟨rfl, hp1⟩
        have HO := HO0.more hp1
        obtain ⟨c0, c1, c2, c3, c4, f0, f1, f2, f3, f4⟩ := blk_facts HO.res
        obtain ⟨g0, g1, g2, g3, g4, k0, k1, k2, k3, k4⟩ := blk_facts HO.adr
        have hz := HO.pur.size
        have HH := Lib.hid HO
        clear HO HO0 hp1 C1 C2 X hpl hs hsl hW
        go_wp2_with fail
        refine (L _).mono ?_
        rintro e w' ⟨rfl, rfl⟩
        go_wp2_with fail
        refine (Pa _).mono ?_
        rintro e w' ⟨rfl, rfl⟩
        go_wp2
        refine bodyPost_ret (v := .tuple #[adrV Adr.zero, .int .i64 190]) (by simp [results, Tryd.results18, go_sem, adrV, Adr.zero, c0, c1, c2, c3, c4, f0, f1, f2, f3, f4]) rfl ⟨rfl, ?_⟩
        have hpu := HH.out.pur
        repeat (first | with_reducible exact hpu | refine Pur.setCell ?_ (by simp) _)
      · rw [if_pos ⟨rfl, rfl⟩]
        go_enter Tryd.func18, Tryd.ntmps18
        go_wp2_with fail
        refine (C1 _).mono ?_
        rintro e w' ⟨rfl, rfl⟩
        go_wp2_with fail
        refine (X _).mono ?_
        rintro e w' ⟨rfl, rfl⟩
        go_wp2
        go_region
        go_wp2_with fail
        have HO0 := (Own2.start w (.string ⟨(sub s k s.length).toArray⟩)).more (Pur.refl _).drew
        refine (C2 _ (hW.own HO0)).mono ?_
        rintro e w1 ⟨rfl, hp1⟩
        have HO := HO0.more hp1
        obtain ⟨c0, c1, c2, c3, c4, f0, f1, f2, f3, f4⟩ := blk_facts HO.res
        obtain ⟨g0, g1, g2, g3, g4, k0, k1, k2, k3, k4⟩ := blk_facts HO.adr
        have hz := HO.pur.size
        have HH := Lib.hid HO
        clear HO HO0 hp1 C1 C2 X hpl hs hsl hW
        go_wp2_with fail
        refine (L _).mono ?_
        rintro e w' ⟨rfl, rfl⟩
        go_wp2_with fail
        refine (Pa _).mono ?_
        rintro e w' ⟨rfl, rfl⟩
        go_wp2
        refine bodyPost_ret (v := .tuple #[adrV ⟨6, [], ho, 80, _⟩, .int .i64 0]) (by simp [results, Tryd.results18, go_sem, adrV, Adr.zero, c0, c1, c2, c3, c4, f0, f1, f2, f3, f4]) rfl ⟨rfl, ?_⟩
        have hpu := HH.out.pur
        repeat (first | with_reducible exact hpu | refine Pur.setCell ?_ (by simp) _)
end Go.Proofs.YtjbfkalkcopapaaDoor
