/- A target of the web with a port that is none: the layer's url. -/
import Derived.Test.YtjbfkalkcopapaaDoorRt8
namespace Go.Proofs.YtjbfkalkcopapaaDoor
open Go Go.RowKit
set_option linter.all false
set_option maxRecDepth 100000 in
set_option maxHeartbeats 4000000 in
/-- a port that is no number -/
theorem url_noport (t s q : Bytes) (w : World) (hW : RW w) (hs : t.length ≤ 256) (hsl : s.length ≤ 256) (hq : ((hp s).dropWhile (· != 58)).drop 1 = q) (hpr : (hp s).dropWhile (· != 58) ≠ []) (hno : ∀ n, Lib.atoiAll q ≠ .ok n)
   (C1 : ∀ w, Calls Tryd.prog 24 #[.string ⟨t.toArray⟩, .string ⟨#[104, 116, 116, 112, 58, 47, 47]⟩] w fun e w' => e = .returned (.tuple #[.string ⟨s.toArray⟩, .bool true]) ∧ w = w') :
    Calls Tryd.prog 18 #[.string ⟨t.toArray⟩] w fun e w' => e = .returned (.tuple #[adrV Adr.zero, .int .i64 190]) ∧ Pur w w' := by
  have d1 : decide ((256 : Int) < t.length) = false := decide_eq_false (by omega)
  have X := fun w => ixb_any s 47 w
  have hpl : (hp s).length ≤ 256 := by have := tw_len 47 s; unfold hp; omega
  have hql : q.length ≤ 256 := by
    have := tw_len 58 (hp s)
    rw [← hq, List.length_drop]
    omega
  have C2 := fun w hW => cut58_any (hp s) w hW (by omega)
  rw [hq, decide_eq_true hpr] at C2
  have At := fun w hW => atoi_any q w hW (by omega)
  rcases ix47 s with ⟨h1, h2, h3⟩ | ⟨k, h1, hk, h2, h3⟩
  · rw [show ixB s 47 = -1 from h1] at X
    generalize hostOf (hp s) = ho at *
    rw [h2] at C2
    clear h1 h2 h3 hpr hq
    go_enter Tryd.func18, Tryd.ntmps18
    go_wp2_with fail
    refine (C1 _).mono ?_
    rintro e w' ⟨rfl, rfl⟩
    go_wp2_with fail
    refine (X _).mono ?_
    rintro e w' ⟨rfl, rfl⟩
    go_wp2_with fail
    have HO0 := Own2.start w (.string ⟨#[47]⟩)
    refine (C2 _ (hW.own HO0)).mono ?_
    rintro e w1 ⟨rfl, hp1⟩
    have HO := HO0.more hp1
    obtain ⟨g0, g1, g2, g3, g4, k0, k1, k2, k3, k4⟩ := blk_facts HO.adr
    have hz := HO.pur.size
    go_wp2_with fail
    refine (At _ (hW.own (HO.set2 _))).mono ?_
    rintro e w2 (⟨v, hv, rfl, hp2⟩ | ⟨v, N, _, rfl, hp2⟩)
    · exact absurd hv (hno v)
    · have HO2 := (HO.set2 _).more hp2
      obtain ⟨c0, c1, c2, c3, c4, f0, f1, f2, f3, f4⟩ := blk_facts HO2.res
      have hz2 := HO2.pur.size
      have HH := Lib.hid HO2
      clear HO HO0 HO2 hp1 hp2 C1 C2 X hpl hs hsl hW g0 g1 g2 g3 g4 k0 k1 k2 k3 k4
      go_wp2
      refine bodyPost_ret (v := .tuple #[adrV Adr.zero, .int .i64 190]) (by simp [results, Tryd.results18, go_sem, adrV, Adr.zero, c0, c1, c2, c3, c4, f0, f1, f2, f3, f4]) rfl ⟨rfl, ?_⟩
      have hpu := HH.out.pur
      repeat (first | with_reducible exact hpu | refine Pur.setCell ?_ (by simp) _)
  · rw [show ixB s 47 = k from h1] at X
    generalize hostOf (hp s) = ho at *
    rw [h2] at C2
    have kk0 : (0 : Int) ≤ k := by omega
    have kk1 : (k : Int) ≤ s.length := by omega
    clear h1 h2 h3 hpr hq
    go_enter Tryd.func18, Tryd.ntmps18
    go_wp2_with fail
    refine (C1 _).mono ?_
    rintro e w' ⟨rfl, rfl⟩
    go_wp2_with fail
    refine (X _).mono ?_
    rintro e w' ⟨rfl, rfl⟩
    go_wp2
    go_region
    go_wp2_with fail
    have HO0 := (Own2.start w (.string ⟨(sub s k s.length).toArray⟩)).more (Pur.refl _).drew
    refine (C2 _ (hW.own HO0)).mono ?_
    rintro e w1 ⟨rfl, hp1⟩
    have HO := HO0.more hp1
    obtain ⟨g0, g1, g2, g3, g4, k0, k1, k2, k3, k4⟩ := blk_facts HO.adr
    have hz := HO.pur.size
    go_wp2_with fail
    refine (At _ (hW.own (HO.set2 _))).mono ?_
    rintro e w2 (⟨v, hv, rfl, hp2⟩ | ⟨v, N, _, rfl, hp2⟩)
    · exact absurd hv (hno v)
    · have HO2 := (HO.set2 _).more hp2
      obtain ⟨c0, c1, c2, c3, c4, f0, f1, f2, f3, f4⟩ := blk_facts HO2.res
      have hz2 := HO2.pur.size
      have HH := Lib.hid HO2
      clear HO HO0 HO2 hp1 hp2 C1 C2 X hpl hs hsl hW g0 g1 g2 g3 g4 k0 k1 k2 k3 k4
      go_wp2
      refine bodyPost_ret (v := .tuple #[adrV Adr.zero, .int .i64 190]) (by simp [results, Tryd.results18, go_sem, adrV, Adr.zero, c0, c1, c2, c3, c4, f0, f1, f2, f3, f4]) rfl ⟨rfl, ?_⟩
      have hpu := HH.out.pur
      repeat (first | with_reducible exact hpu | refine Pur.setCell ?_ (by simp) _)
end Go.Proofs.YtjbfkalkcopapaaDoor
