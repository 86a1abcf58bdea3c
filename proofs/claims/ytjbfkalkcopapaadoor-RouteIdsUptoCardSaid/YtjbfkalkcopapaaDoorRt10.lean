/- A target of the web with a port that is a number: the layer's url; and the layer's url at any text. -/
import Derived.Test.YtjbfkalkcopapaaDoorRt9
namespace Go.Proofs.YtjbfkalkcopapaaDoor
open Go Go.RowKit
set_option linter.all false
def portRes (b1 b2 b3 bh bp : Bool) (v : Int) (ho pa : Bytes) : Adr × Int := if b1 && !b2 && !b3 && bh && bp then (⟨6, [], ho, v, pa⟩, 0) else (Adr.zero, 190)
set_option maxRecDepth 100000 in
set_option maxHeartbeats 16000000 in
/-- a port that is a number -/
theorem url_port (t s q : Bytes) (v : Int) (b1 b2 b3 bh bp : Bool) (w : World) (hW : RW w) (hs : t.length ≤ 256) (hsl : s.length ≤ 256) (hq : ((hp s).dropWhile (· != 58)).drop 1 = q) (hpr : (hp s).dropWhile (· != 58) ≠ []) (hok : Lib.atoiAll q = .ok v) (hv0 : -9223372036854775808 ≤ v) (hv1 : v ≤ 9223372036854775807)
   (t1 : (Lib.itoa v == q) = b1) (t2 : decide (v < 1) = b2) (t3 : decide (65535 < v) = b3) (hbh : okHost (hostOf (hp s)) = bh) (hbp : okPath (pathOf s) = bp)
   (C1 : ∀ w, Calls Tryd.prog 24 #[.string ⟨t.toArray⟩, .string ⟨#[104, 116, 116, 112, 58, 47, 47]⟩] w fun e w' => e = .returned (.tuple #[.string ⟨s.toArray⟩, .bool true]) ∧ w = w') :
    Calls Tryd.prog 18 #[.string ⟨t.toArray⟩] w fun e w' => e = .returned (.tuple #[adrV (portRes b1 b2 b3 bh bp v (hostOf (hp s)) (pathOf s)).1, .int .i64 (portRes b1 b2 b3 bh bp v (hostOf (hp s)) (pathOf s)).2]) ∧ Pur w w' := by
  have d1 : decide ((256 : Int) < t.length) = false := decide_eq_false (by omega)
  have t4 : (Lib.itoa v != q) = !b1 := by rw [← t1]; rfl
  have X := fun w => ixb_any s 47 w
  have hpl : (hp s).length ≤ 256 := by have := tw_len 47 s; unfold hp; omega
  have hql : q.length ≤ 256 := by
    have := tw_len 58 (hp s)
    rw [← hq, List.length_drop]
    omega
  have C2 := fun w hW => cut58_any (hp s) w hW (by omega)
  rw [hq, decide_eq_true hpr] at C2
  have At := fun w hW => atoi_any q w hW (by omega)
  have It := fun w hW => itoa_any v w hW hv0 hv1
  have L := fun w => letters_any (hostOf (hp s)) hmarks w (by have := tw_len 58 (hp s); unfold hostOf; omega)
  rw [okLet_host, hbh] at L
  have pl : (pathOf s).length ≤ 256 := by
    have := tw_len 47 s
    unfold pathOf
    split
    · simp
    · omega
  have Pa := fun w => path_any (pathOf s) w (by omega)
  rw [hbp] at Pa
  have HOK : ∀ n, Lib.atoiAll q = .ok n → n = v := fun n h => by rw [hok] at h; injection h with h; exact h.symm
  have HNO : (∀ n, Lib.atoiAll q ≠ .ok n) → False := fun h => h v hok
  clear hpr hq hok hbh hbp
  rcases ix47 s with ⟨h1, h2, h3⟩ | ⟨k, h1, hk, h2, h3⟩
  focus
    rw [show ixB s 47 = -1 from h1] at X
    generalize hostOf (hp s) = ho at *
    rw [h2] at C2
    rw [h3] at Pa
    rw [h3]
    clear h1 h2 h3 pl
    go_enter Tryd.func18, Tryd.ntmps18
    go_wp2_with fail
    refine (C1 _).mono ?_
    rintro e w' ⟨rfl, rfl⟩
    go_wp2_with fail
    refine (X _).mono ?_
    rintro e w' ⟨rfl, rfl⟩
    go_wp2_with fail
    have HO0 := Own2.start w (.string ⟨#[47]⟩)
  rotate_left
  focus
    rw [show ixB s 47 = k from h1] at X
    generalize hostOf (hp s) = ho at *
    rw [h2] at C2
    rw [h3] at Pa
    rw [h3]
    have kk0 : (0 : Int) ≤ k := by omega
    have kk1 : (k : Int) ≤ s.length := by omega
    clear h1 h2 h3 pl
    go_enter Tryd.func18, Tryd.ntmps18
    go_wp2_with fail
    refine (C1 _).mono ?_
    rintro e w' ⟨rfl, rfl⟩
    go_wp2_with fail
    refine (X _).mono ?_
    rintro e w' ⟨rfl, rfl⟩
    go_wp2
    go_region
    go_wp2_with fail
    have HO0 := (Own2.start w (.string ⟨(sub s k s.length).toArray⟩)).more (Pur.refl _).drew
  all_goals
    refine (C2 _ (hW.own HO0)).mono ?_
    rintro e w1 ⟨rfl, hp1⟩
    have HO := HO0.more hp1
    obtain ⟨g0, g1, g2, g3, g4, k0, k1, k2, k3, k4⟩ := blk_facts HO.adr
    have hz := HO.pur.size
    go_wp2_with fail
    refine (At _ (hW.own (HO.set2 _))).mono ?_
    rintro e w2 (⟨v', hv, rfl, hp2⟩ | ⟨v', N, hno, rfl, hp2⟩)
    rotate_left
    · exact (HNO hno).elim
    obtain rfl := HOK _ hv
    have HO2 := (HO.set2 _).more hp2
    clear HO HO0 hp1 hp2 C1 C2 X hpl hs hsl g0 g1 g2 g3 g4 k0 k1 k2 k3 k4 hz At hv HOK HNO
    go_wp2_with fail
    refine (It _ (hW.own HO2)).mono ?_
    rintro e w3 ⟨rfl, hp3⟩
    have HO := HO2.more hp3
    obtain ⟨c0, c1, c2, c3, c4, f0, f1, f2, f3, f4⟩ := blk_facts HO.res
    obtain ⟨g0, g1, g2, g3, g4, k0, k1, k2, k3, k4⟩ := blk_facts HO.adr
    have hz := HO.pur.size
    have HH := Lib.hid HO
    clear HO HO2 hp3 hW It
    rcases b1 with _ | _ <;> rcases b2 with _ | _ <;> rcases b3 with _ | _ <;> rcases bh with _ | _ <;> rcases bp with _ | _
    all_goals
      go_wp2_with (first | (go_at_call 29; refine (L _).mono ?_; rintro e w' ⟨rfl, rfl⟩) | (go_at_call 30; refine (Pa _).mono ?_; rintro e w' ⟨rfl, rfl⟩))
      first
      | refine bodyPost_ret (v := .tuple #[adrV Adr.zero, .int .i64 190]) (by simp [results, Tryd.results18, go_sem, adrV, Adr.zero, c0, c1, c2, c3, c4, f0, f1, f2, f3, f4]) rfl ⟨rfl, ?_⟩
      | refine bodyPost_ret (v := .tuple #[adrV ⟨6, [], ho, v', _⟩, .int .i64 0]) (by simp [results, Tryd.results18, go_sem, adrV, Adr.zero, c0, c1, c2, c3, c4, f0, f1, f2, f3, f4]) rfl ⟨rfl, ?_⟩
      have hpu := HH.out.pur
      repeat (first | with_reducible exact hpu | refine Pur.setCell ?_ (by simp) _)
end Go.Proofs.YtjbfkalkcopapaaDoor
