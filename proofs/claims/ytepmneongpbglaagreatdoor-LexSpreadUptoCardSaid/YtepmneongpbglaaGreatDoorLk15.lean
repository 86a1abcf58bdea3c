/- Layer 5: the first question of each law. -/
import Derived.Test.YtepmneongpbglaaGreatDoorLk14
import Derived.Test.YtepmneongpbglaaGreatDoorNm2
import Derived.Test.YtepmneongpbglaaGreatDoorLk16
namespace Go.Proofs.YtepmneongpbglaaGreatDoor
open Go Go.RowKit
set_option linter.all false
namespace Lx
def C1F (t : List UInt8) : Bool := t == n1F
def N1F (_ : List UInt8) (x : Nat) : Prop := x = 4629418941960159232
theorem nc_1F {w : World} (hF : Rf.F64 w) : NC w N1F C1F := by
  intro t ht w' hw
  obtain rfl : t = n1F := by simpa [C1F] using ht
  refine (Nm.number_hex (l := w16 n1F) (s := n1F) (x := 4629418941960159232) (by decide) (by decide) (by decide) (fun w'' hp => ?_)).mono ?_
  · have := Rf.parse_hex Rf.rf_1F (hF.pur (hw.trans hp)) Rf.small_1F (by decide) (by decide) (by decide)
    rw [Rf.bits_1F] at this
    exact this
  · rintro e w'' ⟨rfl, hp⟩
    exact ⟨⟨_, rfl, rfl⟩, hp⟩
theorem feq : FloatKind.f64.format.order 4629418941960159232 4629418941960159232 = some Ordering.eq := by decide +kernel
set_option maxRecDepth 100000 in
set_option maxHeartbeats 16000000 in
theorem awake_any (w : World) (hW : LW w) (hF : Rf.F64 w) : Calls Tryz.prog 8 #[] w fun e w' => e = .returned (.bool true) ∧ Pur w w' := by
  have XA := lex_any tA w hW (nc_1F hF) (by decide) (by rw [lex_a C1F (by decide)]; exact fun h => by cases h)
  rw [lex_a C1F (by decide)] at XA
  have XB := fun w1 (h : Pur w w1) => lex_any tB w1 (hW.pur h) ((nc_1F hF).pur h) (by decide) (by rw [lex_b C1F]; exact fun h => by cases h)
  simp only [lex_b C1F] at XB
  unfold LexPost at XA XB
  simp only at XA XB
  have WI := fun w' (h : Pur w w') => word_any [105, 102] w' (hW.pur h) (by decide)
  have NI := fun w' (h : Pur w w') => name_any [105, 102] w' (hW.pur h) (by decide)
  rw [show word [105, 102] = true from word_if] at WI
  rw [show nameB [105, 102] = false by decide +kernel] at NI
  have FE : ∀ w : World, (binOp .eql 29 (.float .f64 4629418941960159232) (.float .f64 4629418941960159232)).run Tryz.prog w = .ok (.bool true) w := by
    intro w; rw [binOp_float_cmp_eql, feq]; rfl
  go_enter Tryz.func8, Tryz.ntmps8
  go_wp2_with fail
  refine XA.mono ?_
  rintro e w1 ⟨p1, v, zs, hz, hN, rfl, hown⟩
  have hz4 : ∃ y0 y1 y2 y3, zs = [((⟨1, [97, 49], [], 0, false⟩ : Lx), y0), (⟨5, [43, 61], [], 2, false⟩, y1), (⟨3, [], n1F, 4, false⟩, y2), (⟨4, [0, 65], [], 15, true⟩, y3)] := by
    rcases zs with _ | ⟨a, _ | ⟨b, _ | ⟨c, _ | ⟨d, _ | ⟨x, r⟩⟩⟩⟩⟩
    all_goals first
      | (exfalso; simp at hz; done)
      | skip
    simp only [List.map_cons, List.map_nil, List.cons.injEq, and_true] at hz
    obtain ⟨h0, h1, h2, h3⟩ := hz
    exact ⟨a.2, b.2, c.2, d.2, by rw [← h0, ← h1, ← h2, ← h3]⟩
  obtain ⟨y0, y1, y2, y3, rfl⟩ := hz4
  have hy2 : y2 = 4629418941960159232 := (hN _ (by simp : ((⟨3, [], n1F, 4, false⟩ : Lx), y2) ∈ _)).1 rfl
  subst hy2
  clear hz hN XA
  obtain ⟨g, cap, rfl, hg0, hg1⟩ := hown.form (by simp)
  go_wp2_with fail
  refine (XB w1 p1).mono ?_
  rintro e w2 ⟨p2, rfl⟩
  have hown2 := ownsRow_pur hown p2
  have cl : ∀ j v, (rowOf [((⟨1, [97, 49], [], 0, false⟩ : Lx), y0), (⟨5, [43, 61], [], 2, false⟩, y1), (⟨3, [], n1F, 4, false⟩, 4629418941960159232), (⟨4, [0, 65], [], 15, true⟩, y3)])[j]? = some v → w2.cell? ⟨g, j, none⟩ = some v := by
    intro j v hv
    have hj := (List.getElem?_eq_some_iff.1 hv).1
    rw [hown2.cellAt j (by simpa [rowOf, Lx.cells] using hj)]
    exact hv
  have a1 := cl 1 _ rfl
  have a6 := cl 6 _ rfl
  have a12 := cl 12 _ rfl
  have a19 := cl 19 _ rfl
  have a16 := cl 16 _ rfl
  clear cl hown hown2 XB
  have WI2 := WI w2 (p1.trans p2)
  have hgl : True := trivial
  go_wp2_with fail
  refine WI2.mono ?_
  rintro e w3 ⟨rfl, p3⟩
  have NI2 := NI w3 ((p1.trans p2).trans p3)
  clear WI2 NI WI
  go_wp2_with fail
  refine NI2.mono ?_
  rintro e w4 ⟨rfl, p4⟩
  go_wp2
  go_ret
  exact ⟨rfl, ((p1.trans p2).trans p3).trans p4⟩
set_option maxRecDepth 100000 in
theorem names_law (s : List UInt8) (w : World) (hW : LW w) (hF : Rf.F64 w) (hs : s.length ≤ 1000000000) : Calls Tryz.prog 3 #[.string ⟨s.toArray⟩] w fun e w' => e = .returned (.bool true) ∧ Pur w w' := by
  have AW := awake_any w hW hF
  have W1 := fun w' (h : Pur w w') => word_any s w' (hW.pur h) hs
  have W2 := fun w => rWord_any s w hs
  have N1 := fun w' (h : Pur w w') => name_any s w' (hW.pur h) hs
  have N2 := fun w => rName_any s w hs
  rcases h1 : word s with _ | _ <;> rcases h2 : nameB s with _ | _
  all_goals
    rw [h1] at W1 W2
    rw [h2] at N1 N2
    clear h1 h2
    go_enter Tryz.func3, Tryz.ntmps3
    go_wp2_with fail
    refine AW.mono ?_
    rintro e w1 ⟨rfl, p1⟩
    go_wp2_with fail
    refine (W1 w1 p1).mono ?_
    rintro e w2 ⟨rfl, p2⟩
    go_wp2_with fail
    refine (W2 w2).mono ?_
    rintro e w3 ⟨rfl, rfl⟩
    go_wp2_with fail
    refine (N1 w2 (p1.trans p2)).mono ?_
    rintro e w3 ⟨rfl, p3⟩
    go_wp2_with fail
    refine (N2 w3).mono ?_
    rintro e w4 ⟨rfl, rfl⟩
    go_wp2
    go_ret
    exact ⟨rfl, (p1.trans p2).trans p3⟩
end Lx
end Go.Proofs.YtepmneongpbglaaGreatDoor
