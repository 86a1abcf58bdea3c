/- Layer 4: the number of a wide text that is one, out of what atof64 answers. -/
import Derived.Test.YtclaoeoofbobmaaGreatDoorNmZ
import Derived.Test.YtclaoeoofbobmaaGreatDoorNmPure4
import Derived.Test.YtclaoeoofbobmaaGreatDoorNmQ
namespace Go.Proofs.YtclaoeoofbobmaaGreatDoor
open Go Go.RowKit
set_option linter.all false
namespace Nm
open Us (FW AD)
/-- the library's variables that a number asks -/
structure NW (Hi Lo T : Nat → Nat) (w : World) : Prop where
  fw : FW Hi Lo T w
  er : ∃ ev, w.cell? ⟨2, 0, none⟩ = some ev ∧ (ev = .nilIface ∨ ∃ te pe, ev = .iface te pe)
theorem NW.pur {Hi Lo T : Nat → Nat} {w w' : World} (h : NW Hi Lo T w) (hp : Pur w w') : NW Hi Lo T w' := by
  obtain ⟨ev, h1, h2⟩ := h.er
  exact ⟨h.fw.pur hp, ev, Us.cellp h1 hp, h2⟩
theorem pf_any {Hi Lo T : Nat → Nat} {l : List UInt8} {x : Nat} {b : Bool} (hA : AD Hi Lo T l x b) (hl : l.length ≤ 1000000) {w : World} (hW : NW Hi Lo T w) :
    Calls Tryz.prog 63 #[.string ⟨l.toArray⟩, .int .i64 64] w fun e w' => (e = .returned (.tuple #[.float .f64 x, .nilIface]) ∨ ∃ te pe, e = .returned (.tuple #[.float .f64 x, .iface te pe])) ∧ Pur w w' := by
  cases b with
  | false =>
    refine (Us.parse_ok hA hl hW.fw).mono ?_
    rintro e w' ⟨h1, h2⟩
    exact ⟨.inl h1, h2⟩
  | true =>
    obtain ⟨ev, h1, h2⟩ := hW.er
    refine (Us.parse_range hA hl hW.fw h1 h2).mono ?_
    rintro e w' ⟨h1, h2⟩
    exact ⟨.inr h1, h2⟩
set_option maxRecDepth 100000 in
set_option maxHeartbeats 8000000 in
theorem number_dec {Hi Lo T : Nat → Nat} {l s : List UInt8} {x : Nat} {b : Bool} {w : World} (hl : l.length ≤ 1000000) (hp : plain l = some s) (hx : decimal s = true) (hA : AD Hi Lo T s x b) (hW : NW Hi Lo T w) :
    Calls Tryz.prog 34 #[.string ⟨l.toArray⟩] w fun e w' => e = .returned (.float .f64 x) ∧ Pur w w' := by
  have PL := plain_any l w (by omega)
  have hsl := plain_len hp
  have PF : ∀ w', Pur w w' → _ := fun w' h => pf_any hA (by omega) (hW.pur h)
  rw [hp] at PL
  unfold PlainPost at PL
  obtain ⟨-, -, -, -, h0, hd, hnx⟩ := dec_whole hx
  have DE := fun w => decimal_any s w (by omega)
  rw [hx] at DE
  have x6 : (0 : Int) < s.length := by omega
  have hne : ¬ s = [] := by intro e; rw [e] at h0; simp at h0
  have hne2 : s.isEmpty = false := by cases s with | nil => exact absurd rfl hne | cons _ _ => rfl
  have hb1 := by8_lt s 1
  have ho := u8_or_nat (by8 s 1) 32 hb1 (by decide)
  rw [show ((32 : Nat) : Int) = 32 from rfl] at ho
  have d1 : ((by8 s 0 : Int) == 43) = false := by rw [beq_eq_false_iff_ne]; have := hd 43 (by simp); omega
  have d2 : ((by8 s 0 : Int) == 45) = false := by rw [beq_eq_false_iff_ne]; have := hd 45 (by simp); omega
  have hinf : (s == [73, 110, 102, 105, 110, 105, 116, 121]) = false := by
    rw [beq_eq_false_iff_ne]; intro e
    exact hd 73 (by simp) (by rw [e]; rfl)
  have hinf2 : ¬ s = [73, 110, 102, 105, 110, 105, 116, 121] := by simpa using hinf
  obtain ⟨o, hO⟩ : ∃ o, (by8 s 1 ||| 32) = o := ⟨_, rfl⟩
  rw [hO] at ho hnx
  clear hp hsl hx hA hW hd hO
  rcases t1 : decide ((2 : Int) < (s.length : Int)) with _ | _ <;> rcases t2 : ((by8 s 0 : Int) == 48) with _ | _ <;> rcases t3 : ((o : Int) == 120) with _ | _
  all_goals
    first
      | (exfalso; apply hnx; rw [beq_iff_eq] at t2 t3; omega)
      | (skip
         first
           | (have x1 : (1 : Int) < s.length := by rw [decide_eq_true_eq] at t1; omega)
           | skip
         clear hnx
         go_enter Tryz.func34, Tryz.ntmps34
         go_wp2_with fail
         refine PL.mono ?_
         rintro e w1 ⟨rfl, p1⟩
         have PF1 := PF w1 p1
         clear PF PL
         go_wp2_with fail
         refine (DE _).mono ?_
         rintro e w2 ⟨rfl, rfl⟩
         go_wp2_with fail
         refine PF1.mono ?_
         rintro e w2 ⟨he, p2⟩
         rcases he with rfl | ⟨te, pe, rfl⟩
         all_goals
           go_wp2
           go_ret
           exact ⟨rfl, p1.trans p2⟩)
end Nm
end Go.Proofs.YtclaoeoofbobmaaGreatDoor
