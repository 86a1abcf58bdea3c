/- Layer 8: which scripts a law goes through. -/
import Derived.Test.YtfophnmnehpenaaDoorHA14
import Derived.Test.YtfophnmnehpenaaDoorOpenRows
namespace Go.Proofs.YtfophnmnehpenaaDoor
open Go Go.RowKit
set_option linter.all false
def Cl.bad (c : Cl) : Bool := decide (200 < (c.key.length : Int)) || decide (60 < (c.items.length : Int)) || decide (200 < (c.v.text.length : Int))
def longB (cs : List Cl) : Bool := decide (60 < (cs.length : Int)) || cs.any Cl.bad
theorem any_take {cs : List Cl} {n : Nat} {c : Cl} (h : cs[n]? = some c) (hb : c.bad = true) : cs.any Cl.bad = true := List.any_eq_true.2 ⟨c, List.mem_of_getElem? h, hb⟩
set_option maxRecDepth 100000 in
set_option maxHeartbeats 4000000 in
theorem long_any (v : Value) (cs : List Cl) (w : World) (h : LRead 9 Cl.cells w v cs) (hiv : ∀ c ∈ cs, ∃ a cc, c.iv = .slice a c.items.length cc) (hn : cs.length ≤ 1000000000) :
    Calls Tryd.prog 25 #[v] w fun e w' => e = .returned (.bool (longB cs)) ∧ Pur w w' := by
  obtain ⟨a, c, rfl, hC⟩ := h
  obtain ⟨R, hR⟩ : ∃ R, longB cs = R := ⟨_, rfl⟩
  rw [hR]
  unfold longB at hR
  by_cases h60 : 60 < (cs.length : Int)
  · rw [decide_eq_true h60] at hR
    simp only [Bool.true_or] at hR
    subst hR
    have hd := decide_eq_true h60
    clear hC hiv
    go_enter Tryd.func25, Tryd.ntmps25
    go_wp2
    go_ret
    exact ⟨rfl, Pur.refl _⟩
  · rw [decide_eq_false h60] at hR
    simp only [Bool.false_or] at hR
    have hd := decide_eq_false h60
    have HR0 := Lib.hid hR
    clear hR
    go_enter Tryd.func25, Tryd.ntmps25
    go_wp2
    go_loopw [10] (fun i wr => ∃ n : Nat, n ≤ cs.length ∧ i = .int .i64 n ∧ Pur w wr ∧ Hid (∀ x ∈ cs.take n, x.bad = false)) (fun i _ => cs.length + 1 - (intOf i).toNat)
    case atStart => exact ⟨0, by omega, rfl, Pur.refl w, Lib.hid (by simp)⟩
    case round =>
      obtain ⟨n, hnl, rfl, hpr, HR⟩ := hrel
      by_cases hlt : n < cs.length
      · have hlt' : (n : Int) < cs.length := by omega
        have hn0 : (0 : Int) ≤ n := by omega
        have hwn : IntKind.i64.wrap ((n : Int) + 1) = n + 1 := IntWalk.i64_in _ (by omega)
        obtain ⟨x, hx⟩ : ∃ x, cs[n]? = some x := ⟨_, List.getElem?_eq_getElem hlt⟩
        obtain ⟨b, o, ha, hb, hcell⟩ := hC n x hx
        obtain ⟨ia, ic, hie⟩ := hiv x (List.mem_of_getElem? hx)
        have kk : ∀ (i : Nat) u, x.cells[i]? = some u → wr.cell? ⟨b, o + n * 9 + i, none⟩ = some u := fun i u hu => (hpr.cell (p := ⟨b, o + n * 9 + i, none⟩) hb).trans (hcell i u hu)
        have hgood : x.bad = true → R = true := fun hb => HR0.out ▸ any_take hx hb
        have HT : Hid (cs.take (n + 1) = cs.take n ++ [x]) := Lib.hid (by rw [List.take_add_one, hx]; rfl)
        unfold Cl.bad at hgood
        obtain ⟨xk, xi, xn, xs, ⟨vk, vn, vt, vr⟩, its, xv⟩ := x
        simp only at hie hgood
        subst hie ha
        have k0 := kk 0 _ rfl
        have k1 := kk 1 _ rfl
        have k2 := kk 2 _ rfl
        have k3 := kk 3 _ rfl
        have k4 := kk 4 _ rfl
        have k5 := kk 5 _ rfl
        have k6 := kk 6 _ rfl
        have k7 := kk 7 _ rfl
        have k8 := kk 8 _ rfl
        rw [Nat.add_zero] at k0
        obtain ⟨b1, e1⟩ : ∃ b1, decide (200 < (xs.length : Int)) = b1 := ⟨_, rfl⟩
        obtain ⟨b2, e2⟩ : ∃ b2, decide (60 < (its.length : Int)) = b2 := ⟨_, rfl⟩
        obtain ⟨b3, e3⟩ : ∃ b3, decide (200 < (vt.length : Int)) = b3 := ⟨_, rfl⟩
        rw [e1, e2, e3] at hgood
        have HX : Hid (b1 = false → b2 = false → b3 = false → Cl.bad ⟨xk, xi, xn, xs, ⟨vk, vn, vt, vr⟩, its, .slice ia its.length ic⟩ = false) := Lib.hid (fun h1 h2 h3 => by unfold Cl.bad; simp only [e1, e2, e3, h1, h2, h3]; rfl)
        have hp2 := hpr.alloc (.cells #[.int .u8 xk, .int .i64 xi, .int .i64 xn, .string ⟨xs.toArray⟩, .int .i64 vk, .float .f64 vn, .string ⟨vt.toArray⟩, .int .i64 vr, .slice ia its.length ic] 54)
        clear hC hiv kk hcell hx hpr hd
        rcases b1 with _ | _
        · rcases b2 with _ | _
          · rcases b3 with _ | _
            · clear hgood
              go_wp2
              go_roundw
              case rel =>
                refine ⟨n + 1, by omega, by go_num, hp2, Lib.hid (fun y hy => ?_)⟩
                rw [HT.out] at hy
                rcases List.mem_append.1 hy with hy | hy
                · exact HR.out y hy
                · rw [List.mem_singleton.1 hy]; exact HX.out rfl rfl rfl
              case measure => simp [intOf]; omega
            · obtain rfl := hgood rfl
              clear hgood
              go_wp2
              go_ret
              exact ⟨rfl, hp2⟩
          · obtain rfl := hgood rfl
            clear hgood
            go_wp2
            go_ret
            exact ⟨rfl, hp2⟩
        · obtain rfl := hgood (by simp)
          clear hgood
          go_wp2
          go_ret
          exact ⟨rfl, hp2⟩
      · obtain rfl : n = cs.length := by omega
        have e : cs.any Cl.bad = false := List.any_eq_false.2 (fun y hy => by rw [HR.out y (by rw [List.take_length]; exact hy)]; simp)
        have e2 := HR0.out
        rw [e] at e2
        subst e2
        clear hC hiv HR HR0 e
        go_wp2
        go_ret
        exact ⟨rfl, hpr⟩
end Go.Proofs.YtfophnmnehpenaaDoor
