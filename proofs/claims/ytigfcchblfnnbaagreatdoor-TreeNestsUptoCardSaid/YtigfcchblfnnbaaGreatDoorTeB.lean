/- Layer 3: declares, expand. Layer 3: expand. Layer 3: is an attribute's name, or expanded name, among those ahead? (slices.ContainsFunc with the two closures) -/
import Derived.Test.YtigfcchblfnnbaaGreatDoorTeA
import Derived.Test.YtigfcchblfnnbaaGreatDoorTkH
import Derived.Test.YtigfcchblfnnbaaGreatDoorShelf3
import Derived.Lib.SliceRun
namespace Go.Proofs.YtigfcchblfnnbaaGreatDoor
open Go Go.RowKit
set_option linter.all false
namespace Te
open Tk (AttrV TokV)
def AttrV.val (a : AttrV) : Value := .agg #[.string ⟨a.nm.toArray⟩, .string ⟨a.val.toArray⟩, .int .i64 (a.at_.1 : Int), .int .i64 (a.at_.2 : Int)]
/-- what declares says -/
def declR (nm val : Bs) : Bs × Bool × Bool := if isDecl nm then (declPfx nm, true, declOk nm val) else ([], false, false)
set_option maxRecDepth 100000 in
set_option maxHeartbeats 4000000 in
theorem declares_any (nm val : Bs) (l c : Int) (w : World) (hW : XW w) (hs : nm.length ≤ 1000000000) :
    Calls Tryz.prog 89 #[.agg #[.string ⟨nm.toArray⟩, .string ⟨val.toArray⟩, .int .i64 l, .int .i64 c]] w fun e w' =>
      e = .returned (.tuple #[.string ⟨(declR nm val).1.toArray⟩, .bool (declR nm val).2.1, .bool (declR nm val).2.2]) ∧ Pur w w' := by
  have SP := fun w hW => split_any nm w hW hs
  have HP := fun w => pre_any nm (tXmlns ++ [58]) w
  have pa : ∀ o, Pur w (w.alloc o) := fun o => (Pur.refl w).alloc o
  have K1 : ∀ x : PW (w.alloc (.cells #[.string ⟨nm.toArray⟩, .string ⟨val.toArray⟩, .int .i64 l, .int .i64 c] 156)), x.to.cell? ⟨w.heap.size, 1, none⟩ = some (.string ⟨val.toArray⟩) := fun x => cell_pur (bk_cell (bk_new w _) 1 _ rfl) x.pur
  by_cases h1 : nm = tXmlns
  · have hd : (nm == [120, 109, 108, 110, 115]) = true := by rw [h1]; rfl
    have e0 : declR nm val = ([], true, decide (val ≠ xmlS ∧ val ≠ xmlnsS)) := by unfold declR isDecl declPfx declOk; simp [h1]
    rw [e0]
    clear e0 SP HP h1 hs
    by_cases h2 : val = xmlS
    · have d2 : (val == [104, 116, 116, 112, 58, 47, 47, 119, 119, 119, 46, 119, 51, 46, 111, 114, 103, 47, 88, 77, 76, 47, 49, 57, 57, 56, 47, 110, 97, 109, 101, 115, 112, 97, 99, 101]) = true := by rw [h2]; rfl
      have e1 : decide (val ≠ xmlS ∧ val ≠ xmlnsS) = false := by simp [h2]
      rw [e1]
      clear h2 e1
      go_enter Tryz.func89, Tryz.ntmps89
      go_wp2
      refine wp_region_pur (by kernel_rfl) (by kernel_rfl) ?_
      repeat (go_big_quiet_step (fail))
      refine wpQuiet_nil ?_
      intro wq hq
      go_wp2
      go_ret3
      exact ⟨rfl, (pa _).trans hq⟩
    · have d2 : (val == [104, 116, 116, 112, 58, 47, 47, 119, 119, 119, 46, 119, 51, 46, 111, 114, 103, 47, 88, 77, 76, 47, 49, 57, 57, 56, 47, 110, 97, 109, 101, 115, 112, 97, 99, 101]) = false := by simpa [xmlS] using h2
      by_cases h3 : val = xmlnsS
      · have d3 : (val == [104, 116, 116, 112, 58, 47, 47, 119, 119, 119, 46, 119, 51, 46, 111, 114, 103, 47, 50, 48, 48, 48, 47, 120, 109, 108, 110, 115, 47]) = true := by rw [h3]; rfl
        have e1 : decide (val ≠ xmlS ∧ val ≠ xmlnsS) = false := by simp [h3]
        rw [e1]
        clear h2 h3 e1
        go_enter Tryz.func89, Tryz.ntmps89
        go_wp2
        refine wp_region_pur (by kernel_rfl) (by kernel_rfl) ?_
        repeat (go_big_quiet_step (fail))
        refine wpQuiet_nil ?_
        intro wq hq
        go_wp2
        go_ret3
        exact ⟨rfl, (pa _).trans hq⟩
      · have d3 : (val == [104, 116, 116, 112, 58, 47, 47, 119, 119, 119, 46, 119, 51, 46, 111, 114, 103, 47, 50, 48, 48, 48, 47, 120, 109, 108, 110, 115, 47]) = false := by simpa [xmlnsS] using h3
        have e1 : decide (val ≠ xmlS ∧ val ≠ xmlnsS) = true := by simp [h2, h3]
        rw [e1]
        clear h2 h3 e1
        go_enter Tryz.func89, Tryz.ntmps89
        go_wp2
        refine wp_region_pur (by kernel_rfl) (by kernel_rfl) ?_
        repeat (go_big_quiet_step (fail))
        refine wpQuiet_nil ?_
        intro wq hq
        go_wp2
        go_ret3
        exact ⟨rfl, (pa _).trans hq⟩
  · have hd : (nm == [120, 109, 108, 110, 115]) = false := by simpa [tXmlns] using h1
    clear K1
    by_cases h2 : (tXmlns ++ [58]) <+: nm
    · have e0 : declR nm val = (loc nm, true, formed nm && (decide (loc nm ≠ tXmlns) && (decide (val ≠ []) && (decide (val ≠ xmlnsS) && (decide (loc nm = tXml) == decide (val = xmlS)))))) := by unfold declR isDecl declPfx declOk; simp [h1, h2]
      rw [e0]
      have d1 : decide ((tXmlns ++ [58]) <+: nm) = true := by simp [h2]
      rw [d1] at HP
      generalize pfx nm = p0 at *
      generalize loc nm = q at *
      generalize formed nm = f at *
      clear e0 d1 h1 h2 hs
      obtain ⟨b1, k1⟩ : ∃ b, (q == [120, 109, 108, 110, 115]) = b := ⟨_, rfl⟩
      obtain ⟨b2, k2⟩ : ∃ b, (val == []) = b := ⟨_, rfl⟩
      obtain ⟨b3, k3⟩ : ∃ b, (val == [104, 116, 116, 112, 58, 47, 47, 119, 119, 119, 46, 119, 51, 46, 111, 114, 103, 47, 50, 48, 48, 48, 47, 120, 109, 108, 110, 115, 47]) = b := ⟨_, rfl⟩
      obtain ⟨b4, k4⟩ : ∃ b, (q == [120, 109, 108]) = b := ⟨_, rfl⟩
      obtain ⟨b5, k5⟩ : ∃ b, (val == [104, 116, 116, 112, 58, 47, 47, 119, 119, 119, 46, 119, 51, 46, 111, 114, 103, 47, 88, 77, 76, 47, 49, 57, 57, 56, 47, 110, 97, 109, 101, 115, 112, 97, 99, 101]) = b := ⟨_, rfl⟩
      have E := Lib.hid (show (f && (decide (q ≠ tXmlns) && (decide (val ≠ []) && (decide (val ≠ xmlnsS) && (decide (q = tXml) == decide (val = xmlS)))))) = (f && (!b1 && (!b2 && (!b3 && (b4 == b5))))) by
        have z : ∀ (x y : Bs) (b : Bool), (x == y) = b → decide (x = y) = b ∧ decide (x ≠ y) = !b := fun x y b h => by
          rw [← h]; cases hh : (x == y) with
          | true => have := eq_of_beq hh; simp [this]
          | false => have := ne_of_beq_false hh; simp [this]
        rw [(z q tXmlns b1 k1).2, (z val [] b2 k2).2, (z val xmlnsS b3 k3).2, (z q tXml b4 k4).1, (z val xmlS b5 k5).1])
      have nb : ∀ (x : Bool) (w : World), (Op.unary .not (.bool x)).run Tryz.prog w = .ok (.bool (!x)) w := fun _ _ => rfl
      rcases f with _ | _ <;> rcases b1 with _ | _ <;> rcases b2 with _ | _ <;> rcases b3 with _ | _ <;> rcases b4 with _ | _ <;> rcases b5 with _ | _
      all_goals
        go_enter Tryz.func89, Tryz.ntmps89
        go_wp2_with fail
        refine (HP _).mono ?_
        rintro e w1 ⟨rfl, p1⟩
        have c0 := cell_pur (bk_cell (bk_new w (.cells #[.string ⟨nm.toArray⟩, .string ⟨val.toArray⟩, .int .i64 l, .int .i64 c] 156)) 0 _ rfl) p1
        go_wp2_with fail
        refine (SP _ (hW.pur ((pa _).trans p1))).mono ?_
        rintro e w2 ⟨rfl, p2⟩
        have c1 := cell_pur (bk_cell (bk_new w (.cells #[.string ⟨nm.toArray⟩, .string ⟨val.toArray⟩, .int .i64 l, .int .i64 c] 156)) 1 _ rfl) (p1.trans p2)
        clear c0
        go_wp2
        go_ret3
        exact ⟨by rw [E.out]; rfl, (pa _).trans (p1.trans p2)⟩
    · have e0 : declR nm val = ([], false, false) := by unfold declR isDecl; simp [h1, h2]
      rw [e0]
      have d1 : decide ((tXmlns ++ [58]) <+: nm) = false := by simp [h2]
      rw [d1] at HP
      clear e0 SP h1 h2 hs
      go_enter Tryz.func89, Tryz.ntmps89
      go_wp2_with (go_at_call 113; refine (HP _).mono ?_; rintro e w1 ⟨rfl, p1⟩)
      go_ret3
      exact ⟨rfl, (pa _).trans p1⟩
end Te
end Go.Proofs.YtigfcchblfnnbaaGreatDoor
namespace Go.Proofs.YtigfcchblfnnbaaGreatDoor
open Go Go.RowKit
set_option linter.all false
namespace Te
open Tk (AttrV TokV)
/-- what expand hands back -/
def expR (r : Except Nat (Bs × Bs)) : Bs × Bs × Nat := match r with | .ok x => (x.1, x.2, 0) | .error k => ([], [], k)
set_option maxRecDepth 100000 in
set_option maxHeartbeats 4000000 in
theorem expand_any {s : Sc} {v : Value} (nm : Bs) (el : Bool) (w : World) (hW : XW w) (h : ScRead w v s) (hs : nm.length ≤ 1000000000) :
    Calls Tryz.prog 57 #[v, .string ⟨nm.toArray⟩, .bool el] w fun e w' =>
      e = .returned (.tuple #[.string ⟨(expR (expand s nm el)).1.toArray⟩, .string ⟨(expR (expand s nm el)).2.1.toArray⟩, .int .i64 ((expR (expand s nm el)).2.2 : Nat)]) ∧ Pur w w' := by
  have SP := fun w hW => split_any nm w hW hs
  have hll : (loc nm).length ≤ 1000000000 := by
    have h1 : ∀ l : Bs, (l.dropWhile (· != 58)).length ≤ l.length := fun l => (List.dropWhile_sublist _).length_le
    unfold loc
    split
    · rw [List.length_drop]; have := h1 nm; omega
    · exact hs
  have FI := fun w (h : ScRead w v s) => find_any (pfx nm) w h
  have RU := fun w => runes_any (loc nm) w hll
  have hE : expand s nm el = if (formed nm && ((pfx nm == []) || (find s (pfx nm)).isSome)) = false then .error 32 else if decide ((48 : Int) < (runes (loc nm) : Nat)) = true then .error 2 else .ok (if ((pfx nm == []) && !el) = true then [] else (find s (pfx nm)).getD [], loc nm) := by
    unfold expand
    have e1 : decide (pfx nm = []) = (pfx nm == []) := by
      cases hh : (pfx nm == []) with
      | true => have := eq_of_beq hh; simp [this]
      | false => have := ne_of_beq_false hh; simp [this]
    have e2 : (pfx nm = [] ∧ el = false) ↔ ((pfx nm == []) && !el) = true := by simp
    have e3 : (48 < runes (loc nm)) ↔ decide ((48 : Int) < (runes (loc nm) : Nat)) = true := by simp; omega
    rw [e1]
    simp only [e2, e3]
  rw [hE]
  clear hE hll hs
  generalize pfx nm = p at *
  generalize loc nm = q at *
  generalize formed nm = f at *
  generalize find s p = fr at *
  generalize runes q = n at *
  obtain ⟨pe, k1⟩ : ∃ b, (p == []) = b := ⟨_, rfl⟩
  obtain ⟨bn, k2⟩ : ∃ b, decide ((48 : Int) < (n : Nat)) = b := ⟨_, rfl⟩
  rw [k1, k2]
  have nb : ∀ (x : Bool) (w : World), (Op.unary .not (.bool x)).run Tryz.prog w = .ok (.bool (!x)) w := fun _ _ => rfl
  obtain ⟨g, hg⟩ : ∃ g, fr.getD [] = g := ⟨_, rfl⟩
  obtain ⟨z, hz⟩ : ∃ z, fr.isSome = z := ⟨_, rfl⟩
  rw [hg, hz] at FI ⊢
  clear hg hz
  rcases pe with _ | _ <;> rcases el with _ | _ <;> rcases f with _ | _ <;> rcases z with _ | _ <;> rcases bn with _ | _
  all_goals
    go_enter Tryz.func57, Tryz.ntmps57
    go_wp2_with (first | (go_at_call 94; refine (SP _ hW).mono ?_; rintro e w1 ⟨rfl, p1⟩) | (go_at_call 95; refine (FI _ (h.pur p1)).mono ?_; rintro e w2 ⟨rfl, p2⟩) | (go_at_call 96; refine (RU _).mono ?_; rintro e w3 ⟨rfl, p3⟩))
    go_ret3
    first
      | exact ⟨rfl, p1⟩
      | exact ⟨rfl, p1.trans p2⟩
      | exact ⟨rfl, p1.trans p3⟩
      | exact ⟨rfl, p1.trans (p2.trans p3)⟩
end Te
end Go.Proofs.YtigfcchblfnnbaaGreatDoor
namespace Go.Proofs.YtigfcchblfnnbaaGreatDoor
open Go Go.RowKit
set_option linter.all false
namespace Te
open Tk (AttrV TokV ARead)
instance : Inhabited AttrV := ⟨⟨[], [], (0, 0)⟩⟩
instance : Inhabited ExV := ⟨⟨[], [], [], (0, 0)⟩⟩
theorem attr_len (a : AttrV) : a.cells.length = 4 := rfl
theorem ex_len (a : ExV) : a.cells.length = 5 := rfl
/-- the closure 'o.Name == a.Name', a in block B -/
theorem pred1 (a : AttrV) (B : Nat) (w : World) (hB : B < w.heap.size) (hc : w.cell? ⟨B, 0, none⟩ = some (.string ⟨a.nm.toArray⟩)) :
    PredBelow Tryz.prog 88 #[.pointer (some ⟨B, 0, none⟩)] (fun x : AttrV => .agg x.cells.toArray) (fun o => sameName o a) w := fun W x hb => by
  have hc' : W.cell? ⟨B, 0, none⟩ = some (.string ⟨a.nm.toArray⟩) := (hb.cell (p := ⟨B, 0, none⟩) hB).trans hc
  have hBW : B < W.heap.size := Nat.lt_of_lt_of_le hB hb.size
  have hne : B ≠ W.heap.size := by omega
  have e : sameName x a = (x.nm == a.nm) := by
    unfold sameName
    cases hh : (x.nm == a.nm) with
    | true => have := eq_of_beq hh; simp [this]
    | false => have := ne_of_beq_false hh; simp [this]
  dsimp only
  rw [e]
  obtain ⟨xn, xv, xl, xc⟩ := x
  show Calls Tryz.prog 88 #[.agg #[.string ⟨xn.toArray⟩, .string ⟨xv.toArray⟩, .int .i64 (xl : Int), .int .i64 (xc : Int)], .pointer (some ⟨B, 0, none⟩)] W _
  go_enter Tryz.func88, Tryz.ntmps88
  go_wp2
  go_ret
  exact ⟨rfl, hb.alloc hb.size _⟩
/-- the closure 'o.Space == x.Space && o.Local == x.Local' -/
theorem pred2 (a : ExV) (B : Nat) (w : World) (hB : B < w.heap.size) (hc : w.cell? ⟨B, 0, none⟩ = some (.string ⟨a.sp.toArray⟩)) (hd : w.cell? ⟨B, 1, none⟩ = some (.string ⟨a.lo.toArray⟩)) :
    PredBelow Tryz.prog 91 #[.pointer (some ⟨B, 0, none⟩)] (fun x : ExV => .agg x.cells.toArray) (fun o => sameEx o a) w := fun W x hb => by
  have hc' : W.cell? ⟨B, 0, none⟩ = some (.string ⟨a.sp.toArray⟩) := (hb.cell (p := ⟨B, 0, none⟩) hB).trans hc
  have hd' : W.cell? ⟨B, 1, none⟩ = some (.string ⟨a.lo.toArray⟩) := (hb.cell (p := ⟨B, 1, none⟩) hB).trans hd
  have hBW : B < W.heap.size := Nat.lt_of_lt_of_le hB hb.size
  have hne : B ≠ W.heap.size := by omega
  have z : ∀ (x y : Bs), decide (x = y) = (x == y) := fun x y => by
    cases hh : (x == y) with
    | true => have := eq_of_beq hh; simp [this]
    | false => have := ne_of_beq_false hh; simp [this]
  have e : sameEx x a = ((x.sp == a.sp) && (x.lo == a.lo)) := by unfold sameEx; rw [z, z]
  dsimp only
  rw [e]
  obtain ⟨xs, xn, xv, xl, xc⟩ := x
  obtain ⟨b1, k1⟩ : ∃ b, (xs == a.sp) = b := ⟨_, rfl⟩
  obtain ⟨b2, k2⟩ : ∃ b, (xn == a.lo) = b := ⟨_, rfl⟩
  dsimp only
  rw [k1, k2]
  clear hc hd e z
  show Calls Tryz.prog 91 #[.agg #[.string ⟨xs.toArray⟩, .string ⟨xn.toArray⟩, .string ⟨xv.toArray⟩, .int .i64 (xl : Int), .int .i64 (xc : Int)], .pointer (some ⟨B, 0, none⟩)] W _
  rcases b1 with _ | _ <;> rcases b2 with _ | _
  all_goals
    go_enter Tryz.func91, Tryz.ntmps91
    go_wp2
    go_ret
    exact ⟨rfl, hb.alloc hb.size _⟩
set_option maxHeartbeats 1000000 in
theorem dup1_any (l : List AttrV) (g : Nat) (n c : Nat) (a : AttrV) (B : Nat) (w : World) (hn : n ≤ l.length) (hl : l.length ≤ 1000000) (hg : g < w.heap.size) (hB : B < w.heap.size) (hcB : w.cell? ⟨B, 0, none⟩ = some (.string ⟨a.nm.toArray⟩))
    (hc : ∀ (i : Nat) x, l[i]? = some x → w.cell? ⟨g, i * 4, none⟩ = some (.string ⟨x.nm.toArray⟩) ∧ w.cell? ⟨g, i * 4 + 1, none⟩ = some (.string ⟨x.val.toArray⟩) ∧ w.cell? ⟨g, i * 4 + 2, none⟩ = some (.int .i64 (x.at_.1 : Int)) ∧ w.cell? ⟨g, i * 4 + 3, none⟩ = some (.int .i64 (x.at_.2 : Int))) :
    Calls Tryz.prog 87 #[.slice (some ⟨g, 0, none⟩) n c, .func (.func 88) #[] #[.pointer (some ⟨B, 0, none⟩)]] w fun e w' => e = .returned (.bool ((l.take n).any fun o => sameName o a)) ∧ Pur w w' := by
  have eg : ∀ args w, (callFunc 88 args).run Tryz.prog w = .ok (.enter 88 args) w := enters_of Tryz.func88 (by kernel_rfl) rfl
  refine (AnyQ.slices_ContainsFunc Tryz.lca 4 Tryz.isAgg156 Tryz.sizeOf156 AttrV.cells attr_len (fun o => sameName o a) 88 #[.pointer (some ⟨B, 0, none⟩)] eg g 0 n c l w (pred1 a B w hB hcB) hn (by omega) hg ?_).mono ?_
  · intro j hj i v hi
    have hx : l[j]? = some l[j]! := by rw [List.getElem?_eq_getElem hj]; simp [hj]
    obtain ⟨k0, k1, k2, k3⟩ := hc j _ hx
    generalize l[j]! = y at *
    rw [Nat.zero_add]
    match i, hi with
    | 0, hi => simp [AttrV.cells] at hi; rw [← hi]; exact k0
    | 1, hi => simp [AttrV.cells] at hi; rw [← hi]; exact k1
    | 2, hi => simp [AttrV.cells] at hi; rw [← hi]; exact k2
    | 3, hi => simp [AttrV.cells] at hi; rw [← hi]; exact k3
    | i + 4, hi => simp [AttrV.cells] at hi
  · rintro e w' ⟨rfl, hp⟩
    exact ⟨rfl, hp⟩
set_option maxHeartbeats 1000000 in
theorem dup2_any (l : List ExV) (g : Nat) (n c : Nat) (a : ExV) (B : Nat) (w : World) (hn : n ≤ l.length) (hl : l.length ≤ 1000000) (hg : g < w.heap.size) (hB : B < w.heap.size) (hcB : w.cell? ⟨B, 0, none⟩ = some (.string ⟨a.sp.toArray⟩)) (hdB : w.cell? ⟨B, 1, none⟩ = some (.string ⟨a.lo.toArray⟩))
    (hc : ∀ (i j : Nat) x u, l[i]? = some x → x.cells[j]? = some u → w.cell? ⟨g, i * 5 + j, none⟩ = some u) :
    Calls Tryz.prog 90 #[.slice (some ⟨g, 0, none⟩) n c, .func (.func 91) #[] #[.pointer (some ⟨B, 0, none⟩)]] w fun e w' => e = .returned (.bool ((l.take n).any fun o => sameEx o a)) ∧ Pur w w' := by
  have eg : ∀ args w, (callFunc 91 args).run Tryz.prog w = .ok (.enter 91 args) w := enters_of Tryz.func91 (by kernel_rfl) rfl
  refine (AnyQ.slices_ContainsFunc Tryz.lce 5 Tryz.isAgg81 Tryz.sizeOf81 ExV.cells ex_len (fun o => sameEx o a) 91 #[.pointer (some ⟨B, 0, none⟩)] eg g 0 n c l w (pred2 a B w hB hcB hdB) hn (by omega) hg ?_).mono ?_
  · intro j hj i v hi
    have hx : l[j]? = some l[j]! := by rw [List.getElem?_eq_getElem hj]; simp [hj]
    rw [Nat.zero_add]
    exact hc j i _ v hx hi
  · rintro e w' ⟨rfl, hp⟩
    exact ⟨rfl, hp⟩
end Te
end Go.Proofs.YtigfcchblfnnbaaGreatDoor
