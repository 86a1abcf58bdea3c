/- Layer 3: Canon; awake. Layer 3: awake. -/
import Derived.Test.YtigfcchblfnnbaaGreatDoorTe36
import Derived.Test.YtigfcchblfnnbaaGreatDoorTe32
import Derived.Test.YtigfcchblfnnbaaGreatDoorTe17
namespace Go.Proofs.YtigfcchblfnnbaaGreatDoor
open Go Go.RowKit
set_option linter.all false
namespace Te
open Tk (TW tell_fault)
theorem Bw.is {w : World} {B b : Nat} {v : Value} {acc : Bs} (h : Bw w B b v acc) : Lib.IsBuilder 77 5 B b (Lib.byteCells acc) w := by
  have hl : (Lib.byteCells acc).length = acc.length := by simp [Lib.byteCells]
  obtain ⟨p, hp, hb⟩ := h.own
  have hr := h.row
  rw [← hl] at hr
  rcases hp with rfl | rfl
  · exact .inl ⟨h.low, v, hb, hr, h.ne⟩
  · exact .inr ⟨h.low, v, hb, hr, h.ne⟩
set_option maxRecDepth 100000 in
set_option maxHeartbeats 8000000 in
/-- Canon -/
theorem canon_any (ns : List NodeV) (v : Value) (w : World) (hX : XW w) (hT : UW w) (hN : NRead w v ns) (hwf : ∀ (k : Nat) n, ns[k]? = some n → n.par < (k : Int)) (hb : ∀ n ∈ ns, NodeB n ∧ n.ex.length ≤ 100000) (hl : ns.length ≤ 1000000)
    (hlen : (writeB ns ns.length 0 []).length ≤ 70368744177664) :
    Calls Tryz.prog 11 #[.agg #[v]] w fun e w' => e = .returned (.tuple #[.string ⟨((canon ns).getD []).toArray⟩, .int .i64 (if (canon ns).isSome then 0 else 1)]) ∧ Pur w w' := by
  obtain ⟨a, c, rfl⟩ := hN.shape
  obtain ⟨w0, hw0⟩ : ∃ w0, w0 = w.alloc (.cells #[.slice a ns.length c] 29) := ⟨_, rfl⟩
  have hb0 : w0.heap[w.heap.size]? = some (.cells #[.slice a ns.length c] 29 (0, 0)) := by rw [hw0]; exact bk_new w _
  have hp0 : Pur w w0 := by rw [hw0]; exact (Pur.refl w).alloc _
  have RT := right_any ns (.slice a ns.length c) w0 (Utf8Tabs_below hT hp0) (hN.pur hp0) (fun n hn => (hb n hn).1)
  have t0 := bk_cell hb0 0 _ rfl
  obtain ⟨R, hR⟩ : ∃ R, R = canon ns := ⟨_, rfl⟩
  have hRe : R = if right ns then some (writeB ns ns.length 0 []) else none := by rw [hR]; rfl
  rw [← hR]
  clear hR
  have hpos : right ns = true → 0 < ns.length := fun h => by
    cases ns with
    | nil => simp [right] at h
    | cons n r => simp
  cases hq : right ns with
  | false =>
    have e : R = none := by rw [hRe, hq]; rfl
    subst e
    rw [hq] at RT
    clear hlen hb hl hwf hpos hRe
    go_enter Tryz.func11, Tryz.ntmps11
    go_upto_region 1 with (fail)
    rw [← hw0]
    clear hw0
    go_wp2_with fail
    refine RT.mono ?_
    rintro e w1 ⟨rfl, p1⟩
    go_wp2
    go_ret2
    exact ⟨rfl, hp0.trans p1⟩
  | true =>
    have e : R = some (writeB ns ns.length 0 []) := by rw [hRe, hq]; rfl
    subst e
    rw [hq] at RT
    have hp := hpos hq
    have WT := fun (w2 : World) (p2 : Pur w w2) => write_any ns (.slice a ns.length c) w2 w2.heap.size w2.heap.size (hN.pur p2) (hX.pur p2) rfl hwf hb hl ns.length 0 [] [] (w2.alloc (.cells #[.pointer none, .slice none 0 0] 77)) (.slice none 0 0) (by omega) hp ((Pur.refl w2).alloc _)
      ⟨⟨_, .inl rfl, bk_new w2 _⟩, World.ownsRow_nil _ _ _ _, by simp [Value.ownBlock], Nat.le_refl _⟩ (by simpa using hlen)
    change Calls _ _ _ _ (fun e w' => e = .returned (.tuple #[.string ⟨(writeB ns ns.length 0 []).toArray⟩, .int .i64 0]) ∧ Pur w w')
    generalize writeB ns ns.length 0 [] = OUT at *
    clear hRe hpos hlen hb hl hwf
    go_enter Tryz.func11, Tryz.ntmps11
    go_upto_region 1 with (fail)
    rw [← hw0]
    clear hw0
    go_wp2_with fail
    refine RT.mono ?_
    rintro e w1 ⟨rfl, p1⟩
    have p01 := hp0.trans p1
    have t1 := bk_cell (bk_pur hb0 p1) 0 _ rfl
    have t2 := bk_cell (bk_pur hb0 (p1.alloc (.cells #[.pointer none, .slice none 0 0] 77))) 0 _ rfl
    have W1 := WT w1 p01
    clear WT RT
    go_wp2_with fail
    refine W1.mono ?_
    rintro e w2 ⟨rfl, hw⟩
    obtain ⟨v2, k1, k2, k3⟩ := hw.out
    rw [List.nil_append] at k1
    have p12 : Pur w1 w2 := ((Chg.of_pur ((Pur.refl w1).alloc _)).trans k2).to_pur (fun x hx => by
      simp [Value.ownBlock] at hx; omega)
    have BS := Tryz.Builder_String_any w1.heap.size w1.heap.size OUT w2 k1.is p12.size
    clear W1
    go_wp2_with fail
    refine BS.mono ?_
    rintro e w3 ⟨rfl, p3⟩
    have p13 : Pur w1 w3 := Below.trans p12 p3
    clear BS
    go_wp2
    go_ret2
    exact ⟨rfl, p01.trans p13⟩
end Te
end Go.Proofs.YtigfcchblfnnbaaGreatDoor
namespace Go.Proofs.YtigfcchblfnnbaaGreatDoor
open Go Go.RowKit
set_option linter.all false
namespace Te
open Tk (TW tell_fault)
def docA : Bs := [60, 112, 58, 97, 32, 120, 109, 108, 110, 115, 58, 112, 61, 34, 117, 34, 32, 112, 58, 98, 61, 34, 49, 34, 32, 99, 61, 34, 50, 34, 62, 120, 60, 47, 112, 58, 97, 62]
def docB : Bs := [60, 97, 62, 60, 98, 62, 60, 47, 97, 62]
def outA : Bs := [60, 97, 32, 120, 109, 108, 110, 115, 61, 34, 117, 34, 32, 120, 109, 108, 110, 115, 58, 110, 49, 61, 34, 117, 34, 32, 99, 61, 34, 50, 34, 32, 110, 49, 58, 98, 61, 34, 49, 34, 62, 120, 60, 47, 97, 62]
def awakeN : List NodeV := [⟨[117], [97], [⟨[], [99], [50], (1, 26)⟩, ⟨[117], [98], [49], (1, 18)⟩], [], -1, (1, 1)⟩, ⟨[], [], [], [120], 0, (1, 32)⟩]
theorem parse_a0 : (match parse docA with | .ok ns => some ns | _ => none) = some awakeN := by decide +kernel
theorem parse_a : parse docA = .ok awakeN := by
  have h := parse_a0
  rcases hq : parse docA with e | ns
  · rw [hq] at h; cases h
  · rw [hq] at h; cases h; rfl
theorem parse_b0 : (match parse docB with | .error e => some e | _ => none) = some ((1, 7), 30) := by decide +kernel
theorem parse_b : parse docB = .error ((1, 7), 30) := by
  have h := parse_b0
  rcases hq : parse docB with e | ns
  · rw [hq] at h; cases h; rfl
  · rw [hq] at h; cases h
theorem canon_a : canon awakeN = some outA := by decide +kernel
theorem attr_a : attrOf awakeN 0 [117] [98] = some [49] := by decide +kernel
theorem awake_B : ∀ n ∈ awakeN, NodeB n ∧ n.ex.length ≤ 100000 := by
  intro n hn
  simp only [awakeN, List.mem_cons, List.not_mem_nil, or_false] at hn
  rcases hn with rfl | rfl
  · refine ⟨⟨by decide, by decide, by decide, fun x hx => ?_⟩, by decide⟩
    simp only [List.mem_cons, List.not_mem_nil, or_false] at hx
    rcases hx with rfl | rfl <;> exact ⟨by decide, by decide, by decide⟩
  · exact ⟨⟨by decide, by decide, by decide, fun x hx => by cases hx⟩, by decide⟩
theorem awake_wf : ∀ (k : Nat) n, awakeN[k]? = some n → n.par < (k : Int) := by
  intro k n h
  rcases k with _ | _ | k
  · cases h; decide
  · cases h; decide
  · simp [awakeN] at h
theorem awake_len : (writeB awakeN awakeN.length 0 []).length ≤ 70368744177664 := by
  have : (writeB awakeN awakeN.length 0 []).length = 46 := by decide +kernel
  omega
set_option maxRecDepth 100000 in
set_option maxHeartbeats 8000000 in
theorem awake_any (w : World) (hW : TW w) (hX : XW w) : Calls Tryz.prog 5 #[] w fun e w' => e = .returned (.bool true) ∧ Pur w w' := by
  have P1 := fun w hW hX => parse_any docA w hW hX
  have P2 := fun w hW hX => parse_any docB w hW hX
  rw [parse_a] at P1
  rw [parse_b] at P2
  have CA : ∀ v w, XW w → UW w → NRead w v awakeN → Calls Tryz.prog 11 #[.agg #[v]] w fun e w' => e = .returned (.tuple #[.string ⟨outA.toArray⟩, .int .i64 0]) ∧ Pur w w' := fun v w hX hT hN => by
    have := canon_any awakeN v w hX hT hN awake_wf awake_B (by decide) awake_len
    rw [canon_a] at this
    exact this
  have AA : ∀ v w, NRead w v awakeN → Calls Tryz.prog 12 #[.agg #[v], .int .i64 0, .string ⟨[117].toArray⟩, .string ⟨[98].toArray⟩] w fun e w' => e = .returned (.tuple #[.string ⟨[49].toArray⟩, .bool true]) ∧ Pur w w' := fun v w hN => by
    have := attr_any awakeN v 0 [117] [98] w hN
    rw [attr_a] at this
    exact this
  go_enter Tryz.func5, Tryz.ntmps5
  go_wp2_with fail
  refine (P1 _ hW hX).mono ?_
  rintro e w1 ⟨p1, v1, evs, rfl, hR⟩
  obtain ⟨w2, hw2⟩ : ∃ w2, w2 = w1.alloc (.cells #[v1] 29) := ⟨_, rfl⟩
  have q2 : Pur w1 w2 := by rw [hw2]; exact (Pur.refl w1).alloc _
  have b2 : w2.heap[w1.heap.size]? = some (.cells #[v1] 29 (0, 0)) := by rw [hw2]; exact bk_new w1 _
  have P2' := P2 w2 (hW.pur (p1.trans q2)) (hX.pur (p1.trans q2))
  have hN2 := hR.read.less.pur q2
  obtain ⟨a1, c1, rfl⟩ := hN2.shape
  clear P1 P2
  go_upto_region 2 with (fail)
  rw [← hw2]
  clear hw2
  go_wp2_with fail
  refine P2'.mono ?_
  rintro e w3 ⟨p3, fv, rfl, b, -, rfl, hb⟩
  dsimp only at hb
  clear P2'
  have p13 := (p1.trans q2).trans p3
  have q4 : Pur w3 (w3.alloc (.cells #[.slice none 0 0] 29)) := (Pur.refl w3).alloc _
  have T1 := tell_fault b _ _ _ (w3.alloc (.cells #[.slice none 0 0] 29)) (hW.pur (p13.trans q4)) (bk_pur hb q4)
  go_wp2_with fail
  refine T1.mono ?_
  rintro e w5 ⟨rfl, p5⟩
  clear T1
  obtain ⟨w6, hw6⟩ : ∃ w6, w6 = w5.alloc (.cells #[.int .i64 1, .int .i64 7] 36) := ⟨_, rfl⟩
  have q6 : Pur w5 w6 := by rw [hw6]; exact (Pur.refl w5).alloc _
  have b6 : w6.heap[w5.heap.size]? = some (.cells #[.int .i64 1, .int .i64 7] 36 (0, 0)) := by rw [hw6]; exact bk_new w5 _
  have p26 := p3.trans (q4.trans (p5.trans q6))
  have p06 := (p1.trans q2).trans p26
  have t1 := bk_cell (bk_pur b2 p26) 0 _ rfl
  have CA1 := CA _ w6 (hX.pur p06) (hW.pur p06).tabs (hN2.pur p26)
  clear CA
  go_upto_region 4 with (fail)
  rw [← hw6]
  clear hw6
  go_wp2_with fail
  refine CA1.mono ?_
  rintro e w7 ⟨rfl, p7⟩
  have t2 := bk_cell (bk_pur b2 (p26.trans p7)) 0 _ rfl
  have AA1 := AA _ w7 (hN2.pur (p26.trans p7))
  clear CA1 AA t1
  go_wp2_with fail
  refine AA1.mono ?_
  rintro e w8 ⟨rfl, p8⟩
  have z0 := bk_cell (bk_pur b6 (p7.trans p8)) 0 _ rfl
  have z1 := bk_cell (bk_pur b6 (p7.trans p8)) 1 _ rfl
  have hO : outA.toArray = #[60, 97, 32, 120, 109, 108, 110, 115, 61, 34, 117, 34, 32, 120, 109, 108, 110, 115, 58, 110, 49, 61, 34, 117, 34, 32, 99, 61, 34, 50, 34, 32, 110, 49, 58, 98, 61, 34, 49, 34, 62, 120, 60, 47, 97, 62] := rfl
  rw [hO]
  clear AA1 t2
  go_wp2
  go_ret
  exact ⟨rfl, p06.trans (p7.trans p8)⟩
theorem parse_as {l l' : Bs} {r : Except (Ps × Nat) (List NodeV)} (h : l = l') (hr : parse l' = r) (w : World) (hW : TW w) (hX : XW w) : Calls Tryz.prog 7 #[.string ⟨l.toArray⟩] w fun e w' => Pur w w' ∧ Parsed w.heap.size w' r e := by
  subst h; subst hr; exact parse_any l w hW hX
end Te
end Go.Proofs.YtigfcchblfnnbaaGreatDoor
