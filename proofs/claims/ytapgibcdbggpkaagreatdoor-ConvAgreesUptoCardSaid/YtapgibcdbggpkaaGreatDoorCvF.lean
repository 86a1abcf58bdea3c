/- Layer 9: Number of every plain value; Loose and Less of any two values. Layer 9: the law ConvAgrees, walked. -/
import Derived.Test.YtapgibcdbggpkaaGreatDoorCvE
import Derived.Test.YtapgibcdbggpkaaGreatDoorCvA
import Derived.Test.YtapgibcdbggpkaaGreatDoorSgC
import Derived.Test.YtapgibcdbggpkaaGreatDoorRaB
namespace Go.Proofs.YtapgibcdbggpkaaGreatDoor
open Go Go.RowKit
set_option linter.all false
namespace Cv
open P10
theorem nums1 (l : List UInt8) : ∃ x : Nat, l.length ≤ 200000 → ∀ w, CW w → Calls Tryz.prog 42 #[.string ⟨l.toArray⟩] w fun e w' => e = .returned (.float .f64 x) ∧ Pur w w' := by
  by_cases hl : l.length ≤ 200000
  · obtain ⟨x, hx⟩ := Nm.number_all Hi0 Lo0 t0_fin l hl
    exact ⟨x, fun _ w h => hx w h.k.n⟩
  · exact ⟨0, fun h => absurd h hl⟩
/-- what texts say, as a function -/
def NT (N : List UInt8 → Nat) : Prop := ∀ l : List UInt8, l.length ≤ 200000 → ∀ w, CW w → Calls Tryz.prog 42 #[.string ⟨l.toArray⟩] w fun e w' => e = .returned (.float .f64 (N l)) ∧ Pur w w'
theorem nums : ∃ N, NT N := ⟨fun l => Classical.choose (nums1 l), fun l => Classical.choose_spec (nums1 l)⟩
theorem num_query {w : World} (h : CW w) : Calls Tryz.prog 42 #[.string ⟨(wide8 [63]).toArray⟩] w fun e w' => e = .returned (.float .f64 nanC) ∧ Pur w w' :=
  Nm.number_rest (Hi := Hi0) (Lo := Lo0) (T := T0) (l := wide8 [63]) (s := [63]) (by decide) (by decide +kernel) (by decide) (by decide +kernel) (fun h => absurd h (by decide +kernel)) (fun _ => rfl) h.k.n
set_option maxRecDepth 100000 in
set_option maxHeartbeats 8000000 in
/-- a plain value's number -/
theorem number_any {w : World} {s : Hs} {G : Nat} {N : List UInt8 → Nat} (hN : NT N) (v : Va) (h : HW w s G) (hv : v.wf) (hp : plainV v = true) (hl : v.text.length ≤ 100000) : NC w s v (numP TX N s.d v) := by
  intro w0 h0
  have h := h.pur h0
  clear h0
  have hT := fun (t : List UInt8) (e : text TX s.d v = some t) => text_len (T := TX) (fun x => txt_short h.cw.k.x.big x) e
  have TE := fun w1 (hp : Pur w0 w1) => text_any v (h.pur hp) hv
  have Q := fun w1 (hp : Pur w0 w1) => wide_asc [63] (asc_of _ (by decide)) (by decide) (h.cw.pur hp)
  have QN := fun w1 (hp : Pur w0 w1) => num_query (h.cw.pur hp)
  have NX := fun t ht w1 (hp : Pur w0 w1) => hN t ht w1 (h.cw.pur hp)
  clear h hN hv
  obtain ⟨k, n, t, r⟩ := v
  simp only [Va.v, Va.cells] at TE ⊢
  have P := (Pur.refl w0).alloc (.cells #[.int .i64 k, .float .f64 n, .string ⟨t.toArray⟩, .int .i64 r] 25)
  by_cases k0 : k = 0
  · subst k0
    rw [show numP TX N s.d ⟨0, n, t, r⟩ = nanC from rfl]
    clear TE NX hT
    have Q := Q _ P
    go_enter Tryz.func17, Tryz.ntmps17
    go_wp2_with fail
    refine Q.mono ?_
    rintro e w1 ⟨rfl, h1⟩
    have QN := QN _ (P.trans h1)
    clear Q
    go_wp2_with fail
    refine QN.mono ?_
    rintro e w2 ⟨rfl, h2⟩
    go_wp2
    refine bodyPost_ret (v := .tuple #[.float .f64 nanC, .int .i64 0]) (by simp [results, Tryz.results17, go_sem]) rfl ⟨rfl, (P.trans h1).trans h2⟩
  by_cases k1 : k = 1
  · subst k1
    rw [show numP TX N s.d ⟨1, n, t, r⟩ = 0 from rfl]
    clear TE NX hT Q QN
    go_enter Tryz.func17, Tryz.ntmps17
    go_wp2
    refine bodyPost_ret (v := .tuple #[.float .f64 0, .int .i64 0]) (by simp [results, Tryz.results17, go_sem]) rfl ⟨rfl, P⟩
  by_cases k2 : k = 2
  · subst k2
    rw [show numP TX N s.d ⟨2, n, t, r⟩ = n from rfl]
    clear TE NX hT Q QN
    go_enter Tryz.func17, Tryz.ntmps17
    go_wp2
    refine bodyPost_ret (v := .tuple #[.float .f64 n, .int .i64 0]) (by simp [results, Tryz.results17, go_sem]) rfl ⟨rfl, P⟩
  by_cases k3 : k = 3
  · subst k3
    rw [show numP TX N s.d ⟨3, n, t, r⟩ = n from rfl]
    clear TE NX hT Q QN
    go_enter Tryz.func17, Tryz.ntmps17
    go_wp2
    refine bodyPost_ret (v := .tuple #[.float .f64 n, .int .i64 0]) (by simp [results, Tryz.results17, go_sem]) rfl ⟨rfl, P⟩
  have k5 : k ≠ 5 ∧ k ≠ 6 := by unfold plainV at hp; simpa using hp
  obtain ⟨l, hX⟩ : ∃ l, text TX s.d ⟨k, n, t, r⟩ = some l := by
    unfold text tellV
    simp only
    rw [if_neg k0, if_neg k1, if_neg k2, if_neg k3, if_neg k5.1]
    split <;> exact ⟨_, rfl⟩
  have hll := hT _ hX
  rw [show numP TX N s.d ⟨k, n, t, r⟩ = N l by
    unfold numP number
    simp only
    rw [if_neg k0, if_neg k1, if_neg (by omega), hX]
    rfl]
  rw [hX] at TE
  unfold tv at TE
  simp only [Option.getD_some, Option.isSome_some, if_true] at TE hll hl
  have TE := TE _ P
  have NX := NX l (by omega)
  generalize N l = x at *
  have q0 : (k == 0) = false := beq_eq_false_iff_ne.2 k0
  have q1 : (k == 1) = false := beq_eq_false_iff_ne.2 k1
  have q2 : (k == 2) = false := beq_eq_false_iff_ne.2 k2
  have q3 : (k == 3) = false := beq_eq_false_iff_ne.2 k3
  clear hX hll hT hp hl Q QN k5
  go_enter Tryz.func17, Tryz.ntmps17
  go_wp2_with fail
  refine TE.mono ?_
  rintro e w1 ⟨rfl, h1⟩
  have NX := NX _ (P.trans h1)
  clear TE
  go_wp2_with fail
  refine NX.mono ?_
  rintro e w2 ⟨rfl, h2⟩
  go_wp2
  refine bodyPost_ret (v := .tuple #[.float .f64 x, .int .i64 0]) (by simp [results, Tryz.results17, go_sem]) rfl ⟨rfl, (P.trans h1).trans h2⟩
/-- what stands for an object -/
theorem prim_some {w : World} {s : Hs} {G : Nat} {v x : Va} (h : HW w s G) (hv : v.wf) (hl : v.text.length ≤ 100000) (e : prim TX s.d v = some x) : plainV x = true ∧ x.wf ∧ x.text.length ≤ 100000 := by
  unfold prim at e
  split at e
  · next hp => cases e; exact ⟨hp, hv, hl⟩
  · obtain ⟨t, ht, rfl⟩ := Option.map_eq_some_iff.1 e
    have := text_len (T := TX) (fun x => txt_short h.cw.k.x.big x) ht
    exact ⟨rfl, ⟨show (0 : Nat) < 18446744073709551616 by decide, show t.length ≤ 1000000000 by omega⟩, show t.length ≤ 100000 by omega⟩
theorem less_all {w : World} {s : Hs} {G : Nat} {N : List UInt8 → Nat} (hN : NT N) (a b : Va) (h : HW w s G) (ha : a.wf) (hb : b.wf) (hla : a.text.length ≤ 100000) (hlb : b.text.length ≤ 100000) :
    Calls Tryz.prog 9 #[.pointer (some ⟨s.h, 0, none⟩), a.v, b.v] w fun e w' => e = .returned (ri (lessV TX N s.d a b)) ∧ Pur w w' := by
  have L := less_any a b h ha hb (p := numP TX N s.d ((prim TX s.d a).getD a)) (q := numP TX N s.d ((prim TX s.d b).getD b)) (fun x y hx hy _ => by
    obtain ⟨x1, x2, x3⟩ := prim_some h ha hla hx
    obtain ⟨y1, y2, y3⟩ := prim_some h hb hlb hy
    rw [hx, hy]
    exact ⟨number_any hN x h x2 x1 x3, number_any hN y h y2 y1 y3⟩)
  have e : lessG (prim TX s.d a) (prim TX s.d b) (numP TX N s.d ((prim TX s.d a).getD a)) (numP TX N s.d ((prim TX s.d b).getD b)) = lessV TX N s.d a b := by
    unfold lessG lessV
    cases prim TX s.d a <;> cases prim TX s.d b <;> rfl
  rw [e] at L
  exact L
theorem loose_all {w : World} {s : Hs} {G : Nat} {N : List UInt8 → Nat} (hN : NT N) (a b : Va) (h : HW w s G) (ha : a.wf) (hb : b.wf) (hla : a.text.length ≤ 100000) (hlb : b.text.length ≤ 100000) :
    Calls Tryz.prog 8 #[.pointer (some ⟨s.h, 0, none⟩), a.v, b.v] w fun e w' => e = .returned (rb (looseV TX N s.d a b)) ∧ Pur w w' := by
  have L := loose_any a b h ha hb (p := numP TX N s.d ((prim TX s.d a).getD a)) (q := numP TX N s.d ((prim TX s.d b).getD b)) (fun x y hx hy _ => by
    obtain ⟨x1, x2, x3⟩ := prim_some h ha hla hx
    obtain ⟨y1, y2, y3⟩ := prim_some h hb hlb hy
    rw [hx, hy]
    exact ⟨number_any hN x h x2 x1 x3, number_any hN y h y2 y1 y3⟩)
  have e : looseG a b (prim TX s.d a) (prim TX s.d b) (numP TX N s.d ((prim TX s.d a).getD a)) (numP TX N s.d ((prim TX s.d b).getD b)) = looseV TX N s.d a b := by
    unfold looseG looseM looseV
    cases prim TX s.d a <;> cases prim TX s.d b <;> rfl
  rw [e] at L
  exact L
end Cv
end Go.Proofs.YtapgibcdbggpkaaGreatDoor
namespace Go.Proofs.YtapgibcdbggpkaaGreatDoor
open Go Go.RowKit
set_option linter.all false
namespace Cv
open P10
/-- how two values stand, both ways: loosely, less, strictly -/
theorem agrees_ways (T : Nat → List UInt8) (N : List UInt8 → Nat) (d : Hd) (a b : Va) : ∃ (o : Option Bool) (x y : Option Int) (s : Bool),
    looseV T N d a b = o ∧ looseV T N d b a = o ∧ lessV T N d a b = x ∧ lessV T N d b a = y ∧ strict a b = s ∧ strict b a = s ∧
    ((o = none ∧ s = false) ∨ o = some true ∨ (o = some false ∧ s = false)) ∧
    ((x = none ∧ y = none) ∨ (x = some 1 ∧ y = some 0) ∨ (x = some 0 ∧ y = some 1) ∨ (x = some 0 ∧ y = some 0) ∨ (x = some (-1) ∧ y = some (-1))) := by
  refine ⟨_, _, _, _, rfl, loose_comm T N d b a, rfl, rfl, rfl, strict_comm b a, ?_, ?_⟩
  · cases hs : strict a b with
    | true => exact .inr (.inl (loose_strict T N d a b hs))
    | false =>
      cases looseV T N d a b with
      | none => exact .inl ⟨rfl, rfl⟩
      | some o => cases o with
        | true => exact .inr (.inl rfl)
        | false => exact .inr (.inr ⟨rfl, rfl⟩)
  · cases hx : lessV T N d a b with
    | none => exact .inl ⟨rfl, (less_none T N d a b).1 hx⟩
    | some n =>
      cases hy : lessV T N d b a with
      | none => rw [(less_none T N d a b).2 hy] at hx; cases hx
      | some o =>
        rcases less_ways T N d a b n o hx hy with ⟨rfl, rfl⟩ | ⟨rfl, rfl⟩ | ⟨rfl, rfl⟩ | ⟨rfl, rfl⟩
        · exact .inr (.inl ⟨rfl, rfl⟩)
        · exact .inr (.inr (.inl ⟨rfl, rfl⟩))
        · exact .inr (.inr (.inr (.inl ⟨rfl, rfl⟩)))
        · exact .inr (.inr (.inr (.inr ⟨rfl, rfl⟩)))
set_option maxRecDepth 100000 in
set_option maxHeartbeats 64000000 in
theorem agrees_law (v : Value) (cs : List Sp) (a b : Va) (w : World) (ha : a.wf) (hb : b.wf) (hW : CW w) (h : LRead 3 Sp.cells w v cs) (hf : ∀ c ∈ cs, SFine w c) (hn : cs.length ≤ 1000000000) :
    Calls Tryz.prog 3 #[v, a.v, b.v] w fun e w' => e = .returned (.bool true) ∧ Pur w w' := by
  obtain ⟨N, hN⟩ := nums
  have AW := fun w' (hp : Pur w w') => awake_any (hW.pur hp)
  have HE := fun w' (hp : Pur w w') => heaps_any v cs w' (hW.pur hp) (h.pur hp) (fun c hc => (hf c hc).pur hp) hn
  have BG := fun w' (hp : Pur w w') => big_any v cs a b w' (h.pur hp) (fun c hc => (hf c hc).pur hp) hn ha hb
  have RA := fun r w' => rright_all r a ha w'
  have RB := fun r w' => rright_all r b hb w'
  have TB := two_blocks w a b
  have hbig : bigB cs a b = false → a.text.length ≤ 100000 ∧ b.text.length ≤ 100000 := fun e => by
    unfold bigB at e
    have := of_decide_eq_false e
    omega
  have LA := fun {w' : World} {s : Hs} {G : Nat} (H : HW w' s G) (h1 : a.text.length ≤ 100000) (h2 : b.text.length ≤ 100000) => loose_all hN a b H ha hb h1 h2
  have LB := fun {w' : World} {s : Hs} {G : Nat} (H : HW w' s G) (h1 : a.text.length ≤ 100000) (h2 : b.text.length ≤ 100000) => loose_all hN b a H hb ha h2 h1
  have XA := fun {w' : World} {s : Hs} {G : Nat} (H : HW w' s G) (h1 : a.text.length ≤ 100000) (h2 : b.text.length ≤ 100000) => less_all hN a b H ha hb h1 h2
  have XB := fun {w' : World} {s : Hs} {G : Nat} (H : HW w' s G) (h1 : a.text.length ≤ 100000) (h2 : b.text.length ≤ 100000) => less_all hN b a H hb ha h2 h1
  have SA := fun w' => strict_any a b w'
  have SB := fun w' => strict_any b a w'
  have WAYS := fun d => agrees_ways TX N d a b
  obtain ⟨sa, sc, rfl, -⟩ := h
  obtain ⟨bg, hbg⟩ : ∃ q, bigB cs a b = q := ⟨_, rfl⟩
  rw [hbg] at BG hbig
  clear hbg
  generalize rrA = rA at *
  obtain ⟨k, n, t, r⟩ := a
  obtain ⟨k', n', t', r'⟩ := b
  simp only [Va.v, Va.cells] at *
  go_enter Tryz.func3, Tryz.ntmps3
  go_wp2_with fail
  obtain ⟨PW, Z0, Z1⟩ := TB
  have NW : (w.alloc (.cells #[.int .i64 k, .float .f64 n, .string ⟨t.toArray⟩, .int .i64 r] 25)).heap.size = w.heap.size + 1 := Array.size_push _
  generalize (w.alloc (.cells #[.int .i64 k, .float .f64 n, .string ⟨t.toArray⟩, .int .i64 r] 25)).alloc (.cells #[.int .i64 k', .float .f64 n', .string ⟨t'.toArray⟩, .int .i64 r'] 25) = W at *
  try rw [NW]
  refine (AW _ PW).mono ?_
  rintro e w1 ⟨rfl, h1⟩
  have CF : ∀ w', Pur W w' → (w'.cell? ⟨w.heap.size, 0, none⟩ = some (.int .i64 k) ∧ w'.cell? ⟨w.heap.size, 1, none⟩ = some (.float .f64 n) ∧ w'.cell? ⟨w.heap.size, 2, none⟩ = some (.string ⟨t.toArray⟩) ∧ w'.cell? ⟨w.heap.size, 3, none⟩ = some (.int .i64 r)) ∧ (w'.cell? ⟨w.heap.size + 1, 0, none⟩ = some (.int .i64 k') ∧ w'.cell? ⟨w.heap.size + 1, 1, none⟩ = some (.float .f64 n') ∧ w'.cell? ⟨w.heap.size + 1, 2, none⟩ = some (.string ⟨t'.toArray⟩) ∧ w'.cell? ⟨w.heap.size + 1, 3, none⟩ = some (.int .i64 r')) := fun w' hp =>
    have E0 := bk_pur Z0 hp
    have E1 := bk_pur Z1 hp
    ⟨⟨bk_cell E0 0 _ rfl, bk_cell E0 1 _ rfl, bk_cell E0 2 _ rfl, bk_cell E0 3 _ rfl⟩, bk_cell E1 0 _ rfl, bk_cell E1 1 _ rfl, bk_cell E1 2 _ rfl, bk_cell E1 3 _ rfl⟩
  have HE1 := HE _ (PW.trans h1)
  have hW1 := hW.pur (PW.trans h1)
  clear HE AW Z0 Z1 hW
  go_wp2_with fail
  refine HE1.mono ?_
  rintro e w2 ⟨hh, g, d, rfl, hT⟩
  have p2 := h1.trans hT.below
  obtain ⟨rf, H1, rfl, -, -, A2⟩ := hT.ex
  obtain ⟨s, HS, rfl, rfl⟩ := At.hw A2 hW1 hT.wf
  have RA1 := RA rf w2 H1
  have RB1 := fun w' (hp : Pur w2 w') => RB rf w' (H1.pur hp)
  have BG1 := fun w' (hp : Pur w2 w') => BG w' ((PW.trans p2).trans hp)
  obtain ⟨⟨c0, c1, c2, c3⟩, c4, c5, c6, c7⟩ := CF _ p2
  generalize rA rf ⟨k, n, t, r⟩ = qa at *
  generalize rA rf ⟨k', n', t', r'⟩ = qb at *
  clear HE1 RA RB BG hT A2 H1
  cases qa with
  | false =>
    clear RB1 BG1 LA LB XA XB SA SB WAYS
    go_wp2_with fail
    refine RA1.mono ?_
    rintro e w3 ⟨rfl, p3⟩
    go_wp2
    go_ret
    exact ⟨rfl, PW.trans (p2.trans p3)⟩
  | true =>
  go_wp2_with fail
  refine RA1.mono ?_
  rintro e w3 ⟨rfl, p3⟩
  clear c0 c1 c2 c3 c4 c5 c6 c7 RA1
  obtain ⟨⟨c0, c1, c2, c3⟩, c4, c5, c6, c7⟩ := CF _ (p2.trans p3)
  have RB2 := RB1 _ p3
  clear RB1
  cases qb with
  | false =>
    clear BG1 LA LB XA XB SA SB WAYS
    go_wp2_with fail
    refine RB2.mono ?_
    rintro e w4 ⟨rfl, p4⟩
    go_wp2
    go_ret
    exact ⟨rfl, PW.trans (p2.trans (p3.trans p4))⟩
  | true =>
  go_wp2_with fail
  refine RB2.mono ?_
  rintro e w4 ⟨rfl, p4⟩
  clear c0 c1 c2 c3 c4 c5 c6 c7 RB2
  obtain ⟨⟨c0, c1, c2, c3⟩, c4, c5, c6, c7⟩ := CF _ (p2.trans (p3.trans p4))
  have BG2 := BG1 _ (p3.trans p4)
  clear BG1
  go_wp2_with fail
  refine BG2.mono ?_
  rintro e w5 ⟨rfl, p5⟩
  clear c0 c1 c2 c3 c4 c5 c6 c7 BG2
  have p25 := p3.trans (p4.trans p5)
  cases bg with
  | true =>
    clear LA LB XA XB SA SB WAYS
    go_wp2
    go_ret
    exact ⟨rfl, PW.trans (p2.trans p25)⟩
  | false =>
  obtain ⟨l1, l2⟩ := hbig rfl
  obtain ⟨⟨c0, c1, c2, c3⟩, c4, c5, c6, c7⟩ := CF _ (p2.trans p25)
  have LA1 := fun w' (hp : Pur w2 w') => LA (HS.pur hp) l1 l2
  have LB1 := fun w' (hp : Pur w2 w') => LB (HS.pur hp) l1 l2
  have XA1 := fun w' (hp : Pur w2 w') => XA (HS.pur hp) l1 l2
  have XB1 := fun w' (hp : Pur w2 w') => XB (HS.pur hp) l1 l2
  obtain ⟨o, x, y, st, e1, e2, e3, e4, e5, e6, hos, hxy⟩ := WAYS s.d
  rw [e1] at LA1
  rw [e2] at LB1
  rw [e3] at XA1
  rw [e4] at XB1
  rw [e5] at SA
  rw [e6] at SB
  have PP := PW.trans p2
  have CF := fun w' (hp : Pur w2 w') => CF w' (p2.trans hp)
  clear LA LB XA XB WAYS e1 e2 e3 e4 e5 e6 HS hN hbig hW1 PW p2 h1 p3 p4 p5 l1 l2 hf ha hb NW
  have hcases : (o = none ∧ st = false) ∨ (o = some true ∧ st = true) ∨ (o = some true ∧ st = false) ∨ (o = some false ∧ st = false) := by
    rcases hos with h | h | h
    · exact .inl h
    · cases st with
      | true => exact .inr (.inl ⟨h, rfl⟩)
      | false => exact .inr (.inr (.inl ⟨h, rfl⟩))
    · exact .inr (.inr (.inr h))
  clear hos
  rcases hcases with ⟨rfl, rfl⟩ | ⟨rfl, rfl⟩ | ⟨rfl, rfl⟩ | ⟨rfl, rfl⟩ <;> rcases hxy with ⟨rfl, rfl⟩ | ⟨rfl, rfl⟩ | ⟨rfl, rfl⟩ | ⟨rfl, rfl⟩ | ⟨rfl, rfl⟩
  all_goals
    simp only [rb, ri, Option.getD_some, Option.getD_none, Option.isSome_some, Option.isSome_none, if_true, Bool.false_eq_true, if_false] at LA1 LB1 XA1 XB1
    go_wp2_with fail
    refine (LA1 _ p25).mono ?_
    rintro e w6 ⟨rfl, p6⟩
    have q6 := p25.trans p6
    clear c0 c1 c2 c3 c4 c5 c6 c7 LA1 p6
    obtain ⟨⟨c0, c1, c2, c3⟩, c4, c5, c6, c7⟩ := CF _ q6
    go_wp2_with fail
    refine (LB1 _ q6).mono ?_
    rintro e w7 ⟨rfl, p7⟩
    have q7 := q6.trans p7
    clear c0 c1 c2 c3 c4 c5 c6 c7 LB1 p7
    obtain ⟨⟨c0, c1, c2, c3⟩, c4, c5, c6, c7⟩ := CF _ q7
    go_wp2_with fail
    refine (XA1 _ q7).mono ?_
    rintro e w8 ⟨rfl, p8⟩
    have q8 := q7.trans p8
    clear c0 c1 c2 c3 c4 c5 c6 c7 XA1 p8
    obtain ⟨⟨c0, c1, c2, c3⟩, c4, c5, c6, c7⟩ := CF _ q8
    go_wp2_with fail
    refine (XB1 _ q8).mono ?_
    rintro e w9 ⟨rfl, p9⟩
    have q9 := q8.trans p9
    clear c0 c1 c2 c3 c4 c5 c6 c7 XB1 p9
    obtain ⟨⟨c0, c1, c2, c3⟩, c4, c5, c6, c7⟩ := CF _ q9
    go_wp2_with fail
    refine (SA _).mono ?_
    rintro e w10 ⟨rfl, p10⟩
    have q10 := q9.trans p10
    clear c0 c1 c2 c3 c4 c5 c6 c7 SA p10
    obtain ⟨⟨c0, c1, c2, c3⟩, c4, c5, c6, c7⟩ := CF _ q10
    go_wp2_with fail
    refine (SB _).mono ?_
    rintro e w11 ⟨rfl, p11⟩
    have q11 := PP.trans (q10.trans p11)
    clear c0 c1 c2 c3 c4 c5 c6 c7 SB CF p11
    go_wp2
    go_ret
    exact ⟨rfl, q11⟩
end Cv
end Go.Proofs.YtapgibcdbggpkaaGreatDoor
