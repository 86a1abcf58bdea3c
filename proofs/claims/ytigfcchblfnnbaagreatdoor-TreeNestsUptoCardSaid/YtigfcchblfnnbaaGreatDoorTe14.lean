/- Layer 3: an element begins. -/
import Derived.Test.YtigfcchblfnnbaaGreatDoorTeD
import Derived.Test.YtigfcchblfnnbaaGreatDoorTbE
namespace Go.Proofs.YtigfcchblfnnbaaGreatDoor
open Go Go.RowKit
set_option linter.all false
namespace Te
open Tk (AttrV TokV mem_own ARead append_new)
theorem tag_expand {t : TokV} {s s' : Sc} {x : Bs × Bs} {l : List ExV} (h : tagOf t s = .ok (s', x, l)) : expand s' t.nm true = .ok x := by
  unfold tagOf at h
  split at h
  · cases h
  split at h
  · cases h
  rename_i s1 _
  rcases he : expand s1 t.nm true with e | y
  · rw [he] at h; cases h
  rw [he] at h
  dsimp only at h
  split at h
  · cases h
  split at h
  · cases h
  cases h
  exact he
def goOn (b : Bd) (t : TokV) (r : Except (Ps × Nat) (Sc × (Bs × Bs) × List ExV)) : Except (Ps × Nat) Bd := match r with
  | .error e => .error e
  | .ok (s, x, l) => .ok ⟨b.nodes ++ [⟨x.1, x.2, l, [], b.parent, t.at_⟩], if t.empty then b.stack else b.stack ++ [⟨b.nodes.length, t.nm, s, t.at_⟩], true⟩
theorem start_eq {b : Bd} {t : TokV} (h1 : ¬ (b.stack = [] ∧ b.begun = true)) (h2 : ¬ 32 ≤ b.stack.length) (h3 : ¬ 2048 ≤ b.nodes.length) : start b t = goOn b t (tagOf t b.scope) := by
  unfold start goOn; rw [if_neg h1, if_neg h2, if_neg h3]
  rcases tagOf t b.scope with e | ⟨s, x, l⟩ <;> rfl
theorem set7 {w : World} {g : Nat} {T : TypeId} {z0 z1 z2 z3 z4 z5 z6 : Value} (h : w.heap[g]? = some (.cells #[z0, z1, z2, z3, z4, z5, z6] T (0, 0))) (v0 v1 v2 v3 v4 v5 v6 : Value) :
    (((((((w.setCell ⟨g, 0, none⟩ v0).setCell ⟨g, 1, none⟩ v1).setCell ⟨g, 2, none⟩ v2).setCell ⟨g, 3, none⟩ v3).setCell ⟨g, 4, none⟩ v4).setCell ⟨g, 5, none⟩ v5).setCell ⟨g, 6, none⟩ v6).heap[g]? = some (.cells #[v0, v1, v2, v3, v4, v5, v6] T (0, 0)) := by
  have := bk_set (bk_set (bk_set (bk_set (bk_set (bk_set (bk_set h 0 v0) 1 v1) 2 v2) 3 v3) 4 v4) 5 v5) 6 v6
  simpa using this
theorem node_info : (Tryz.prog.info? 38).map (fun i => (i.zero.map (·.cells.size), i.size, i.bytes)) = some (some 7, 7, 96) := by kernel_rfl
theorem opn_info : (Tryz.prog.info? 65).map (fun i => (i.zero.map (·.cells.size), i.size, i.bytes)) = some (some 5, 5, 48) := by kernel_rfl
set_option maxRecDepth 100000 in
set_option maxHeartbeats 16000000 in
theorem start_root {w : World} {B : Nat} {p : Pl} {b : Bd} (h : At w B p b) (hW : XW w)
    (hB : B ≤ w.heap.size) (hls : b.stack.length ≤ 1000000) (hln : b.nodes.length ≤ 1000000) (t : TokV) (av : Value) (hn : t.nm.length ≤ 1000000000) (hla : t.attrs.length ≤ 1000000) (hlan : ∀ a ∈ t.attrs, a.nm.length ≤ 1000000000) (ha : ARead w av t.attrs)
    (h1 : b.stack = []) (h2 : b.begun = false) (h3 : ¬ 2048 ≤ b.nodes.length) : Calls Tryz.prog 29 #[.pointer (some ⟨p.g, 0, none⟩), tokV t av] w (Tks B p w (start b t)) := by
  obtain ⟨kd, nm, A, tx, ⟨tl, tc⟩, em⟩ := t
  unfold tokV
  dsimp only at *
  obtain ⟨aa, ac, rfl, _⟩ := id ha
  have hsc : b.scope = [(tXml, xmlS)] := by simp [Bd.scope, h1]
  have hne : ¬ (b.stack = [] ∧ b.begun = true) := by rw [h2]; simp
  have hst : ¬ 32 ≤ b.stack.length := by rw [h1]; simp
  have hE := start_eq (t := ⟨kd, nm, A, tx, (tl, tc), em⟩) hne hst h3
  rw [hE]
  obtain ⟨r, hr⟩ : ∃ r, tagOf ⟨kd, nm, A, tx, (tl, tc), em⟩ b.scope = r := ⟨_, rfl⟩
  rw [hr]
  obtain ⟨w0, hw0⟩ : ∃ w0, w0 = w.alloc (.cells #[.int .i64 (kd : Int), .string ⟨nm.toArray⟩, .slice aa A.length ac, .string ⟨tx.toArray⟩, .int .i64 (tl : Int), .int .i64 (tc : Int), .bool em] 60) := ⟨_, rfl⟩
  have hb0 : w0.heap[w.heap.size]? = some (.cells #[.int .i64 (kd : Int), .string ⟨nm.toArray⟩, .slice aa A.length ac, .string ⟨tx.toArray⟩, .int .i64 (tl : Int), .int .i64 (tc : Int), .bool em] 60 (0, 0)) := by rw [hw0]; exact bk_new w _
  have hp0 : Pur w w0 := by rw [hw0]; exact (Pur.refl w).alloc _
  have hsz0 : w0.heap.size = w.heap.size + 1 := by rw [hw0]; exact Array.size_push _
  have h0 := h.pur hp0
  have c0 := h0.c0
  have c1 := h0.c1
  have c2 := h0.c2
  obtain ⟨tb, htb⟩ : ∃ tb, w.heap.size = tb := ⟨_, rfl⟩
  obtain ⟨na, nc, hnv⟩ := h.nshape
  rw [hnv] at c0
  have n3 : ¬ (2048 : Int) ≤ b.nodes.length := by omega
  have AT := fun (sv : Value) W (hp : Pur w W) (hs : ScRead W sv b.scope) => attrs_any ⟨kd, nm, A, tx, (tl, tc), em⟩ (.slice aa A.length ac) sv b.scope W (hW.pur hp) (ha.pur hp) hs hla hn hlan
  dsimp only at AT
  rw [hr] at AT
  have HR := Lib.hid hr
  clear hr
  have hsv : ∃ a c, p.sv = .slice a 0 c := by obtain ⟨a, c, e⟩ := h.sshape; exact ⟨a, c, by rw [e, h1]; rfl⟩
  obtain ⟨sa, sc, hsv⟩ := hsv
  rw [hsv] at c1
  rw [h2] at c2
  obtain ⟨w1, hw1⟩ : ∃ w1, w1 = w0.alloc (.cells #[.pointer none, .string ⟨#[120, 109, 108]⟩, .string ⟨#[104, 116, 116, 112, 58, 47, 47, 119, 119, 119, 46, 119, 51, 46, 111, 114, 103, 47, 88, 77, 76, 47, 49, 57, 57, 56, 47, 110, 97, 109, 101, 115, 112, 97, 99, 101]⟩] 121) := ⟨_, rfl⟩
  have hp1 : Pur w0 w1 := by rw [hw1]; exact (Pur.refl w0).alloc _
  have hsr : ScRead w1 (.pointer (some ⟨w0.heap.size, 0, none⟩)) b.scope := by rw [hsc, hw1]; exact ⟨_, _, rfl, bk_new w0 _, rfl⟩
  have hx1 : w1.heap[tb]? = _ := bk_pur (htb ▸ hb0) hp1
  have t0 := bk_cell hx1 0 _ rfl
  have t1 := bk_cell hx1 1 _ rfl
  have t2 := bk_cell hx1 2 _ rfl
  have t3 := bk_cell hx1 3 _ rfl
  have t4 := bk_cell hx1 4 _ rfl
  have t5 := bk_cell hx1 5 _ rfl
  have t6 := bk_cell hx1 6 _ rfl
  have AT1 := AT _ w1 (hp0.trans hp1) hsr
  have HE := Lib.hid hE
  clear hE AT h0 hsr
  rw [htb] at hb0 hsz0
  go_enter Tryz.func29, Tryz.ntmps29
  go_upto_region 1 with (fail)
  rw [← hw0]
  have HW0 := Lib.hid hw0
  clear hw0
  go_upto_region 8 with (fail)
  rw [← hw1]
  have c1 : w1.cell? ⟨p.g, 1, none⟩ = _ := cell_pur c1 hp1
  clear hw1
  go_upto_region 10 with (fail)
  rw [hsz0] at AT1
  have hPS : Pur w w1 := (hp0.trans hp1)
  have hPS1 : tb + 1 ≤ w1.heap.size := by have := hp1.size; omega
  clear HE
  rcases r with q | ⟨s', x, l⟩
  · go_wp2_with fail
    refine AT1.mono ?_
    rintro e w3 ⟨p3, fv, rfl, fb, hfb, rfl, hfc⟩
    go_wp2
    go_ret
    exact ⟨_, rfl, ⟨fb, by have := hPS.size; omega, rfl, hfc⟩, .of_pur (hPS.trans p3)⟩
  · go_wp2_with fail
    refine AT1.mono ?_
    rintro e w3 ⟨p3, pv, ev, rfl, hsr3, hown3⟩
    obtain ⟨po, rfl⟩ := hsr3.ptr
    obtain ⟨ea, ec, rfl⟩ := row_shape hown3
    have EX := expand_any nm true w3 (hW.pur (hPS.trans p3)) hsr3 hn
    have hex := tag_expand HR.out
    dsimp only at hex
    rw [hex] at EX
    simp only [expR] at EX
    have x3 : w3.heap[tb]? = _ := bk_pur hx1 p3
    have t1 := bk_cell x3 1 _ rfl
    clear t0 t2 t3 t4 t5 t6 hex AT1
    go_wp2_with fail
    refine EX.mono ?_
    rintro e w4 ⟨rfl, p4⟩
    have P4 : Pur w w4 := hPS.trans (p3.trans p4)
    have h4 := h.pur P4
    have x4 : w4.heap[tb]? = _ := bk_pur x3 p4
    have hown4 := row_pur hown3 p4
    have hsr4 := hsr3.pur p4
    have hgl : p.g < tb := by have := bk_lt h.own; omega
    obtain ⟨h5, s5⟩ := h4.setb true
    have f2 := h4.f 2
    have c2 := h4.c2
    have C5 : Chg [p.g] w4 (w4.setCell ⟨p.g, 2, none⟩ (.bool true)) := (Chg.refl _ w4).setCell (.inl (by simp)) _
    have hsr5 := hsr4.same (h4.scg 2 (.bool true))
    have hown5 := row_chg hown4 C5 (fun g hg hm => by have q1 := (hown4.lt g hg).1; have q2 := hPS.size; have q3 := List.mem_singleton.1 hm; omega)
    have x5 := bk_chg x4 C5 (by simp; omega)
    clear EX t1 h4 x3 x4 hsr3 hsr4 hown3 hsv h1 h2
    go_upto_region 15 with (fail)
    generalize w4.setCell ⟨p.g, 2, none⟩ (.bool true) = w5 at *
    have HS5 := Lib.hid hsr5
    clear c2 f2 hsr5
    obtain ⟨bp, hbp⟩ : ∃ bp, b.parent = bp := ⟨_, rfl⟩
    have HBP := Lib.hid hbp
    clear hbp
    go_cut [11] from 91 to 98 (fun v wx => ∃ nb : Nat, v = .pointer (some ⟨nb, 0, none⟩) ∧ w5.heap.size ≤ nb ∧ Pur w5 wx ∧ wx.heap[nb]? = some (.cells #[.string ⟨x.1.toArray⟩, .string ⟨x.2.toArray⟩, .slice ea l.length ec, .string ⟨#[]⟩, .int .i64 bp, .int .i64 (tl : Int), .int .i64 (tc : Int)] 38 (0, 0)))
    case first =>
      have PA : ∀ W, Pur w5 W → Calls Tryz.prog 31 #[.pointer (some ⟨p.g, 0, none⟩)] W fun e w' => e = .returned (.int .i64 bp) ∧ Pur W w' := fun W hp => by
        have := parent_any (h5.pur hp) hls
        rwa [show Bd.parent { b with begun := true } = bp from HBP.out] at this
      have pd := (Pur.refl w5).drew
      refine wp_region_until (T := fun w' => w'.cell? ⟨tb, 4, none⟩ = some (.int .i64 (tl : Int)) ∧ w'.cell? ⟨tb, 5, none⟩ = some (.int .i64 (tc : Int)) ∧ Pur w5 w') 9 (by kernel_rfl) ⟨bk_cell (bk_drew x5) 4 _ rfl, bk_cell (bk_drew x5) 5 _ rfl, pd⟩ (fun hT => ?_)
      have HT : ∀ w', Pur w5 w' → w'.cell? ⟨tb, 4, none⟩ = some (.int .i64 (tl : Int)) ∧ w'.cell? ⟨tb, 5, none⟩ = some (.int .i64 (tc : Int)) ∧ Pur w5 w' := fun w' hp => ⟨bk_cell (bk_pur x5 hp) 4 _ rfl, bk_cell (bk_pur x5 hp) 5 _ rfl, hp⟩
      have HT := Lib.hid HT
      refine wpAnyU_take (i := 0) (v := ?vu1) rfl (by kernel_rfl) (by kernel_rfl) (by kernel_rfl) (by kernel_rfl) (by kernel_rfl) (fun _ _ _ h => h) (Or.inl ⟨by rfl, ?hu1⟩) (by assumption) ?ru1
      case hu1 => (intro w9 hSw; (try dsimp only at hSw); go_simp; (try with_reducible rfl))
      simp only [Act.put, List.setIfInBounds_toArray, List.set_cons_zero, List.set_cons_succ]
      refine wpAnyU_take (i := 1) (v := ?vu2) rfl (by kernel_rfl) (by kernel_rfl) (by kernel_rfl) (by kernel_rfl) (by kernel_rfl) (fun _ _ _ h => h) (Or.inl ⟨by rfl, ?hu2⟩) (by assumption) ?ru2
      case hu2 => (intro w9 hSw; (try dsimp only at hSw); go_simp; (try with_reducible rfl))
      simp only [Act.put, List.setIfInBounds_toArray, List.set_cons_zero, List.set_cons_succ]
      refine wpAnyU_take (i := 2) (v := ?vu3) rfl (by kernel_rfl) (by kernel_rfl) (by kernel_rfl) (by kernel_rfl) (by kernel_rfl) (fun _ _ _ h => h) (Or.inl ⟨by rfl, ?hu3⟩) (by assumption) ?ru3
      case hu3 => (intro w9 hSw; (try dsimp only at hSw); go_simp; (try with_reducible rfl))
      simp only [Act.put, List.setIfInBounds_toArray, List.set_cons_zero, List.set_cons_succ]
      refine wpAnyU_take (i := 3) (v := ?vu4) rfl (by kernel_rfl) (by kernel_rfl) (by kernel_rfl) (by kernel_rfl) (by kernel_rfl) (fun _ _ _ h => h) (Or.inl ⟨by rfl, ?hu4⟩) (by assumption) ?ru4
      case hu4 => (intro w9 hSw; (try dsimp only at hSw); go_simp; (try with_reducible rfl))
      simp only [Act.put, List.setIfInBounds_toArray, List.set_cons_zero, List.set_cons_succ]
      refine wpAnyU_take (i := 5) (v := ?vu5) rfl (by kernel_rfl) (by kernel_rfl) (by kernel_rfl) (by kernel_rfl) (by kernel_rfl) (fun _ _ _ h => h) (Or.inl ⟨by rfl, ?hu5⟩) (by assumption) ?ru5
      case hu5 => (intro w9 hSw; (try dsimp only at hSw); go_simp; (try with_reducible rfl))
      simp only [Act.put, List.setIfInBounds_toArray, List.set_cons_zero, List.set_cons_succ]
      refine wpAnyU_take (i := 6) (v := ?vu6) rfl (by kernel_rfl) (by kernel_rfl) (by kernel_rfl) (by kernel_rfl) (by kernel_rfl) (fun _ _ _ h => h) (Or.inl ⟨by rfl, ?hu6⟩) (by assumption) ?ru6
      case hu6 => (intro w9 hSw; (try dsimp only at hSw); go_simp; (try with_reducible rfl))
      simp only [Act.put, List.setIfInBounds_toArray, List.set_cons_zero, List.set_cons_succ]
      refine wpAnyU_two (i := 4) (j := 8) (by kernel_rfl) rfl rfl (fun K hK => ?_) (fun K hK => ?_)
      · go_simp
        refine (PA _ pd).mono ?_
        rintro e w6 ⟨rfl, p6⟩
        have p56 := pd.trans p6
        refine hK.out _ _ ?_ (fun hT => ?_)
        clear hK K
        try simp only [Act.put, List.setIfInBounds_toArray, List.set_cons_zero, List.set_cons_succ]
        · exact HT.out _ p56
        refine wpAnyU_take (i := 7) (v := ?vu7) rfl (by kernel_rfl) (by kernel_rfl) (by kernel_rfl) (by kernel_rfl) (by kernel_rfl) (fun _ _ _ h => h) (Or.inl ⟨by rfl, ?hu7⟩) (by assumption) ?ru7
        case hu7 => (intro w9 hSw; (try dsimp only at hSw); go_simp; (try with_reducible rfl))
        simp only [Act.put, List.setIfInBounds_toArray, List.set_cons_zero, List.set_cons_succ]
        refine wpAnyU_next (i := 8) (by kernel_rfl) rfl (fun K hK => ?_)
        go_simp
        refine hK.out _ _ ?_ (fun hT => ?_)
        clear hK K
        try simp only [Act.put, List.setIfInBounds_toArray, List.set_cons_zero, List.set_cons_succ]
        · exact HT.out _ (p56.alloc _)
        refine wpAnyU_tail 9 (by kernel_rfl) ?_
        simp only [List.drop_succ_cons, List.drop_zero]
        go_wp2
        go_meet
        refine ⟨_, rfl, p56.size, p56.alloc _, bk_new _ _⟩
      · go_simp
        have N : (w5.drew.alloc (.cells #[.string ⟨#[]⟩, .string ⟨#[]⟩, .slice none 0 0, .string ⟨#[]⟩, .int .i64 0, .int .i64 0, .int .i64 0] 38)).heap[w5.heap.size]? = some (.cells #[.string ⟨#[]⟩, .string ⟨#[]⟩, .slice none 0 0, .string ⟨#[]⟩, .int .i64 0, .int .i64 0, .int .i64 0] 38 (0, 0)) := bk_new w5.drew _
        refine hK.out _ _ ?_ (fun hT => ?_)
        clear hK K
        try simp only [Act.put, List.setIfInBounds_toArray, List.set_cons_zero, List.set_cons_succ]
        · exact HT.out _ (pd.alloc _)
        refine wpAnyU_next (i := 4) (by kernel_rfl) rfl (fun K hK => ?_)
        go_simp
        refine (PA _ (pd.alloc _)).mono ?_
        rintro e w6 ⟨rfl, p6⟩
        have p56 := (pd.alloc _).trans p6
        have N6 := bk_pur N p6
        refine hK.out _ _ ?_ (fun hT => ?_)
        clear hK K
        try simp only [Act.put, List.setIfInBounds_toArray, List.set_cons_zero, List.set_cons_succ]
        · exact HT.out _ p56
        refine wpAnyU_next (i := 7) (by kernel_rfl) rfl (fun K hK => ?_)
        go_simp
        refine hK.out _ _ ?_ (fun hT => ?_)
        clear hK K
        try simp only [Act.put, List.setIfInBounds_toArray, List.set_cons_zero, List.set_cons_succ]
        · exact HT.out _ p56
        refine wpAnyU_tail 9 (by kernel_rfl) ?_
        simp only [List.drop_succ_cons, List.drop_zero]
        have z0 := bk_cell N6 0 _ rfl
        have z1 := bk_cell N6 1 _ rfl
        have z2 := bk_cell N6 2 _ rfl
        have z3 := bk_cell N6 3 _ rfl
        have z4 := bk_cell N6 4 _ rfl
        have z5 := bk_cell N6 5 _ rfl
        have z6 := bk_cell N6 6 _ rfl
        have zf := fun i => bk_free N6 i
        go_wp2
        go_meet
        refine ⟨_, rfl, Nat.le_refl _, ?_, set7 N6 _ _ _ _ _ _ _⟩
        have q : ∀ {W : World}, Pur w5 W → ∀ i v, Pur w5 (W.setCell ⟨w5.heap.size, i, none⟩ v) := fun h i v => h.setCell (Nat.le_refl _) v
        exact q (q (q (q (q (q (q p56 _ _) _ _) _ _) _ _) _ _) _ _) _ _
    case rest =>
      obtain ⟨nb, rfl, hnb5, p6, N6⟩ := hcut
      have h6 := h5.pur p6
      have x6 : wc.heap[tb]? = _ := bk_pur x5 p6
      have hown6 := row_pur hown5 p6
      have HS6 := Lib.hid (HS5.out.pur p6)
      have hst6 : Step p w p wc := (((Step.refl p w).pur P4).trans s5).pur p6
      have t6 := bk_cell x6 6 _ rfl
      have hall : ∀ y ∈ p.all, y < tb := fun y hy => by have := h.lt y hy; omega
      have hwz : tb + 1 ≤ wc.heap.size := by have := hPS1; have := p3.size; have := p4.size; have := C5.size; have := p6.size; omega
      have hevb : ∀ g, (Value.slice ea l.length ec).ownBlock = some g → tb < g := fun g hg => by have := (hown6.lt g hg).1; have := hPS1; omega
      have hevl : ∀ g, (Value.slice ea l.length ec).ownBlock = some g → g < wc.heap.size := fun g hg => (hown6.lt g hg).2
      have hnb : tb < nb := by have := hPS1; have := p3.size; have := p4.size; have := C5.size; omega
      have hnbl := bk_lt N6
      have SV6 := row_up hown6 (B' := B) (fun g hg => by have := (hown6.lt g hg).1; omega)
      have PE6 : ∀ y ∈ p.all, y < tb ∨ wc.heap.size ≤ y := fun y hy => .inl (hall y hy)
      clear hown6 hown5 x5 s5 p6 hnb5 HS5
      rcases em with _ | _
      · have g0 := h6.c0
        have g1 := h6.c1
        obtain ⟨va, vc, hva⟩ := h6.nshape
        obtain ⟨ua, uc, hua⟩ := h6.sshape
        have hsrow := h6.stk.row
        dsimp only at hva hua hsrow g0 g1
        rw [hva] at g0
        rw [hua] at g1 hsrow
        have qd := (Pur.refl wc).drew
        have QT : ∀ w', Pur wc w' → w'.cell? ⟨p.g, 1, none⟩ = some (.slice ua b.stack.length uc) ∧ w'.cell? ⟨p.g, 0, none⟩ = some (.slice va b.nodes.length vc) ∧ w'.cell? ⟨tb, 1, none⟩ = some (.string ⟨nm.toArray⟩) ∧ w'.cell? ⟨tb, 4, none⟩ = some (.int .i64 (tl : Int)) ∧ w'.cell? ⟨tb, 5, none⟩ = some (.int .i64 (tc : Int)) := fun w' hp =>
          ⟨cell_pur g1 hp, cell_pur g0 hp, bk_cell (bk_pur x6 hp) 1 _ rfl, bk_cell (bk_pur x6 hp) 4 _ rfl, bk_cell (bk_pur x6 hp) 5 _ rfl⟩
        have QT0 := QT _ qd
        have QT := Lib.hid QT
        obtain ⟨i5, hi5, hz5⟩ := Option.map_eq_some_iff.1 opn_info
        simp only [Prod.mk.injEq] at hz5
        obtain ⟨hzz, hzs5, hzb5⟩ := hz5
        obtain ⟨y5, hy5, hys5⟩ := Option.map_eq_some_iff.1 hzz
        have HZ5 := Lib.hid (And.intro hi5 (And.intro hy5 (And.intro hzs5 (And.intro hzb5 hys5))))
        clear hi5 hy5 hzs5 hzb5 hys5 hzz
        clear g0 g1
        go_upto_region 17 with (fail)
        refine wp_region_until (T := fun w' => w'.cell? ⟨p.g, 1, none⟩ = some (.slice ua b.stack.length uc) ∧ w'.cell? ⟨p.g, 0, none⟩ = some (.slice va b.nodes.length vc) ∧ w'.cell? ⟨tb, 1, none⟩ = some (.string ⟨nm.toArray⟩) ∧ w'.cell? ⟨tb, 4, none⟩ = some (.int .i64 (tl : Int)) ∧ w'.cell? ⟨tb, 5, none⟩ = some (.int .i64 (tc : Int))) 19 (by kernel_rfl) QT0 (fun hT => ?_)
        clear QT0
        refine wpAnyU_take (i := 0) (v := ?vu8) rfl (by kernel_rfl) (by kernel_rfl) (by kernel_rfl) (by kernel_rfl) (by kernel_rfl) (fun _ _ _ h => h) (Or.inl ⟨by rfl, ?hu8⟩) (by assumption) ?ru8
        case hu8 => (intro w9 hSw; (try dsimp only at hSw); go_simp; (try with_reducible rfl))
        simp only [Act.put, List.setIfInBounds_toArray, List.set_cons_zero, List.set_cons_succ]
        refine wpAnyU_take (i := 1) (v := ?vu9) rfl (by kernel_rfl) (by kernel_rfl) (by kernel_rfl) (by kernel_rfl) (by kernel_rfl) (fun _ _ _ h => h) (Or.inl ⟨by rfl, ?hu9⟩) (by assumption) ?ru9
        case hu9 => (intro w9 hSw; (try dsimp only at hSw); go_simp; (try with_reducible rfl))
        simp only [Act.put, List.setIfInBounds_toArray, List.set_cons_zero, List.set_cons_succ]
        refine wpAnyU_take (i := 2) (v := ?vu10) rfl (by kernel_rfl) (by kernel_rfl) (by kernel_rfl) (by kernel_rfl) (by kernel_rfl) (fun _ _ _ h => h) (Or.inl ⟨by rfl, ?hu10⟩) (by assumption) ?ru10
        case hu10 => (intro w9 hSw; (try dsimp only at hSw); go_simp; (try with_reducible rfl))
        simp only [Act.put, List.setIfInBounds_toArray, List.set_cons_zero, List.set_cons_succ]
        refine wpAnyU_take (i := 3) (v := ?vu11) rfl (by kernel_rfl) (by kernel_rfl) (by kernel_rfl) (by kernel_rfl) (by kernel_rfl) (fun _ _ _ h => h) (Or.inl ⟨by rfl, ?hu11⟩) (by assumption) ?ru11
        case hu11 => (intro w9 hSw; (try dsimp only at hSw); go_simp; (try with_reducible rfl))
        simp only [Act.put, List.setIfInBounds_toArray, List.set_cons_zero, List.set_cons_succ]
        refine wpAnyU_take (i := 4) (v := ?vu12) rfl (by kernel_rfl) (by kernel_rfl) (by kernel_rfl) (by kernel_rfl) (by kernel_rfl) (fun _ _ _ h => h) (Or.inl ⟨by rfl, ?hu12⟩) (by assumption) ?ru12
        case hu12 => (intro w9 hSw; (try dsimp only at hSw); go_simp; (try with_reducible rfl))
        simp only [Act.put, List.setIfInBounds_toArray, List.set_cons_zero, List.set_cons_succ]
        refine wpAnyU_take (i := 5) (v := ?vu13) rfl (by kernel_rfl) (by kernel_rfl) (by kernel_rfl) (by kernel_rfl) (by kernel_rfl) (fun _ _ _ h => h) (Or.inl ⟨by rfl, ?hu13⟩) (by assumption) ?ru13
        case hu13 => (intro w9 hSw; (try dsimp only at hSw); go_simp; (try with_reducible rfl))
        simp only [Act.put, List.setIfInBounds_toArray, List.set_cons_zero, List.set_cons_succ]
        refine wpAnyU_take (i := 6) (v := ?vu14) rfl (by kernel_rfl) (by kernel_rfl) (by kernel_rfl) (by kernel_rfl) (by kernel_rfl) (fun _ _ _ h => h) (Or.inl ⟨by rfl, ?hu14⟩) (by assumption) ?ru14
        case hu14 => (intro w9 hSw; (try dsimp only at hSw); go_simp; (try with_reducible rfl))
        simp only [Act.put, List.setIfInBounds_toArray, List.set_cons_zero, List.set_cons_succ]
        refine wpAnyU_take (i := 7) (v := ?vu15) rfl (by kernel_rfl) (by kernel_rfl) (by kernel_rfl) (by kernel_rfl) (by kernel_rfl) (fun _ _ _ h => h) (Or.inl ⟨by rfl, ?hu15⟩) (by assumption) ?ru15
        case hu15 => (intro w9 hSw; (try dsimp only at hSw); go_simp; (try with_reducible rfl))
        simp only [Act.put, List.setIfInBounds_toArray, List.set_cons_zero, List.set_cons_succ]
        refine wpAnyU_take (i := 8) (v := ?vu16) rfl (by kernel_rfl) (by kernel_rfl) (by kernel_rfl) (by kernel_rfl) (by kernel_rfl) (fun _ _ _ h => h) (Or.inl ⟨by rfl, ?hu16⟩) (by assumption) ?ru16
        case hu16 => (intro w9 hSw; (try dsimp only at hSw); go_simp; (try with_reducible rfl))
        simp only [Act.put, List.setIfInBounds_toArray, List.set_cons_zero, List.set_cons_succ]
        refine wpAnyU_take (i := 9) (v := ?vu17) rfl (by kernel_rfl) (by kernel_rfl) (by kernel_rfl) (by kernel_rfl) (by kernel_rfl) (fun _ _ _ h => h) (Or.inl ⟨by rfl, ?hu17⟩) (by assumption) ?ru17
        case hu17 => (intro w9 hSw; (try dsimp only at hSw); go_simp; (try with_reducible rfl))
        simp only [Act.put, List.setIfInBounds_toArray, List.set_cons_zero, List.set_cons_succ]
        refine wpAnyU_take (i := 10) (v := ?vu18) rfl (by kernel_rfl) (by kernel_rfl) (by kernel_rfl) (by kernel_rfl) (by kernel_rfl) (fun _ _ _ h => h) (Or.inl ⟨by rfl, ?hu18⟩) (by assumption) ?ru18
        case hu18 => (intro w9 hSw; (try dsimp only at hSw); go_simp; (try with_reducible rfl))
        simp only [Act.put, List.setIfInBounds_toArray, List.set_cons_zero, List.set_cons_succ]
        refine wpAnyU_take (i := 11) (v := ?vu19) rfl (by kernel_rfl) (by kernel_rfl) (by kernel_rfl) (by kernel_rfl) (by kernel_rfl) (fun _ _ _ h => h) (Or.inl ⟨by rfl, ?hu19⟩) (by assumption) ?ru19
        case hu19 => (intro w9 hSw; (try dsimp only at hSw); go_simp; (try with_reducible rfl))
        simp only [Act.put, List.setIfInBounds_toArray, List.set_cons_zero, List.set_cons_succ]
        refine wpAnyU_take (i := 12) (v := ?vu20) rfl (by kernel_rfl) (by kernel_rfl) (by kernel_rfl) (by kernel_rfl) (by kernel_rfl) (fun _ _ _ h => h) (Or.inl ⟨by rfl, ?hu20⟩) (by assumption) ?ru20
        case hu20 => (intro w9 hSw; (try dsimp only at hSw); go_simp; (try with_reducible rfl))
        simp only [Act.put, List.setIfInBounds_toArray, List.set_cons_zero, List.set_cons_succ]
        refine wpAnyU_take (i := 13) (v := ?vu21) rfl (by kernel_rfl) (by kernel_rfl) (by kernel_rfl) (by kernel_rfl) (by kernel_rfl) (fun _ _ _ h => h) (Or.inl ⟨by rfl, ?hu21⟩) (by assumption) ?ru21
        case hu21 => (intro w9 hSw; (try dsimp only at hSw); go_simp; (try with_reducible rfl))
        simp only [Act.put, List.setIfInBounds_toArray, List.set_cons_zero, List.set_cons_succ]
        refine wpAnyU_take (i := 14) (v := ?vu22) rfl (by kernel_rfl) (by kernel_rfl) (by kernel_rfl) (by kernel_rfl) (by kernel_rfl) (fun _ _ _ h => h) (Or.inl ⟨by rfl, ?hu22⟩) (by assumption) ?ru22
        case hu22 => (intro w9 hSw; (try dsimp only at hSw); go_simp; (try with_reducible rfl))
        simp only [Act.put, List.setIfInBounds_toArray, List.set_cons_zero, List.set_cons_succ]
        refine wpAnyU_take (i := 15) (v := ?vu23) rfl (by kernel_rfl) (by kernel_rfl) (by kernel_rfl) (by kernel_rfl) (by kernel_rfl) (fun _ _ _ h => h) (Or.inl ⟨by rfl, ?hu23⟩) (by assumption) ?ru23
        case hu23 => (intro w9 hSw; (try dsimp only at hSw); go_simp; (try with_reducible rfl))
        simp only [Act.put, List.setIfInBounds_toArray, List.set_cons_zero, List.set_cons_succ]
        refine wpAnyU_take (i := 16) (v := ?vu24) rfl (by kernel_rfl) (by kernel_rfl) (by kernel_rfl) (by kernel_rfl) (by kernel_rfl) (fun _ _ _ h => h) (Or.inl ⟨by rfl, ?hu24⟩) (by assumption) ?ru24
        case hu24 => (intro w9 hSw; (try dsimp only at hSw); go_simp; (try with_reducible rfl))
        simp only [Act.put, List.setIfInBounds_toArray, List.set_cons_zero, List.set_cons_succ]
        refine wpAnyU_next (i := 17) (by kernel_rfl) rfl (fun K hK => ?_)
        go_simp
        have Y7 : (wc.drew.alloc (.cells #[.int .i64 (b.nodes.length : Int), .string ⟨nm.toArray⟩, .pointer po, .int .i64 (tl : Int), .int .i64 (tc : Int)] 65)).heap[wc.heap.size]? = some (.cells #[.int .i64 (b.nodes.length : Int), .string ⟨nm.toArray⟩, .pointer po, .int .i64 (tl : Int), .int .i64 (tc : Int)] 65 (0, 0)) := bk_new wc.drew _
        refine hK.out _ _ ?_ (fun hT => ?_)
        clear hK K
        try simp only [Act.put, List.setIfInBounds_toArray, List.set_cons_zero, List.set_cons_succ]
        · exact QT.out _ (qd.alloc _)
        refine wpAnyU_next (i := 18) (by kernel_rfl) rfl (fun K hK => ?_)
        refine step_append_lies _ (by rfl) _ _ _ (by rfl) B 65 i5 y5 5 48 Tryz.underlying55 HZ5.out.1 HZ5.out.2.1 HZ5.out.2.2.1 HZ5.out.2.2.2.1 HZ5.out.2.2.2.2 (by omega) (.slice ua b.stack.length uc) b.stack.length (opnCells p.scs b.stack) (by rfl) (row_pur hsrow (qd.alloc _)) ⟨wc.heap.size, 0, none⟩ 1 1 [.int .i64 (b.nodes.length : Int), .string ⟨nm.toArray⟩, .pointer po, .int .i64 (tl : Int), .int .i64 (tc : Int)] (by rfl) (by rfl) (World.news_of_block (cs := #[.int .i64 (b.nodes.length : Int), .string ⟨nm.toArray⟩, .pointer po, .int .i64 (tl : Int), .int .i64 (tc : Int)]) (t := 65) (fr := (0, 0)) Y7) (by intro u hu; simp at hu; rcases hu with rfl | rfl | rfl | rfl | rfl <;> rfl) (by omega) (by unfold maxLen; omega) (by omega) (Nat.le_trans (by omega) (qd.alloc _).size) (wc.heap.size + 1) (by show (wc.drew.alloc _).heap.size = _; exact Array.size_push _) ?_
        intro a8 cap8 w7 hown7 hgrow7 hat7 hlt7
        have hc7 : Chg (Value.slice ua b.stack.length uc).ownBlock.toList wc w7 := ((Chg.refl _ wc).pur (qd.alloc _)).grown hgrow7 (fun b hb => .inl (by simp [hb]))
        have hin : ∀ y, y ∈ (Value.slice ua b.stack.length uc).ownBlock.toList → y ∈ p.rows := fun y hy => List.mem_append_left _ (by rw [hua]; exact hy)
        have hpg7 : p.g ∉ (Value.slice ua b.stack.length uc).ownBlock.toList := fun e => h6.ap.1 (hin _ e)
        have htb7 : tb ∉ (Value.slice ua b.stack.length uc).ownBlock.toList := fun e => by have := hall _ (List.mem_cons_of_mem _ (hin _ e)); omega
        have hnb7 : nb ∉ (Value.slice ua b.stack.length uc).ownBlock.toList := fun e => by have := hall _ (List.mem_cons_of_mem _ (hin _ e)); omega
        have own7 := bk_chg h6.own hc7 hpg7
        have x7 := bk_chg x6 hc7 htb7
        have N7 := bk_chg N6 hc7 hnb7
        have f7 := bk_free own7 1
        have k0 := bk_cell own7 0 _ rfl
        have k7 := bk_cell own7 1 _ rfl
        dsimp only at k0 k7
        rw [hva] at k0
        rw [hua] at k7
        have hsc7 : ScSame wc w7 := ScSame.chg hc7 fun x hx C e => by
          obtain ⟨C', q⟩ := own_type hsrow (mem_own.1 hx)
          rw [q] at e; simp at e
        have hsl : p.scs.length = b.stack.length := h6.stk.len
        have OR7 : OpnRow w7 B (.slice (some ⟨a8, 0, none⟩) (b.stack.length + 1) cap8) (p.scs ++ [.pointer po]) (b.stack ++ [⟨b.nodes.length, nm, s', (tl, tc)⟩]) := by
          refine ⟨?_, by simp [h6.stk.len], fun j u o hu ho => ?_⟩
          · rw [opnCells_snoc _ _ _ _ h6.stk.len, List.length_append, List.length_singleton]
            exact hown7
          · by_cases hj : j < p.scs.length
            · rw [List.getElem?_append_left hj] at hu
              rw [List.getElem?_append_left (by have := h6.stk.len; omega)] at ho
              exact (h6.stk.sc j u o hu ho).same hsc7
            · have hj' : j = p.scs.length := by
                have := (List.getElem?_eq_some_iff.1 hu).1
                simp at this
                omega
              subst hj'
              rw [List.getElem?_append_right (Nat.le_refl _)] at hu
              rw [List.getElem?_append_right (by have := h6.stk.len; omega), show p.scs.length - b.stack.length = 0 by have := h6.stk.len; omega] at ho
              simp at hu ho
              subst hu ho
              exact HS6.out.same hsc7
        obtain ⟨h8, s8⟩ := h6.sets (by omega) (.slice (some ⟨a8, 0, none⟩) (b.stack.length + 1) cap8) (p.scs ++ [.pointer po]) (b.stack ++ [⟨b.nodes.length, nm, s', (tl, tc)⟩]) (by rw [hua]; exact hc7) OR7 (by
          rcases hat7 with e | e
          · exact .inl (by rw [hua]; exact e.symm)
          · exact .inr ⟨a8, rfl, by omega⟩)
        refine hK.out _ _ ?_ (fun hT => ?_)
        clear hK K
        try simp only [Act.put, List.setIfInBounds_toArray, List.set_cons_zero, List.set_cons_succ]
        · exact ⟨k7, k0, bk_cell x7 1 _ rfl, bk_cell x7 4 _ rfl, bk_cell x7 5 _ rfl⟩
        refine wpAnyU_tail 19 (by kernel_rfl) ?_
        simp only [List.drop_succ_cons, List.drop_zero]
        clear hT QT Y7
        have hst8 := hst6.trans s8
        have N8 := bk_other N7 (a := ⟨p.g, 1, none⟩) (by show nb ≠ p.g; omega) (.slice (some ⟨a8, 0, none⟩) (b.stack.length + 1) cap8)
        have SV8 := row_chg SV6 s8.chg (fun g hg hm => by have q1 := hevb g hg; have q2 := hall g hm; omega)
        have PE8 : ∀ y ∈ (Pl.all { p with sv := .slice (some ⟨a8, 0, none⟩) (b.stack.length + 1) cap8, scs := p.scs ++ [.pointer po] }), y < tb ∨ wc.heap.size ≤ y := fun y hy => (s8.new y hy).elim (fun e => .inl (hall y e)) .inr
        clear hc7 hown7 hgrow7 own7 N7 hat7 hsrow x7 hsc7 OR7 hua hva SV6 PE6 k0
        go_upto_region 18 with (fail)
        generalize w7.setCell ⟨p.g, 1, none⟩ (.slice (some ⟨a8, 0, none⟩) (b.stack.length + 1) cap8) = w8 at *
        clear k7 f7 s8
        have g0 := h8.c0
        obtain ⟨va, vc, hva⟩ := h8.nshape
        have hnrow := h8.nodes.nodes
        dsimp only at hva hnrow g0
        rw [hva] at g0 hnrow
        have qd := (Pur.refl w8).drew
        have QT : ∀ w', Pur w8 w' → w'.cell? ⟨p.g, 0, none⟩ = some (.slice va b.nodes.length vc) ∧ w'.cell? ⟨nb, 0, none⟩ = some (.string ⟨x.1.toArray⟩) ∧ w'.cell? ⟨nb, 1, none⟩ = some (.string ⟨x.2.toArray⟩) ∧ w'.cell? ⟨nb, 2, none⟩ = some (.slice ea l.length ec) ∧ w'.cell? ⟨nb, 3, none⟩ = some (.string ⟨#[]⟩) ∧ w'.cell? ⟨nb, 4, none⟩ = some (.int .i64 bp) ∧ w'.cell? ⟨nb, 5, none⟩ = some (.int .i64 (tl : Int)) ∧ w'.cell? ⟨nb, 6, none⟩ = some (.int .i64 (tc : Int)) := fun w' hp =>
          ⟨cell_pur g0 hp, bk_cell (bk_pur N8 hp) 0 _ rfl, bk_cell (bk_pur N8 hp) 1 _ rfl, bk_cell (bk_pur N8 hp) 2 _ rfl, bk_cell (bk_pur N8 hp) 3 _ rfl, bk_cell (bk_pur N8 hp) 4 _ rfl, bk_cell (bk_pur N8 hp) 5 _ rfl, bk_cell (bk_pur N8 hp) 6 _ rfl⟩
        have QT0 := QT _ qd
        have QT := Lib.hid QT
        obtain ⟨i7, hi7, hz7⟩ := Option.map_eq_some_iff.1 node_info
        simp only [Prod.mk.injEq] at hz7
        obtain ⟨hzz, hzs7, hzb7⟩ := hz7
        obtain ⟨y7, hy7, hys7⟩ := Option.map_eq_some_iff.1 hzz
        have HZ7 := Lib.hid (And.intro hi7 (And.intro hy7 (And.intro hzs7 (And.intro hzb7 hys7))))
        clear hi7 hy7 hzs7 hzb7 hys7 hzz
        clear g0
        refine wp_region_until (T := fun w' => w'.cell? ⟨p.g, 0, none⟩ = some (.slice va b.nodes.length vc) ∧ w'.cell? ⟨nb, 0, none⟩ = some (.string ⟨x.1.toArray⟩) ∧ w'.cell? ⟨nb, 1, none⟩ = some (.string ⟨x.2.toArray⟩) ∧ w'.cell? ⟨nb, 2, none⟩ = some (.slice ea l.length ec) ∧ w'.cell? ⟨nb, 3, none⟩ = some (.string ⟨#[]⟩) ∧ w'.cell? ⟨nb, 4, none⟩ = some (.int .i64 bp) ∧ w'.cell? ⟨nb, 5, none⟩ = some (.int .i64 (tl : Int)) ∧ w'.cell? ⟨nb, 6, none⟩ = some (.int .i64 (tc : Int))) 9 (by kernel_rfl) QT0 (fun hT => ?_)
        clear QT0
        refine wpAnyU_take (i := 0) (v := ?vu25) rfl (by kernel_rfl) (by kernel_rfl) (by kernel_rfl) (by kernel_rfl) (by kernel_rfl) (fun _ _ _ h => h) (Or.inl ⟨by rfl, ?hu25⟩) (by assumption) ?ru25
        case hu25 => (intro w9 hSw; (try dsimp only at hSw); go_simp; (try with_reducible rfl))
        simp only [Act.put, List.setIfInBounds_toArray, List.set_cons_zero, List.set_cons_succ]
        refine wpAnyU_take (i := 1) (v := ?vu26) rfl (by kernel_rfl) (by kernel_rfl) (by kernel_rfl) (by kernel_rfl) (by kernel_rfl) (fun _ _ _ h => h) (Or.inl ⟨by rfl, ?hu26⟩) (by assumption) ?ru26
        case hu26 => (intro w9 hSw; (try dsimp only at hSw); go_simp; (try with_reducible rfl))
        simp only [Act.put, List.setIfInBounds_toArray, List.set_cons_zero, List.set_cons_succ]
        refine wpAnyU_take (i := 2) (v := ?vu27) rfl (by kernel_rfl) (by kernel_rfl) (by kernel_rfl) (by kernel_rfl) (by kernel_rfl) (fun _ _ _ h => h) (Or.inl ⟨by rfl, ?hu27⟩) (by assumption) ?ru27
        case hu27 => (intro w9 hSw; (try dsimp only at hSw); go_simp; (try with_reducible rfl))
        simp only [Act.put, List.setIfInBounds_toArray, List.set_cons_zero, List.set_cons_succ]
        refine wpAnyU_take (i := 3) (v := ?vu28) rfl (by kernel_rfl) (by kernel_rfl) (by kernel_rfl) (by kernel_rfl) (by kernel_rfl) (fun _ _ _ h => h) (Or.inl ⟨by rfl, ?hu28⟩) (by assumption) ?ru28
        case hu28 => (intro w9 hSw; (try dsimp only at hSw); go_simp; (try with_reducible rfl))
        simp only [Act.put, List.setIfInBounds_toArray, List.set_cons_zero, List.set_cons_succ]
        refine wpAnyU_take (i := 4) (v := ?vu29) rfl (by kernel_rfl) (by kernel_rfl) (by kernel_rfl) (by kernel_rfl) (by kernel_rfl) (fun _ _ _ h => h) (Or.inl ⟨by rfl, ?hu29⟩) (by assumption) ?ru29
        case hu29 => (intro w9 hSw; (try dsimp only at hSw); go_simp; (try with_reducible rfl))
        simp only [Act.put, List.setIfInBounds_toArray, List.set_cons_zero, List.set_cons_succ]
        refine wpAnyU_take (i := 5) (v := ?vu30) rfl (by kernel_rfl) (by kernel_rfl) (by kernel_rfl) (by kernel_rfl) (by kernel_rfl) (fun _ _ _ h => h) (Or.inl ⟨by rfl, ?hu30⟩) (by assumption) ?ru30
        case hu30 => (intro w9 hSw; (try dsimp only at hSw); go_simp; (try with_reducible rfl))
        simp only [Act.put, List.setIfInBounds_toArray, List.set_cons_zero, List.set_cons_succ]
        refine wpAnyU_take (i := 6) (v := ?vu31) rfl (by kernel_rfl) (by kernel_rfl) (by kernel_rfl) (by kernel_rfl) (by kernel_rfl) (fun _ _ _ h => h) (Or.inl ⟨by rfl, ?hu31⟩) (by assumption) ?ru31
        case hu31 => (intro w9 hSw; (try dsimp only at hSw); go_simp; (try with_reducible rfl))
        simp only [Act.put, List.setIfInBounds_toArray, List.set_cons_zero, List.set_cons_succ]
        refine wpAnyU_next (i := 7) (by kernel_rfl) rfl (fun K hK => ?_)
        go_simp
        have Y7 : (w8.drew.alloc (.cells #[.string ⟨x.1.toArray⟩, .string ⟨x.2.toArray⟩, .slice ea l.length ec, .string ⟨#[]⟩, .int .i64 bp, .int .i64 (tl : Int), .int .i64 (tc : Int)] 38)).heap[w8.heap.size]? = some (.cells #[.string ⟨x.1.toArray⟩, .string ⟨x.2.toArray⟩, .slice ea l.length ec, .string ⟨#[]⟩, .int .i64 bp, .int .i64 (tl : Int), .int .i64 (tc : Int)] 38 (0, 0)) := bk_new w8.drew _
        refine hK.out _ _ ?_ (fun hT => ?_)
        clear hK K
        try simp only [Act.put, List.setIfInBounds_toArray, List.set_cons_zero, List.set_cons_succ]
        · exact QT.out _ (qd.alloc _)
        refine wpAnyU_next (i := 8) (by kernel_rfl) rfl (fun K hK => ?_)
        refine step_append_lies _ (by rfl) _ _ _ (by rfl) 0 38 i7 y7 7 96 Tryz.underlying27 HZ7.out.1 HZ7.out.2.1 HZ7.out.2.2.1 HZ7.out.2.2.2.1 HZ7.out.2.2.2.2 (by omega) (.slice va b.nodes.length vc) b.nodes.length (nodeCells p.evs b.nodes) (by rfl) (row_pur hnrow (qd.alloc _)) ⟨w8.heap.size, 0, none⟩ 1 1 [.string ⟨x.1.toArray⟩, .string ⟨x.2.toArray⟩, .slice ea l.length ec, .string ⟨#[]⟩, .int .i64 bp, .int .i64 (tl : Int), .int .i64 (tc : Int)] (by rfl) (by rfl) (World.news_of_block (cs := #[.string ⟨x.1.toArray⟩, .string ⟨x.2.toArray⟩, .slice ea l.length ec, .string ⟨#[]⟩, .int .i64 bp, .int .i64 (tl : Int), .int .i64 (tc : Int)]) (t := 38) (fr := (0, 0)) Y7) (by intro u hu; simp at hu; rcases hu with rfl | rfl | rfl | rfl | rfl | rfl | rfl <;> rfl) (by omega) (by unfold maxLen; omega) (by omega) (Nat.zero_le _) (w8.heap.size + 1) (by show (w8.drew.alloc _).heap.size = _; exact Array.size_push _) ?_
        intro g9 cap9 w9 hown9 hgrow9 hat9 hlt9
        have hc9 : Chg (Value.slice va b.nodes.length vc).ownBlock.toList w8 w9 := ((Chg.refl _ w8).pur (qd.alloc _)).grown hgrow9 (fun b hb => .inl (by simp [hb]))
        have hpg9 : p.g ∉ (Value.slice va b.nodes.length vc).ownBlock.toList := fun e => h8.ap.1 (List.mem_append_right _ (List.mem_append_left _ (by rw [hva]; exact e)))
        have own9 := bk_chg h8.own hc9 hpg9
        have N9 := bk_chg N8 hc9 (fun e => by have := PE8 nb (List.mem_cons_of_mem _ (List.mem_append_right _ (List.mem_append_left _ (by rw [hva]; exact e)))); omega)
        have f9 := bk_free own9 0
        have k9 := bk_cell own9 0 _ rfl
        dsimp only at k9
        rw [hva] at k9
        obtain ⟨hAt, hChg, hNew⟩ := h8.setn (by have := hst8.chg.size; omega) (.slice (some ⟨g9, 0, none⟩) (b.nodes.length + 1) cap9) (.slice ea l.length ec) ⟨x.1, x.2, l, [], b.parent, (tl, tc)⟩ (by (try dsimp only); rw [hva]; exact hc9) (by
            have q := HBP.out
            dsimp only [NodeV.cells]
            rw [q]
            exact hown9) (by
            rcases hat9 with e | e
            · exact .inl (by (try dsimp only); rw [hva]; exact e.symm)
            · exact .inr ⟨g9, rfl, by omega⟩) (SV8) (fun g hg hm => by
            have q1 := hevb g hg
            have q2 := PE8 g hm
            have q3 := hevl g hg
            omega)
        refine hK.out _ _ ?_ (fun hT => ?_)
        clear hK K
        try simp only [Act.put, List.setIfInBounds_toArray, List.set_cons_zero, List.set_cons_succ]
        · exact ⟨k9, bk_cell N9 0 _ rfl, bk_cell N9 1 _ rfl, bk_cell N9 2 _ rfl, bk_cell N9 3 _ rfl, bk_cell N9 4 _ rfl, bk_cell N9 5 _ rfl, bk_cell N9 6 _ rfl⟩
        refine wpAnyU_tail 9 (by kernel_rfl) ?_
        simp only [List.drop_succ_cons, List.drop_zero]
        clear hT QT Y7 hc9 hown9 hgrow9 own9 N9 hat9 hnrow
        go_wp2
        go_ret
        refine ⟨rfl, _, hAt, ⟨rfl, hst8.chg.next hChg (fun z hz => hst8.new z hz), fun z hz => ?_⟩⟩
        rcases hNew z hz with e | e | e
        · exact hst8.new z e
        · exact .inr (by have := hevb z e; omega)
        · exact .inr (Nat.le_trans hst8.chg.size e)
      · have g0 := h6.c0
        obtain ⟨va, vc, hva⟩ := h6.nshape
        have hnrow := h6.nodes.nodes
        dsimp only at hva hnrow g0
        rw [hva] at g0 hnrow
        have qd := (Pur.refl wc).drew
        have QT : ∀ w', Pur wc w' → w'.cell? ⟨p.g, 0, none⟩ = some (.slice va b.nodes.length vc) ∧ w'.cell? ⟨nb, 0, none⟩ = some (.string ⟨x.1.toArray⟩) ∧ w'.cell? ⟨nb, 1, none⟩ = some (.string ⟨x.2.toArray⟩) ∧ w'.cell? ⟨nb, 2, none⟩ = some (.slice ea l.length ec) ∧ w'.cell? ⟨nb, 3, none⟩ = some (.string ⟨#[]⟩) ∧ w'.cell? ⟨nb, 4, none⟩ = some (.int .i64 bp) ∧ w'.cell? ⟨nb, 5, none⟩ = some (.int .i64 (tl : Int)) ∧ w'.cell? ⟨nb, 6, none⟩ = some (.int .i64 (tc : Int)) := fun w' hp =>
          ⟨cell_pur g0 hp, bk_cell (bk_pur N6 hp) 0 _ rfl, bk_cell (bk_pur N6 hp) 1 _ rfl, bk_cell (bk_pur N6 hp) 2 _ rfl, bk_cell (bk_pur N6 hp) 3 _ rfl, bk_cell (bk_pur N6 hp) 4 _ rfl, bk_cell (bk_pur N6 hp) 5 _ rfl, bk_cell (bk_pur N6 hp) 6 _ rfl⟩
        have QT0 := QT _ qd
        have QT := Lib.hid QT
        obtain ⟨i7, hi7, hz7⟩ := Option.map_eq_some_iff.1 node_info
        simp only [Prod.mk.injEq] at hz7
        obtain ⟨hzz, hzs7, hzb7⟩ := hz7
        obtain ⟨y7, hy7, hys7⟩ := Option.map_eq_some_iff.1 hzz
        have HZ7 := Lib.hid (And.intro hi7 (And.intro hy7 (And.intro hzs7 (And.intro hzb7 hys7))))
        clear hi7 hy7 hzs7 hzb7 hys7 hzz
        clear g0
        go_upto_region 18 with (fail)
        refine wp_region_until (T := fun w' => w'.cell? ⟨p.g, 0, none⟩ = some (.slice va b.nodes.length vc) ∧ w'.cell? ⟨nb, 0, none⟩ = some (.string ⟨x.1.toArray⟩) ∧ w'.cell? ⟨nb, 1, none⟩ = some (.string ⟨x.2.toArray⟩) ∧ w'.cell? ⟨nb, 2, none⟩ = some (.slice ea l.length ec) ∧ w'.cell? ⟨nb, 3, none⟩ = some (.string ⟨#[]⟩) ∧ w'.cell? ⟨nb, 4, none⟩ = some (.int .i64 bp) ∧ w'.cell? ⟨nb, 5, none⟩ = some (.int .i64 (tl : Int)) ∧ w'.cell? ⟨nb, 6, none⟩ = some (.int .i64 (tc : Int))) 9 (by kernel_rfl) QT0 (fun hT => ?_)
        clear QT0
        refine wpAnyU_take (i := 0) (v := ?vu32) rfl (by kernel_rfl) (by kernel_rfl) (by kernel_rfl) (by kernel_rfl) (by kernel_rfl) (fun _ _ _ h => h) (Or.inl ⟨by rfl, ?hu32⟩) (by assumption) ?ru32
        case hu32 => (intro w9 hSw; (try dsimp only at hSw); go_simp; (try with_reducible rfl))
        simp only [Act.put, List.setIfInBounds_toArray, List.set_cons_zero, List.set_cons_succ]
        refine wpAnyU_take (i := 1) (v := ?vu33) rfl (by kernel_rfl) (by kernel_rfl) (by kernel_rfl) (by kernel_rfl) (by kernel_rfl) (fun _ _ _ h => h) (Or.inl ⟨by rfl, ?hu33⟩) (by assumption) ?ru33
        case hu33 => (intro w9 hSw; (try dsimp only at hSw); go_simp; (try with_reducible rfl))
        simp only [Act.put, List.setIfInBounds_toArray, List.set_cons_zero, List.set_cons_succ]
        refine wpAnyU_take (i := 2) (v := ?vu34) rfl (by kernel_rfl) (by kernel_rfl) (by kernel_rfl) (by kernel_rfl) (by kernel_rfl) (fun _ _ _ h => h) (Or.inl ⟨by rfl, ?hu34⟩) (by assumption) ?ru34
        case hu34 => (intro w9 hSw; (try dsimp only at hSw); go_simp; (try with_reducible rfl))
        simp only [Act.put, List.setIfInBounds_toArray, List.set_cons_zero, List.set_cons_succ]
        refine wpAnyU_take (i := 3) (v := ?vu35) rfl (by kernel_rfl) (by kernel_rfl) (by kernel_rfl) (by kernel_rfl) (by kernel_rfl) (fun _ _ _ h => h) (Or.inl ⟨by rfl, ?hu35⟩) (by assumption) ?ru35
        case hu35 => (intro w9 hSw; (try dsimp only at hSw); go_simp; (try with_reducible rfl))
        simp only [Act.put, List.setIfInBounds_toArray, List.set_cons_zero, List.set_cons_succ]
        refine wpAnyU_take (i := 4) (v := ?vu36) rfl (by kernel_rfl) (by kernel_rfl) (by kernel_rfl) (by kernel_rfl) (by kernel_rfl) (fun _ _ _ h => h) (Or.inl ⟨by rfl, ?hu36⟩) (by assumption) ?ru36
        case hu36 => (intro w9 hSw; (try dsimp only at hSw); go_simp; (try with_reducible rfl))
        simp only [Act.put, List.setIfInBounds_toArray, List.set_cons_zero, List.set_cons_succ]
        refine wpAnyU_take (i := 5) (v := ?vu37) rfl (by kernel_rfl) (by kernel_rfl) (by kernel_rfl) (by kernel_rfl) (by kernel_rfl) (fun _ _ _ h => h) (Or.inl ⟨by rfl, ?hu37⟩) (by assumption) ?ru37
        case hu37 => (intro w9 hSw; (try dsimp only at hSw); go_simp; (try with_reducible rfl))
        simp only [Act.put, List.setIfInBounds_toArray, List.set_cons_zero, List.set_cons_succ]
        refine wpAnyU_take (i := 6) (v := ?vu38) rfl (by kernel_rfl) (by kernel_rfl) (by kernel_rfl) (by kernel_rfl) (by kernel_rfl) (fun _ _ _ h => h) (Or.inl ⟨by rfl, ?hu38⟩) (by assumption) ?ru38
        case hu38 => (intro w9 hSw; (try dsimp only at hSw); go_simp; (try with_reducible rfl))
        simp only [Act.put, List.setIfInBounds_toArray, List.set_cons_zero, List.set_cons_succ]
        refine wpAnyU_next (i := 7) (by kernel_rfl) rfl (fun K hK => ?_)
        go_simp
        have Y7 : (wc.drew.alloc (.cells #[.string ⟨x.1.toArray⟩, .string ⟨x.2.toArray⟩, .slice ea l.length ec, .string ⟨#[]⟩, .int .i64 bp, .int .i64 (tl : Int), .int .i64 (tc : Int)] 38)).heap[wc.heap.size]? = some (.cells #[.string ⟨x.1.toArray⟩, .string ⟨x.2.toArray⟩, .slice ea l.length ec, .string ⟨#[]⟩, .int .i64 bp, .int .i64 (tl : Int), .int .i64 (tc : Int)] 38 (0, 0)) := bk_new wc.drew _
        refine hK.out _ _ ?_ (fun hT => ?_)
        clear hK K
        try simp only [Act.put, List.setIfInBounds_toArray, List.set_cons_zero, List.set_cons_succ]
        · exact QT.out _ (qd.alloc _)
        refine wpAnyU_next (i := 8) (by kernel_rfl) rfl (fun K hK => ?_)
        refine step_append_lies _ (by rfl) _ _ _ (by rfl) 0 38 i7 y7 7 96 Tryz.underlying27 HZ7.out.1 HZ7.out.2.1 HZ7.out.2.2.1 HZ7.out.2.2.2.1 HZ7.out.2.2.2.2 (by omega) (.slice va b.nodes.length vc) b.nodes.length (nodeCells p.evs b.nodes) (by rfl) (row_pur hnrow (qd.alloc _)) ⟨wc.heap.size, 0, none⟩ 1 1 [.string ⟨x.1.toArray⟩, .string ⟨x.2.toArray⟩, .slice ea l.length ec, .string ⟨#[]⟩, .int .i64 bp, .int .i64 (tl : Int), .int .i64 (tc : Int)] (by rfl) (by rfl) (World.news_of_block (cs := #[.string ⟨x.1.toArray⟩, .string ⟨x.2.toArray⟩, .slice ea l.length ec, .string ⟨#[]⟩, .int .i64 bp, .int .i64 (tl : Int), .int .i64 (tc : Int)]) (t := 38) (fr := (0, 0)) Y7) (by intro u hu; simp at hu; rcases hu with rfl | rfl | rfl | rfl | rfl | rfl | rfl <;> rfl) (by omega) (by unfold maxLen; omega) (by omega) (Nat.zero_le _) (wc.heap.size + 1) (by show (wc.drew.alloc _).heap.size = _; exact Array.size_push _) ?_
        intro g9 cap9 w9 hown9 hgrow9 hat9 hlt9
        have hc9 : Chg (Value.slice va b.nodes.length vc).ownBlock.toList wc w9 := ((Chg.refl _ wc).pur (qd.alloc _)).grown hgrow9 (fun b hb => .inl (by simp [hb]))
        have hpg9 : p.g ∉ (Value.slice va b.nodes.length vc).ownBlock.toList := fun e => h6.ap.1 (List.mem_append_right _ (List.mem_append_left _ (by rw [hva]; exact e)))
        have own9 := bk_chg h6.own hc9 hpg9
        have N9 := bk_chg N6 hc9 (fun e => by have := PE6 nb (List.mem_cons_of_mem _ (List.mem_append_right _ (List.mem_append_left _ (by rw [hva]; exact e)))); omega)
        have f9 := bk_free own9 0
        have k9 := bk_cell own9 0 _ rfl
        dsimp only at k9
        rw [hva] at k9
        obtain ⟨hAt, hChg, hNew⟩ := h6.setn (by have := hst6.chg.size; omega) (.slice (some ⟨g9, 0, none⟩) (b.nodes.length + 1) cap9) (.slice ea l.length ec) ⟨x.1, x.2, l, [], b.parent, (tl, tc)⟩ (by (try dsimp only); rw [hva]; exact hc9) (by
            have q := HBP.out
            dsimp only [NodeV.cells]
            rw [q]
            exact hown9) (by
            rcases hat9 with e | e
            · exact .inl (by (try dsimp only); rw [hva]; exact e.symm)
            · exact .inr ⟨g9, rfl, by omega⟩) (SV6) (fun g hg hm => by
            have q1 := hevb g hg
            have q2 := PE6 g hm
            have q3 := hevl g hg
            omega)
        refine hK.out _ _ ?_ (fun hT => ?_)
        clear hK K
        try simp only [Act.put, List.setIfInBounds_toArray, List.set_cons_zero, List.set_cons_succ]
        · exact ⟨k9, bk_cell N9 0 _ rfl, bk_cell N9 1 _ rfl, bk_cell N9 2 _ rfl, bk_cell N9 3 _ rfl, bk_cell N9 4 _ rfl, bk_cell N9 5 _ rfl, bk_cell N9 6 _ rfl⟩
        refine wpAnyU_tail 9 (by kernel_rfl) ?_
        simp only [List.drop_succ_cons, List.drop_zero]
        clear hT QT Y7 hc9 hown9 hgrow9 own9 N9 hat9 hnrow
        go_wp2
        go_ret
        refine ⟨rfl, _, hAt, ⟨rfl, hst6.chg.next hChg (fun z hz => hst6.new z hz), fun z hz => ?_⟩⟩
        rcases hNew z hz with e | e | e
        · exact hst6.new z e
        · exact .inr (by have := hevb z e; omega)
        · exact .inr (Nat.le_trans hst6.chg.size e)
set_option maxRecDepth 100000 in
set_option maxHeartbeats 16000000 in
theorem start_in {w : World} {B : Nat} {p : Pl} {b : Bd} (h : At w B p b) (hW : XW w)
    (hB : B ≤ w.heap.size) (hls : b.stack.length ≤ 1000000) (hln : b.nodes.length ≤ 1000000) (t : TokV) (av : Value) (hn : t.nm.length ≤ 1000000000) (hla : t.attrs.length ≤ 1000000) (hlan : ∀ a ∈ t.attrs, a.nm.length ≤ 1000000000) (ha : ARead w av t.attrs)
    (o : Opn) (ho : b.stack.getLast? = some o) (h1 : ¬ 32 ≤ b.stack.length) (h3 : ¬ 2048 ≤ b.nodes.length) : Calls Tryz.prog 29 #[.pointer (some ⟨p.g, 0, none⟩), tokV t av] w (Tks B p w (start b t)) := by
  obtain ⟨kd, nm, A, tx, ⟨tl, tc⟩, em⟩ := t
  unfold tokV
  dsimp only at *
  obtain ⟨aa, ac, rfl, _⟩ := id ha
  have hsc : b.scope = o.sc := by simp [Bd.scope, ho]
  have hne : ¬ (b.stack = [] ∧ b.begun = true) := by rintro ⟨e, _⟩; rw [e] at ho; simp at ho
  have hst := h1
  have hE := start_eq (t := ⟨kd, nm, A, tx, (tl, tc), em⟩) hne hst h3
  rw [hE]
  obtain ⟨r, hr⟩ : ∃ r, tagOf ⟨kd, nm, A, tx, (tl, tc), em⟩ b.scope = r := ⟨_, rfl⟩
  rw [hr]
  obtain ⟨w0, hw0⟩ : ∃ w0, w0 = w.alloc (.cells #[.int .i64 (kd : Int), .string ⟨nm.toArray⟩, .slice aa A.length ac, .string ⟨tx.toArray⟩, .int .i64 (tl : Int), .int .i64 (tc : Int), .bool em] 60) := ⟨_, rfl⟩
  have hb0 : w0.heap[w.heap.size]? = some (.cells #[.int .i64 (kd : Int), .string ⟨nm.toArray⟩, .slice aa A.length ac, .string ⟨tx.toArray⟩, .int .i64 (tl : Int), .int .i64 (tc : Int), .bool em] 60 (0, 0)) := by rw [hw0]; exact bk_new w _
  have hp0 : Pur w w0 := by rw [hw0]; exact (Pur.refl w).alloc _
  have hsz0 : w0.heap.size = w.heap.size + 1 := by rw [hw0]; exact Array.size_push _
  have h0 := h.pur hp0
  have c0 := h0.c0
  have c1 := h0.c1
  have c2 := h0.c2
  obtain ⟨tb, htb⟩ : ∃ tb, w.heap.size = tb := ⟨_, rfl⟩
  obtain ⟨na, nc, hnv⟩ := h.nshape
  rw [hnv] at c0
  have n3 : ¬ (2048 : Int) ≤ b.nodes.length := by omega
  have AT := fun (sv : Value) W (hp : Pur w W) (hs : ScRead W sv b.scope) => attrs_any ⟨kd, nm, A, tx, (tl, tc), em⟩ (.slice aa A.length ac) sv b.scope W (hW.pur hp) (ha.pur hp) hs hla hn hlan
  dsimp only at AT
  rw [hr] at AT
  have HR := Lib.hid hr
  clear hr
  obtain ⟨sg, sc, k, u, hsv, hk, hkc, hcm, hsr0, hgl, k0, k1, k2, k3, k4⟩ := h0.top ho
  rw [hsv] at c1
  obtain ⟨uo, rfl⟩ := hsr0.ptr
  have n1 : ((k : Int) + 1 == 0) = false := by simp; omega
  have n2 : ¬ (32 : Int) ≤ (k : Int) + 1 := by omega
  have n4 : (0 : Int) < (k : Int) + 1 := by omega
  have hkc' : ((k : Int) + 1) ≤ sc := by omega
  have nw : IntKind.i64.wrap (((k + 1 : Nat) : Int) - 1) = (k : Int) := by
    rw [show ((k + 1 : Nat) : Int) - 1 = k by omega]; exact IntWalk.i64_in _ (by omega)
  obtain ⟨w1, hw1⟩ : ∃ w1, w1 = w0.alloc (.cells #[.pointer none, .string ⟨#[120, 109, 108]⟩, .string ⟨#[104, 116, 116, 112, 58, 47, 47, 119, 119, 119, 46, 119, 51, 46, 111, 114, 103, 47, 88, 77, 76, 47, 49, 57, 57, 56, 47, 110, 97, 109, 101, 115, 112, 97, 99, 101]⟩] 121) := ⟨_, rfl⟩
  have hp1 : Pur w0 w1 := by rw [hw1]; exact (Pur.refl w0).alloc _
  have C1 : ∀ x : PW w1, x.to.cell? ⟨p.g, 1, none⟩ = some (.slice (some ⟨sg, 0, none⟩) (k + 1) sc) := fun x => cell_pur c1 (hp1.trans x.pur)
  have K2 : ∀ x : PW w1, x.to.cell? ⟨sg, k * 5 + 2, none⟩ = some (.pointer uo) := fun x => cell_pur k2 (hp1.trans x.pur)
  have HE := Lib.hid hE
  have hx0 : w0.heap[tb]? = _ := htb ▸ hb0
  clear hE h0 k0 k1 k2 k3 k4
  rw [htb] at hb0 hsz0
  go_enter Tryz.func29, Tryz.ntmps29
  go_upto_region 1 with (fail)
  rw [← hw0]
  have HW0 := Lib.hid hw0
  clear hw0
  go_upto_region 8 with (fail)
  rw [← hw1]
  have c1 : w1.cell? ⟨p.g, 1, none⟩ = _ := cell_pur c1 hp1
  clear hw1
  go_upto_region 9 with (fail)
  refine wp_region_pur (by kernel_rfl) (by kernel_rfl) ?_
  repeat (go_big_quiet_step (fail))
  refine wpQuiet_nil ?_
  intro wq hq
  have hx1 : wq.heap[tb]? = _ := bk_pur hx0 (hp1.trans hq)
  have t0 := bk_cell hx1 0 _ rfl
  have t1 := bk_cell hx1 1 _ rfl
  have t2 := bk_cell hx1 2 _ rfl
  have t3 := bk_cell hx1 3 _ rfl
  have t4 := bk_cell hx1 4 _ rfl
  have t5 := bk_cell hx1 5 _ rfl
  have t6 := bk_cell hx1 6 _ rfl
  have AT1 := AT _ wq (hp0.trans (hp1.trans hq)) (by rw [hsc]; exact hsr0.pur (hp1.trans hq))
  clear AT C1 K2 hsr0 c1
  go_upto_region 10 with (fail)
  have hPS : Pur w wq := (hp0.trans (hp1.trans hq))
  have hPS1 : tb + 1 ≤ wq.heap.size := by have := hp1.size; have := hq.size; omega
  clear HE
  rcases r with q | ⟨s', x, l⟩
  · go_wp2_with fail
    refine AT1.mono ?_
    rintro e w3 ⟨p3, fv, rfl, fb, hfb, rfl, hfc⟩
    go_wp2
    go_ret
    exact ⟨_, rfl, ⟨fb, by have := hPS.size; omega, rfl, hfc⟩, .of_pur (hPS.trans p3)⟩
  · go_wp2_with fail
    refine AT1.mono ?_
    rintro e w3 ⟨p3, pv, ev, rfl, hsr3, hown3⟩
    obtain ⟨po, rfl⟩ := hsr3.ptr
    obtain ⟨ea, ec, rfl⟩ := row_shape hown3
    have EX := expand_any nm true w3 (hW.pur (hPS.trans p3)) hsr3 hn
    have hex := tag_expand HR.out
    dsimp only at hex
    rw [hex] at EX
    simp only [expR] at EX
    have x3 : w3.heap[tb]? = _ := bk_pur hx1 p3
    have t1 := bk_cell x3 1 _ rfl
    clear t0 t2 t3 t4 t5 t6 hex AT1
    go_wp2_with fail
    refine EX.mono ?_
    rintro e w4 ⟨rfl, p4⟩
    have P4 : Pur w w4 := hPS.trans (p3.trans p4)
    have h4 := h.pur P4
    have x4 : w4.heap[tb]? = _ := bk_pur x3 p4
    have hown4 := row_pur hown3 p4
    have hsr4 := hsr3.pur p4
    have hgl : p.g < tb := by have := bk_lt h.own; omega
    obtain ⟨h5, s5⟩ := h4.setb true
    have f2 := h4.f 2
    have c2 := h4.c2
    have C5 : Chg [p.g] w4 (w4.setCell ⟨p.g, 2, none⟩ (.bool true)) := (Chg.refl _ w4).setCell (.inl (by simp)) _
    have hsr5 := hsr4.same (h4.scg 2 (.bool true))
    have hown5 := row_chg hown4 C5 (fun g hg hm => by have q1 := (hown4.lt g hg).1; have q2 := hPS.size; have q3 := List.mem_singleton.1 hm; omega)
    have x5 := bk_chg x4 C5 (by simp; omega)
    clear EX t1 h4 x3 x4 hsr3 hsr4 hown3 hsv hk ho hsc hne
    go_upto_region 15 with (fail)
    generalize w4.setCell ⟨p.g, 2, none⟩ (.bool true) = w5 at *
    have HS5 := Lib.hid hsr5
    clear c2 f2 hsr5
    obtain ⟨bp, hbp⟩ : ∃ bp, b.parent = bp := ⟨_, rfl⟩
    have HBP := Lib.hid hbp
    clear hbp
    go_cut [11] from 91 to 98 (fun v wx => ∃ nb : Nat, v = .pointer (some ⟨nb, 0, none⟩) ∧ w5.heap.size ≤ nb ∧ Pur w5 wx ∧ wx.heap[nb]? = some (.cells #[.string ⟨x.1.toArray⟩, .string ⟨x.2.toArray⟩, .slice ea l.length ec, .string ⟨#[]⟩, .int .i64 bp, .int .i64 (tl : Int), .int .i64 (tc : Int)] 38 (0, 0)))
    case first =>
      have PA : ∀ W, Pur w5 W → Calls Tryz.prog 31 #[.pointer (some ⟨p.g, 0, none⟩)] W fun e w' => e = .returned (.int .i64 bp) ∧ Pur W w' := fun W hp => by
        have := parent_any (h5.pur hp) hls
        rwa [show Bd.parent { b with begun := true } = bp from HBP.out] at this
      have pd := (Pur.refl w5).drew
      refine wp_region_until (T := fun w' => w'.cell? ⟨tb, 4, none⟩ = some (.int .i64 (tl : Int)) ∧ w'.cell? ⟨tb, 5, none⟩ = some (.int .i64 (tc : Int)) ∧ Pur w5 w') 9 (by kernel_rfl) ⟨bk_cell (bk_drew x5) 4 _ rfl, bk_cell (bk_drew x5) 5 _ rfl, pd⟩ (fun hT => ?_)
      have HT : ∀ w', Pur w5 w' → w'.cell? ⟨tb, 4, none⟩ = some (.int .i64 (tl : Int)) ∧ w'.cell? ⟨tb, 5, none⟩ = some (.int .i64 (tc : Int)) ∧ Pur w5 w' := fun w' hp => ⟨bk_cell (bk_pur x5 hp) 4 _ rfl, bk_cell (bk_pur x5 hp) 5 _ rfl, hp⟩
      have HT := Lib.hid HT
      refine wpAnyU_take (i := 0) (v := ?vu39) rfl (by kernel_rfl) (by kernel_rfl) (by kernel_rfl) (by kernel_rfl) (by kernel_rfl) (fun _ _ _ h => h) (Or.inl ⟨by rfl, ?hu39⟩) (by assumption) ?ru39
      case hu39 => (intro w9 hSw; (try dsimp only at hSw); go_simp; (try with_reducible rfl))
      simp only [Act.put, List.setIfInBounds_toArray, List.set_cons_zero, List.set_cons_succ]
      refine wpAnyU_take (i := 1) (v := ?vu40) rfl (by kernel_rfl) (by kernel_rfl) (by kernel_rfl) (by kernel_rfl) (by kernel_rfl) (fun _ _ _ h => h) (Or.inl ⟨by rfl, ?hu40⟩) (by assumption) ?ru40
      case hu40 => (intro w9 hSw; (try dsimp only at hSw); go_simp; (try with_reducible rfl))
      simp only [Act.put, List.setIfInBounds_toArray, List.set_cons_zero, List.set_cons_succ]
      refine wpAnyU_take (i := 2) (v := ?vu41) rfl (by kernel_rfl) (by kernel_rfl) (by kernel_rfl) (by kernel_rfl) (by kernel_rfl) (fun _ _ _ h => h) (Or.inl ⟨by rfl, ?hu41⟩) (by assumption) ?ru41
      case hu41 => (intro w9 hSw; (try dsimp only at hSw); go_simp; (try with_reducible rfl))
      simp only [Act.put, List.setIfInBounds_toArray, List.set_cons_zero, List.set_cons_succ]
      refine wpAnyU_take (i := 3) (v := ?vu42) rfl (by kernel_rfl) (by kernel_rfl) (by kernel_rfl) (by kernel_rfl) (by kernel_rfl) (fun _ _ _ h => h) (Or.inl ⟨by rfl, ?hu42⟩) (by assumption) ?ru42
      case hu42 => (intro w9 hSw; (try dsimp only at hSw); go_simp; (try with_reducible rfl))
      simp only [Act.put, List.setIfInBounds_toArray, List.set_cons_zero, List.set_cons_succ]
      refine wpAnyU_take (i := 5) (v := ?vu43) rfl (by kernel_rfl) (by kernel_rfl) (by kernel_rfl) (by kernel_rfl) (by kernel_rfl) (fun _ _ _ h => h) (Or.inl ⟨by rfl, ?hu43⟩) (by assumption) ?ru43
      case hu43 => (intro w9 hSw; (try dsimp only at hSw); go_simp; (try with_reducible rfl))
      simp only [Act.put, List.setIfInBounds_toArray, List.set_cons_zero, List.set_cons_succ]
      refine wpAnyU_take (i := 6) (v := ?vu44) rfl (by kernel_rfl) (by kernel_rfl) (by kernel_rfl) (by kernel_rfl) (by kernel_rfl) (fun _ _ _ h => h) (Or.inl ⟨by rfl, ?hu44⟩) (by assumption) ?ru44
      case hu44 => (intro w9 hSw; (try dsimp only at hSw); go_simp; (try with_reducible rfl))
      simp only [Act.put, List.setIfInBounds_toArray, List.set_cons_zero, List.set_cons_succ]
      refine wpAnyU_two (i := 4) (j := 8) (by kernel_rfl) rfl rfl (fun K hK => ?_) (fun K hK => ?_)
      · go_simp
        refine (PA _ pd).mono ?_
        rintro e w6 ⟨rfl, p6⟩
        have p56 := pd.trans p6
        refine hK.out _ _ ?_ (fun hT => ?_)
        clear hK K
        try simp only [Act.put, List.setIfInBounds_toArray, List.set_cons_zero, List.set_cons_succ]
        · exact HT.out _ p56
        refine wpAnyU_take (i := 7) (v := ?vu45) rfl (by kernel_rfl) (by kernel_rfl) (by kernel_rfl) (by kernel_rfl) (by kernel_rfl) (fun _ _ _ h => h) (Or.inl ⟨by rfl, ?hu45⟩) (by assumption) ?ru45
        case hu45 => (intro w9 hSw; (try dsimp only at hSw); go_simp; (try with_reducible rfl))
        simp only [Act.put, List.setIfInBounds_toArray, List.set_cons_zero, List.set_cons_succ]
        refine wpAnyU_next (i := 8) (by kernel_rfl) rfl (fun K hK => ?_)
        go_simp
        refine hK.out _ _ ?_ (fun hT => ?_)
        clear hK K
        try simp only [Act.put, List.setIfInBounds_toArray, List.set_cons_zero, List.set_cons_succ]
        · exact HT.out _ (p56.alloc _)
        refine wpAnyU_tail 9 (by kernel_rfl) ?_
        simp only [List.drop_succ_cons, List.drop_zero]
        go_wp2
        go_meet
        refine ⟨_, rfl, p56.size, p56.alloc _, bk_new _ _⟩
      · go_simp
        have N : (w5.drew.alloc (.cells #[.string ⟨#[]⟩, .string ⟨#[]⟩, .slice none 0 0, .string ⟨#[]⟩, .int .i64 0, .int .i64 0, .int .i64 0] 38)).heap[w5.heap.size]? = some (.cells #[.string ⟨#[]⟩, .string ⟨#[]⟩, .slice none 0 0, .string ⟨#[]⟩, .int .i64 0, .int .i64 0, .int .i64 0] 38 (0, 0)) := bk_new w5.drew _
        refine hK.out _ _ ?_ (fun hT => ?_)
        clear hK K
        try simp only [Act.put, List.setIfInBounds_toArray, List.set_cons_zero, List.set_cons_succ]
        · exact HT.out _ (pd.alloc _)
        refine wpAnyU_next (i := 4) (by kernel_rfl) rfl (fun K hK => ?_)
        go_simp
        refine (PA _ (pd.alloc _)).mono ?_
        rintro e w6 ⟨rfl, p6⟩
        have p56 := (pd.alloc _).trans p6
        have N6 := bk_pur N p6
        refine hK.out _ _ ?_ (fun hT => ?_)
        clear hK K
        try simp only [Act.put, List.setIfInBounds_toArray, List.set_cons_zero, List.set_cons_succ]
        · exact HT.out _ p56
        refine wpAnyU_next (i := 7) (by kernel_rfl) rfl (fun K hK => ?_)
        go_simp
        refine hK.out _ _ ?_ (fun hT => ?_)
        clear hK K
        try simp only [Act.put, List.setIfInBounds_toArray, List.set_cons_zero, List.set_cons_succ]
        · exact HT.out _ p56
        refine wpAnyU_tail 9 (by kernel_rfl) ?_
        simp only [List.drop_succ_cons, List.drop_zero]
        have z0 := bk_cell N6 0 _ rfl
        have z1 := bk_cell N6 1 _ rfl
        have z2 := bk_cell N6 2 _ rfl
        have z3 := bk_cell N6 3 _ rfl
        have z4 := bk_cell N6 4 _ rfl
        have z5 := bk_cell N6 5 _ rfl
        have z6 := bk_cell N6 6 _ rfl
        have zf := fun i => bk_free N6 i
        go_wp2
        go_meet
        refine ⟨_, rfl, Nat.le_refl _, ?_, set7 N6 _ _ _ _ _ _ _⟩
        have q : ∀ {W : World}, Pur w5 W → ∀ i v, Pur w5 (W.setCell ⟨w5.heap.size, i, none⟩ v) := fun h i v => h.setCell (Nat.le_refl _) v
        exact q (q (q (q (q (q (q p56 _ _) _ _) _ _) _ _) _ _) _ _) _ _
    case rest =>
      obtain ⟨nb, rfl, hnb5, p6, N6⟩ := hcut
      have h6 := h5.pur p6
      have x6 : wc.heap[tb]? = _ := bk_pur x5 p6
      have hown6 := row_pur hown5 p6
      have HS6 := Lib.hid (HS5.out.pur p6)
      have hst6 : Step p w p wc := (((Step.refl p w).pur P4).trans s5).pur p6
      have t6 := bk_cell x6 6 _ rfl
      have hall : ∀ y ∈ p.all, y < tb := fun y hy => by have := h.lt y hy; omega
      have hwz : tb + 1 ≤ wc.heap.size := by have := hPS1; have := p3.size; have := p4.size; have := C5.size; have := p6.size; omega
      have hevb : ∀ g, (Value.slice ea l.length ec).ownBlock = some g → tb < g := fun g hg => by have := (hown6.lt g hg).1; have := hPS1; omega
      have hevl : ∀ g, (Value.slice ea l.length ec).ownBlock = some g → g < wc.heap.size := fun g hg => (hown6.lt g hg).2
      have hnb : tb < nb := by have := hPS1; have := p3.size; have := p4.size; have := C5.size; omega
      have hnbl := bk_lt N6
      have SV6 := row_up hown6 (B' := B) (fun g hg => by have := (hown6.lt g hg).1; omega)
      have PE6 : ∀ y ∈ p.all, y < tb ∨ wc.heap.size ≤ y := fun y hy => .inl (hall y hy)
      clear hown6 hown5 x5 s5 p6 hnb5 HS5
      rcases em with _ | _
      · have g0 := h6.c0
        have g1 := h6.c1
        obtain ⟨va, vc, hva⟩ := h6.nshape
        obtain ⟨ua, uc, hua⟩ := h6.sshape
        have hsrow := h6.stk.row
        dsimp only at hva hua hsrow g0 g1
        rw [hva] at g0
        rw [hua] at g1 hsrow
        have qd := (Pur.refl wc).drew
        have QT : ∀ w', Pur wc w' → w'.cell? ⟨p.g, 1, none⟩ = some (.slice ua b.stack.length uc) ∧ w'.cell? ⟨p.g, 0, none⟩ = some (.slice va b.nodes.length vc) ∧ w'.cell? ⟨tb, 1, none⟩ = some (.string ⟨nm.toArray⟩) ∧ w'.cell? ⟨tb, 4, none⟩ = some (.int .i64 (tl : Int)) ∧ w'.cell? ⟨tb, 5, none⟩ = some (.int .i64 (tc : Int)) := fun w' hp =>
          ⟨cell_pur g1 hp, cell_pur g0 hp, bk_cell (bk_pur x6 hp) 1 _ rfl, bk_cell (bk_pur x6 hp) 4 _ rfl, bk_cell (bk_pur x6 hp) 5 _ rfl⟩
        have QT0 := QT _ qd
        have QT := Lib.hid QT
        obtain ⟨i5, hi5, hz5⟩ := Option.map_eq_some_iff.1 opn_info
        simp only [Prod.mk.injEq] at hz5
        obtain ⟨hzz, hzs5, hzb5⟩ := hz5
        obtain ⟨y5, hy5, hys5⟩ := Option.map_eq_some_iff.1 hzz
        have HZ5 := Lib.hid (And.intro hi5 (And.intro hy5 (And.intro hzs5 (And.intro hzb5 hys5))))
        clear hi5 hy5 hzs5 hzb5 hys5 hzz
        clear g0 g1
        go_upto_region 17 with (fail)
        refine wp_region_until (T := fun w' => w'.cell? ⟨p.g, 1, none⟩ = some (.slice ua b.stack.length uc) ∧ w'.cell? ⟨p.g, 0, none⟩ = some (.slice va b.nodes.length vc) ∧ w'.cell? ⟨tb, 1, none⟩ = some (.string ⟨nm.toArray⟩) ∧ w'.cell? ⟨tb, 4, none⟩ = some (.int .i64 (tl : Int)) ∧ w'.cell? ⟨tb, 5, none⟩ = some (.int .i64 (tc : Int))) 19 (by kernel_rfl) QT0 (fun hT => ?_)
        clear QT0
        refine wpAnyU_take (i := 0) (v := ?vu46) rfl (by kernel_rfl) (by kernel_rfl) (by kernel_rfl) (by kernel_rfl) (by kernel_rfl) (fun _ _ _ h => h) (Or.inl ⟨by rfl, ?hu46⟩) (by assumption) ?ru46
        case hu46 => (intro w9 hSw; (try dsimp only at hSw); go_simp; (try with_reducible rfl))
        simp only [Act.put, List.setIfInBounds_toArray, List.set_cons_zero, List.set_cons_succ]
        refine wpAnyU_take (i := 1) (v := ?vu47) rfl (by kernel_rfl) (by kernel_rfl) (by kernel_rfl) (by kernel_rfl) (by kernel_rfl) (fun _ _ _ h => h) (Or.inl ⟨by rfl, ?hu47⟩) (by assumption) ?ru47
        case hu47 => (intro w9 hSw; (try dsimp only at hSw); go_simp; (try with_reducible rfl))
        simp only [Act.put, List.setIfInBounds_toArray, List.set_cons_zero, List.set_cons_succ]
        refine wpAnyU_take (i := 2) (v := ?vu48) rfl (by kernel_rfl) (by kernel_rfl) (by kernel_rfl) (by kernel_rfl) (by kernel_rfl) (fun _ _ _ h => h) (Or.inl ⟨by rfl, ?hu48⟩) (by assumption) ?ru48
        case hu48 => (intro w9 hSw; (try dsimp only at hSw); go_simp; (try with_reducible rfl))
        simp only [Act.put, List.setIfInBounds_toArray, List.set_cons_zero, List.set_cons_succ]
        refine wpAnyU_take (i := 3) (v := ?vu49) rfl (by kernel_rfl) (by kernel_rfl) (by kernel_rfl) (by kernel_rfl) (by kernel_rfl) (fun _ _ _ h => h) (Or.inl ⟨by rfl, ?hu49⟩) (by assumption) ?ru49
        case hu49 => (intro w9 hSw; (try dsimp only at hSw); go_simp; (try with_reducible rfl))
        simp only [Act.put, List.setIfInBounds_toArray, List.set_cons_zero, List.set_cons_succ]
        refine wpAnyU_take (i := 4) (v := ?vu50) rfl (by kernel_rfl) (by kernel_rfl) (by kernel_rfl) (by kernel_rfl) (by kernel_rfl) (fun _ _ _ h => h) (Or.inl ⟨by rfl, ?hu50⟩) (by assumption) ?ru50
        case hu50 => (intro w9 hSw; (try dsimp only at hSw); go_simp; (try with_reducible rfl))
        simp only [Act.put, List.setIfInBounds_toArray, List.set_cons_zero, List.set_cons_succ]
        refine wpAnyU_take (i := 5) (v := ?vu51) rfl (by kernel_rfl) (by kernel_rfl) (by kernel_rfl) (by kernel_rfl) (by kernel_rfl) (fun _ _ _ h => h) (Or.inl ⟨by rfl, ?hu51⟩) (by assumption) ?ru51
        case hu51 => (intro w9 hSw; (try dsimp only at hSw); go_simp; (try with_reducible rfl))
        simp only [Act.put, List.setIfInBounds_toArray, List.set_cons_zero, List.set_cons_succ]
        refine wpAnyU_take (i := 6) (v := ?vu52) rfl (by kernel_rfl) (by kernel_rfl) (by kernel_rfl) (by kernel_rfl) (by kernel_rfl) (fun _ _ _ h => h) (Or.inl ⟨by rfl, ?hu52⟩) (by assumption) ?ru52
        case hu52 => (intro w9 hSw; (try dsimp only at hSw); go_simp; (try with_reducible rfl))
        simp only [Act.put, List.setIfInBounds_toArray, List.set_cons_zero, List.set_cons_succ]
        refine wpAnyU_take (i := 7) (v := ?vu53) rfl (by kernel_rfl) (by kernel_rfl) (by kernel_rfl) (by kernel_rfl) (by kernel_rfl) (fun _ _ _ h => h) (Or.inl ⟨by rfl, ?hu53⟩) (by assumption) ?ru53
        case hu53 => (intro w9 hSw; (try dsimp only at hSw); go_simp; (try with_reducible rfl))
        simp only [Act.put, List.setIfInBounds_toArray, List.set_cons_zero, List.set_cons_succ]
        refine wpAnyU_take (i := 8) (v := ?vu54) rfl (by kernel_rfl) (by kernel_rfl) (by kernel_rfl) (by kernel_rfl) (by kernel_rfl) (fun _ _ _ h => h) (Or.inl ⟨by rfl, ?hu54⟩) (by assumption) ?ru54
        case hu54 => (intro w9 hSw; (try dsimp only at hSw); go_simp; (try with_reducible rfl))
        simp only [Act.put, List.setIfInBounds_toArray, List.set_cons_zero, List.set_cons_succ]
        refine wpAnyU_take (i := 9) (v := ?vu55) rfl (by kernel_rfl) (by kernel_rfl) (by kernel_rfl) (by kernel_rfl) (by kernel_rfl) (fun _ _ _ h => h) (Or.inl ⟨by rfl, ?hu55⟩) (by assumption) ?ru55
        case hu55 => (intro w9 hSw; (try dsimp only at hSw); go_simp; (try with_reducible rfl))
        simp only [Act.put, List.setIfInBounds_toArray, List.set_cons_zero, List.set_cons_succ]
        refine wpAnyU_take (i := 10) (v := ?vu56) rfl (by kernel_rfl) (by kernel_rfl) (by kernel_rfl) (by kernel_rfl) (by kernel_rfl) (fun _ _ _ h => h) (Or.inl ⟨by rfl, ?hu56⟩) (by assumption) ?ru56
        case hu56 => (intro w9 hSw; (try dsimp only at hSw); go_simp; (try with_reducible rfl))
        simp only [Act.put, List.setIfInBounds_toArray, List.set_cons_zero, List.set_cons_succ]
        refine wpAnyU_take (i := 11) (v := ?vu57) rfl (by kernel_rfl) (by kernel_rfl) (by kernel_rfl) (by kernel_rfl) (by kernel_rfl) (fun _ _ _ h => h) (Or.inl ⟨by rfl, ?hu57⟩) (by assumption) ?ru57
        case hu57 => (intro w9 hSw; (try dsimp only at hSw); go_simp; (try with_reducible rfl))
        simp only [Act.put, List.setIfInBounds_toArray, List.set_cons_zero, List.set_cons_succ]
        refine wpAnyU_take (i := 12) (v := ?vu58) rfl (by kernel_rfl) (by kernel_rfl) (by kernel_rfl) (by kernel_rfl) (by kernel_rfl) (fun _ _ _ h => h) (Or.inl ⟨by rfl, ?hu58⟩) (by assumption) ?ru58
        case hu58 => (intro w9 hSw; (try dsimp only at hSw); go_simp; (try with_reducible rfl))
        simp only [Act.put, List.setIfInBounds_toArray, List.set_cons_zero, List.set_cons_succ]
        refine wpAnyU_take (i := 13) (v := ?vu59) rfl (by kernel_rfl) (by kernel_rfl) (by kernel_rfl) (by kernel_rfl) (by kernel_rfl) (fun _ _ _ h => h) (Or.inl ⟨by rfl, ?hu59⟩) (by assumption) ?ru59
        case hu59 => (intro w9 hSw; (try dsimp only at hSw); go_simp; (try with_reducible rfl))
        simp only [Act.put, List.setIfInBounds_toArray, List.set_cons_zero, List.set_cons_succ]
        refine wpAnyU_take (i := 14) (v := ?vu60) rfl (by kernel_rfl) (by kernel_rfl) (by kernel_rfl) (by kernel_rfl) (by kernel_rfl) (fun _ _ _ h => h) (Or.inl ⟨by rfl, ?hu60⟩) (by assumption) ?ru60
        case hu60 => (intro w9 hSw; (try dsimp only at hSw); go_simp; (try with_reducible rfl))
        simp only [Act.put, List.setIfInBounds_toArray, List.set_cons_zero, List.set_cons_succ]
        refine wpAnyU_take (i := 15) (v := ?vu61) rfl (by kernel_rfl) (by kernel_rfl) (by kernel_rfl) (by kernel_rfl) (by kernel_rfl) (fun _ _ _ h => h) (Or.inl ⟨by rfl, ?hu61⟩) (by assumption) ?ru61
        case hu61 => (intro w9 hSw; (try dsimp only at hSw); go_simp; (try with_reducible rfl))
        simp only [Act.put, List.setIfInBounds_toArray, List.set_cons_zero, List.set_cons_succ]
        refine wpAnyU_take (i := 16) (v := ?vu62) rfl (by kernel_rfl) (by kernel_rfl) (by kernel_rfl) (by kernel_rfl) (by kernel_rfl) (fun _ _ _ h => h) (Or.inl ⟨by rfl, ?hu62⟩) (by assumption) ?ru62
        case hu62 => (intro w9 hSw; (try dsimp only at hSw); go_simp; (try with_reducible rfl))
        simp only [Act.put, List.setIfInBounds_toArray, List.set_cons_zero, List.set_cons_succ]
        refine wpAnyU_next (i := 17) (by kernel_rfl) rfl (fun K hK => ?_)
        go_simp
        have Y7 : (wc.drew.alloc (.cells #[.int .i64 (b.nodes.length : Int), .string ⟨nm.toArray⟩, .pointer po, .int .i64 (tl : Int), .int .i64 (tc : Int)] 65)).heap[wc.heap.size]? = some (.cells #[.int .i64 (b.nodes.length : Int), .string ⟨nm.toArray⟩, .pointer po, .int .i64 (tl : Int), .int .i64 (tc : Int)] 65 (0, 0)) := bk_new wc.drew _
        refine hK.out _ _ ?_ (fun hT => ?_)
        clear hK K
        try simp only [Act.put, List.setIfInBounds_toArray, List.set_cons_zero, List.set_cons_succ]
        · exact QT.out _ (qd.alloc _)
        refine wpAnyU_next (i := 18) (by kernel_rfl) rfl (fun K hK => ?_)
        refine step_append_lies _ (by rfl) _ _ _ (by rfl) B 65 i5 y5 5 48 Tryz.underlying55 HZ5.out.1 HZ5.out.2.1 HZ5.out.2.2.1 HZ5.out.2.2.2.1 HZ5.out.2.2.2.2 (by omega) (.slice ua b.stack.length uc) b.stack.length (opnCells p.scs b.stack) (by rfl) (row_pur hsrow (qd.alloc _)) ⟨wc.heap.size, 0, none⟩ 1 1 [.int .i64 (b.nodes.length : Int), .string ⟨nm.toArray⟩, .pointer po, .int .i64 (tl : Int), .int .i64 (tc : Int)] (by rfl) (by rfl) (World.news_of_block (cs := #[.int .i64 (b.nodes.length : Int), .string ⟨nm.toArray⟩, .pointer po, .int .i64 (tl : Int), .int .i64 (tc : Int)]) (t := 65) (fr := (0, 0)) Y7) (by intro u hu; simp at hu; rcases hu with rfl | rfl | rfl | rfl | rfl <;> rfl) (by omega) (by unfold maxLen; omega) (by omega) (Nat.le_trans (by omega) (qd.alloc _).size) (wc.heap.size + 1) (by show (wc.drew.alloc _).heap.size = _; exact Array.size_push _) ?_
        intro a8 cap8 w7 hown7 hgrow7 hat7 hlt7
        have hc7 : Chg (Value.slice ua b.stack.length uc).ownBlock.toList wc w7 := ((Chg.refl _ wc).pur (qd.alloc _)).grown hgrow7 (fun b hb => .inl (by simp [hb]))
        have hin : ∀ y, y ∈ (Value.slice ua b.stack.length uc).ownBlock.toList → y ∈ p.rows := fun y hy => List.mem_append_left _ (by rw [hua]; exact hy)
        have hpg7 : p.g ∉ (Value.slice ua b.stack.length uc).ownBlock.toList := fun e => h6.ap.1 (hin _ e)
        have htb7 : tb ∉ (Value.slice ua b.stack.length uc).ownBlock.toList := fun e => by have := hall _ (List.mem_cons_of_mem _ (hin _ e)); omega
        have hnb7 : nb ∉ (Value.slice ua b.stack.length uc).ownBlock.toList := fun e => by have := hall _ (List.mem_cons_of_mem _ (hin _ e)); omega
        have own7 := bk_chg h6.own hc7 hpg7
        have x7 := bk_chg x6 hc7 htb7
        have N7 := bk_chg N6 hc7 hnb7
        have f7 := bk_free own7 1
        have k0 := bk_cell own7 0 _ rfl
        have k7 := bk_cell own7 1 _ rfl
        dsimp only at k0 k7
        rw [hva] at k0
        rw [hua] at k7
        have hsc7 : ScSame wc w7 := ScSame.chg hc7 fun x hx C e => by
          obtain ⟨C', q⟩ := own_type hsrow (mem_own.1 hx)
          rw [q] at e; simp at e
        have hsl : p.scs.length = b.stack.length := h6.stk.len
        have OR7 : OpnRow w7 B (.slice (some ⟨a8, 0, none⟩) (b.stack.length + 1) cap8) (p.scs ++ [.pointer po]) (b.stack ++ [⟨b.nodes.length, nm, s', (tl, tc)⟩]) := by
          refine ⟨?_, by simp [h6.stk.len], fun j u o hu ho => ?_⟩
          · rw [opnCells_snoc _ _ _ _ h6.stk.len, List.length_append, List.length_singleton]
            exact hown7
          · by_cases hj : j < p.scs.length
            · rw [List.getElem?_append_left hj] at hu
              rw [List.getElem?_append_left (by have := h6.stk.len; omega)] at ho
              exact (h6.stk.sc j u o hu ho).same hsc7
            · have hj' : j = p.scs.length := by
                have := (List.getElem?_eq_some_iff.1 hu).1
                simp at this
                omega
              subst hj'
              rw [List.getElem?_append_right (Nat.le_refl _)] at hu
              rw [List.getElem?_append_right (by have := h6.stk.len; omega), show p.scs.length - b.stack.length = 0 by have := h6.stk.len; omega] at ho
              simp at hu ho
              subst hu ho
              exact HS6.out.same hsc7
        obtain ⟨h8, s8⟩ := h6.sets (by omega) (.slice (some ⟨a8, 0, none⟩) (b.stack.length + 1) cap8) (p.scs ++ [.pointer po]) (b.stack ++ [⟨b.nodes.length, nm, s', (tl, tc)⟩]) (by rw [hua]; exact hc7) OR7 (by
          rcases hat7 with e | e
          · exact .inl (by rw [hua]; exact e.symm)
          · exact .inr ⟨a8, rfl, by omega⟩)
        refine hK.out _ _ ?_ (fun hT => ?_)
        clear hK K
        try simp only [Act.put, List.setIfInBounds_toArray, List.set_cons_zero, List.set_cons_succ]
        · exact ⟨k7, k0, bk_cell x7 1 _ rfl, bk_cell x7 4 _ rfl, bk_cell x7 5 _ rfl⟩
        refine wpAnyU_tail 19 (by kernel_rfl) ?_
        simp only [List.drop_succ_cons, List.drop_zero]
        clear hT QT Y7
        have hst8 := hst6.trans s8
        have N8 := bk_other N7 (a := ⟨p.g, 1, none⟩) (by show nb ≠ p.g; omega) (.slice (some ⟨a8, 0, none⟩) (b.stack.length + 1) cap8)
        have SV8 := row_chg SV6 s8.chg (fun g hg hm => by have q1 := hevb g hg; have q2 := hall g hm; omega)
        have PE8 : ∀ y ∈ (Pl.all { p with sv := .slice (some ⟨a8, 0, none⟩) (b.stack.length + 1) cap8, scs := p.scs ++ [.pointer po] }), y < tb ∨ wc.heap.size ≤ y := fun y hy => (s8.new y hy).elim (fun e => .inl (hall y e)) .inr
        clear hc7 hown7 hgrow7 own7 N7 hat7 hsrow x7 hsc7 OR7 hua hva SV6 PE6 k0
        go_upto_region 18 with (fail)
        generalize w7.setCell ⟨p.g, 1, none⟩ (.slice (some ⟨a8, 0, none⟩) (b.stack.length + 1) cap8) = w8 at *
        clear k7 f7 s8
        have g0 := h8.c0
        obtain ⟨va, vc, hva⟩ := h8.nshape
        have hnrow := h8.nodes.nodes
        dsimp only at hva hnrow g0
        rw [hva] at g0 hnrow
        have qd := (Pur.refl w8).drew
        have QT : ∀ w', Pur w8 w' → w'.cell? ⟨p.g, 0, none⟩ = some (.slice va b.nodes.length vc) ∧ w'.cell? ⟨nb, 0, none⟩ = some (.string ⟨x.1.toArray⟩) ∧ w'.cell? ⟨nb, 1, none⟩ = some (.string ⟨x.2.toArray⟩) ∧ w'.cell? ⟨nb, 2, none⟩ = some (.slice ea l.length ec) ∧ w'.cell? ⟨nb, 3, none⟩ = some (.string ⟨#[]⟩) ∧ w'.cell? ⟨nb, 4, none⟩ = some (.int .i64 bp) ∧ w'.cell? ⟨nb, 5, none⟩ = some (.int .i64 (tl : Int)) ∧ w'.cell? ⟨nb, 6, none⟩ = some (.int .i64 (tc : Int)) := fun w' hp =>
          ⟨cell_pur g0 hp, bk_cell (bk_pur N8 hp) 0 _ rfl, bk_cell (bk_pur N8 hp) 1 _ rfl, bk_cell (bk_pur N8 hp) 2 _ rfl, bk_cell (bk_pur N8 hp) 3 _ rfl, bk_cell (bk_pur N8 hp) 4 _ rfl, bk_cell (bk_pur N8 hp) 5 _ rfl, bk_cell (bk_pur N8 hp) 6 _ rfl⟩
        have QT0 := QT _ qd
        have QT := Lib.hid QT
        obtain ⟨i7, hi7, hz7⟩ := Option.map_eq_some_iff.1 node_info
        simp only [Prod.mk.injEq] at hz7
        obtain ⟨hzz, hzs7, hzb7⟩ := hz7
        obtain ⟨y7, hy7, hys7⟩ := Option.map_eq_some_iff.1 hzz
        have HZ7 := Lib.hid (And.intro hi7 (And.intro hy7 (And.intro hzs7 (And.intro hzb7 hys7))))
        clear hi7 hy7 hzs7 hzb7 hys7 hzz
        clear g0
        refine wp_region_until (T := fun w' => w'.cell? ⟨p.g, 0, none⟩ = some (.slice va b.nodes.length vc) ∧ w'.cell? ⟨nb, 0, none⟩ = some (.string ⟨x.1.toArray⟩) ∧ w'.cell? ⟨nb, 1, none⟩ = some (.string ⟨x.2.toArray⟩) ∧ w'.cell? ⟨nb, 2, none⟩ = some (.slice ea l.length ec) ∧ w'.cell? ⟨nb, 3, none⟩ = some (.string ⟨#[]⟩) ∧ w'.cell? ⟨nb, 4, none⟩ = some (.int .i64 bp) ∧ w'.cell? ⟨nb, 5, none⟩ = some (.int .i64 (tl : Int)) ∧ w'.cell? ⟨nb, 6, none⟩ = some (.int .i64 (tc : Int))) 9 (by kernel_rfl) QT0 (fun hT => ?_)
        clear QT0
        refine wpAnyU_take (i := 0) (v := ?vu63) rfl (by kernel_rfl) (by kernel_rfl) (by kernel_rfl) (by kernel_rfl) (by kernel_rfl) (fun _ _ _ h => h) (Or.inl ⟨by rfl, ?hu63⟩) (by assumption) ?ru63
        case hu63 => (intro w9 hSw; (try dsimp only at hSw); go_simp; (try with_reducible rfl))
        simp only [Act.put, List.setIfInBounds_toArray, List.set_cons_zero, List.set_cons_succ]
        refine wpAnyU_take (i := 1) (v := ?vu64) rfl (by kernel_rfl) (by kernel_rfl) (by kernel_rfl) (by kernel_rfl) (by kernel_rfl) (fun _ _ _ h => h) (Or.inl ⟨by rfl, ?hu64⟩) (by assumption) ?ru64
        case hu64 => (intro w9 hSw; (try dsimp only at hSw); go_simp; (try with_reducible rfl))
        simp only [Act.put, List.setIfInBounds_toArray, List.set_cons_zero, List.set_cons_succ]
        refine wpAnyU_take (i := 2) (v := ?vu65) rfl (by kernel_rfl) (by kernel_rfl) (by kernel_rfl) (by kernel_rfl) (by kernel_rfl) (fun _ _ _ h => h) (Or.inl ⟨by rfl, ?hu65⟩) (by assumption) ?ru65
        case hu65 => (intro w9 hSw; (try dsimp only at hSw); go_simp; (try with_reducible rfl))
        simp only [Act.put, List.setIfInBounds_toArray, List.set_cons_zero, List.set_cons_succ]
        refine wpAnyU_take (i := 3) (v := ?vu66) rfl (by kernel_rfl) (by kernel_rfl) (by kernel_rfl) (by kernel_rfl) (by kernel_rfl) (fun _ _ _ h => h) (Or.inl ⟨by rfl, ?hu66⟩) (by assumption) ?ru66
        case hu66 => (intro w9 hSw; (try dsimp only at hSw); go_simp; (try with_reducible rfl))
        simp only [Act.put, List.setIfInBounds_toArray, List.set_cons_zero, List.set_cons_succ]
        refine wpAnyU_take (i := 4) (v := ?vu67) rfl (by kernel_rfl) (by kernel_rfl) (by kernel_rfl) (by kernel_rfl) (by kernel_rfl) (fun _ _ _ h => h) (Or.inl ⟨by rfl, ?hu67⟩) (by assumption) ?ru67
        case hu67 => (intro w9 hSw; (try dsimp only at hSw); go_simp; (try with_reducible rfl))
        simp only [Act.put, List.setIfInBounds_toArray, List.set_cons_zero, List.set_cons_succ]
        refine wpAnyU_take (i := 5) (v := ?vu68) rfl (by kernel_rfl) (by kernel_rfl) (by kernel_rfl) (by kernel_rfl) (by kernel_rfl) (fun _ _ _ h => h) (Or.inl ⟨by rfl, ?hu68⟩) (by assumption) ?ru68
        case hu68 => (intro w9 hSw; (try dsimp only at hSw); go_simp; (try with_reducible rfl))
        simp only [Act.put, List.setIfInBounds_toArray, List.set_cons_zero, List.set_cons_succ]
        refine wpAnyU_take (i := 6) (v := ?vu69) rfl (by kernel_rfl) (by kernel_rfl) (by kernel_rfl) (by kernel_rfl) (by kernel_rfl) (fun _ _ _ h => h) (Or.inl ⟨by rfl, ?hu69⟩) (by assumption) ?ru69
        case hu69 => (intro w9 hSw; (try dsimp only at hSw); go_simp; (try with_reducible rfl))
        simp only [Act.put, List.setIfInBounds_toArray, List.set_cons_zero, List.set_cons_succ]
        refine wpAnyU_next (i := 7) (by kernel_rfl) rfl (fun K hK => ?_)
        go_simp
        have Y7 : (w8.drew.alloc (.cells #[.string ⟨x.1.toArray⟩, .string ⟨x.2.toArray⟩, .slice ea l.length ec, .string ⟨#[]⟩, .int .i64 bp, .int .i64 (tl : Int), .int .i64 (tc : Int)] 38)).heap[w8.heap.size]? = some (.cells #[.string ⟨x.1.toArray⟩, .string ⟨x.2.toArray⟩, .slice ea l.length ec, .string ⟨#[]⟩, .int .i64 bp, .int .i64 (tl : Int), .int .i64 (tc : Int)] 38 (0, 0)) := bk_new w8.drew _
        refine hK.out _ _ ?_ (fun hT => ?_)
        clear hK K
        try simp only [Act.put, List.setIfInBounds_toArray, List.set_cons_zero, List.set_cons_succ]
        · exact QT.out _ (qd.alloc _)
        refine wpAnyU_next (i := 8) (by kernel_rfl) rfl (fun K hK => ?_)
        refine step_append_lies _ (by rfl) _ _ _ (by rfl) 0 38 i7 y7 7 96 Tryz.underlying27 HZ7.out.1 HZ7.out.2.1 HZ7.out.2.2.1 HZ7.out.2.2.2.1 HZ7.out.2.2.2.2 (by omega) (.slice va b.nodes.length vc) b.nodes.length (nodeCells p.evs b.nodes) (by rfl) (row_pur hnrow (qd.alloc _)) ⟨w8.heap.size, 0, none⟩ 1 1 [.string ⟨x.1.toArray⟩, .string ⟨x.2.toArray⟩, .slice ea l.length ec, .string ⟨#[]⟩, .int .i64 bp, .int .i64 (tl : Int), .int .i64 (tc : Int)] (by rfl) (by rfl) (World.news_of_block (cs := #[.string ⟨x.1.toArray⟩, .string ⟨x.2.toArray⟩, .slice ea l.length ec, .string ⟨#[]⟩, .int .i64 bp, .int .i64 (tl : Int), .int .i64 (tc : Int)]) (t := 38) (fr := (0, 0)) Y7) (by intro u hu; simp at hu; rcases hu with rfl | rfl | rfl | rfl | rfl | rfl | rfl <;> rfl) (by omega) (by unfold maxLen; omega) (by omega) (Nat.zero_le _) (w8.heap.size + 1) (by show (w8.drew.alloc _).heap.size = _; exact Array.size_push _) ?_
        intro g9 cap9 w9 hown9 hgrow9 hat9 hlt9
        have hc9 : Chg (Value.slice va b.nodes.length vc).ownBlock.toList w8 w9 := ((Chg.refl _ w8).pur (qd.alloc _)).grown hgrow9 (fun b hb => .inl (by simp [hb]))
        have hpg9 : p.g ∉ (Value.slice va b.nodes.length vc).ownBlock.toList := fun e => h8.ap.1 (List.mem_append_right _ (List.mem_append_left _ (by rw [hva]; exact e)))
        have own9 := bk_chg h8.own hc9 hpg9
        have N9 := bk_chg N8 hc9 (fun e => by have := PE8 nb (List.mem_cons_of_mem _ (List.mem_append_right _ (List.mem_append_left _ (by rw [hva]; exact e)))); omega)
        have f9 := bk_free own9 0
        have k9 := bk_cell own9 0 _ rfl
        dsimp only at k9
        rw [hva] at k9
        obtain ⟨hAt, hChg, hNew⟩ := h8.setn (by have := hst8.chg.size; omega) (.slice (some ⟨g9, 0, none⟩) (b.nodes.length + 1) cap9) (.slice ea l.length ec) ⟨x.1, x.2, l, [], b.parent, (tl, tc)⟩ (by (try dsimp only); rw [hva]; exact hc9) (by
            have q := HBP.out
            dsimp only [NodeV.cells]
            rw [q]
            exact hown9) (by
            rcases hat9 with e | e
            · exact .inl (by (try dsimp only); rw [hva]; exact e.symm)
            · exact .inr ⟨g9, rfl, by omega⟩) (SV8) (fun g hg hm => by
            have q1 := hevb g hg
            have q2 := PE8 g hm
            have q3 := hevl g hg
            omega)
        refine hK.out _ _ ?_ (fun hT => ?_)
        clear hK K
        try simp only [Act.put, List.setIfInBounds_toArray, List.set_cons_zero, List.set_cons_succ]
        · exact ⟨k9, bk_cell N9 0 _ rfl, bk_cell N9 1 _ rfl, bk_cell N9 2 _ rfl, bk_cell N9 3 _ rfl, bk_cell N9 4 _ rfl, bk_cell N9 5 _ rfl, bk_cell N9 6 _ rfl⟩
        refine wpAnyU_tail 9 (by kernel_rfl) ?_
        simp only [List.drop_succ_cons, List.drop_zero]
        clear hT QT Y7 hc9 hown9 hgrow9 own9 N9 hat9 hnrow
        go_wp2
        go_ret
        refine ⟨rfl, _, hAt, ⟨rfl, hst8.chg.next hChg (fun z hz => hst8.new z hz), fun z hz => ?_⟩⟩
        rcases hNew z hz with e | e | e
        · exact hst8.new z e
        · exact .inr (by have := hevb z e; omega)
        · exact .inr (Nat.le_trans hst8.chg.size e)
      · have g0 := h6.c0
        obtain ⟨va, vc, hva⟩ := h6.nshape
        have hnrow := h6.nodes.nodes
        dsimp only at hva hnrow g0
        rw [hva] at g0 hnrow
        have qd := (Pur.refl wc).drew
        have QT : ∀ w', Pur wc w' → w'.cell? ⟨p.g, 0, none⟩ = some (.slice va b.nodes.length vc) ∧ w'.cell? ⟨nb, 0, none⟩ = some (.string ⟨x.1.toArray⟩) ∧ w'.cell? ⟨nb, 1, none⟩ = some (.string ⟨x.2.toArray⟩) ∧ w'.cell? ⟨nb, 2, none⟩ = some (.slice ea l.length ec) ∧ w'.cell? ⟨nb, 3, none⟩ = some (.string ⟨#[]⟩) ∧ w'.cell? ⟨nb, 4, none⟩ = some (.int .i64 bp) ∧ w'.cell? ⟨nb, 5, none⟩ = some (.int .i64 (tl : Int)) ∧ w'.cell? ⟨nb, 6, none⟩ = some (.int .i64 (tc : Int)) := fun w' hp =>
          ⟨cell_pur g0 hp, bk_cell (bk_pur N6 hp) 0 _ rfl, bk_cell (bk_pur N6 hp) 1 _ rfl, bk_cell (bk_pur N6 hp) 2 _ rfl, bk_cell (bk_pur N6 hp) 3 _ rfl, bk_cell (bk_pur N6 hp) 4 _ rfl, bk_cell (bk_pur N6 hp) 5 _ rfl, bk_cell (bk_pur N6 hp) 6 _ rfl⟩
        have QT0 := QT _ qd
        have QT := Lib.hid QT
        obtain ⟨i7, hi7, hz7⟩ := Option.map_eq_some_iff.1 node_info
        simp only [Prod.mk.injEq] at hz7
        obtain ⟨hzz, hzs7, hzb7⟩ := hz7
        obtain ⟨y7, hy7, hys7⟩ := Option.map_eq_some_iff.1 hzz
        have HZ7 := Lib.hid (And.intro hi7 (And.intro hy7 (And.intro hzs7 (And.intro hzb7 hys7))))
        clear hi7 hy7 hzs7 hzb7 hys7 hzz
        clear g0
        go_upto_region 18 with (fail)
        refine wp_region_until (T := fun w' => w'.cell? ⟨p.g, 0, none⟩ = some (.slice va b.nodes.length vc) ∧ w'.cell? ⟨nb, 0, none⟩ = some (.string ⟨x.1.toArray⟩) ∧ w'.cell? ⟨nb, 1, none⟩ = some (.string ⟨x.2.toArray⟩) ∧ w'.cell? ⟨nb, 2, none⟩ = some (.slice ea l.length ec) ∧ w'.cell? ⟨nb, 3, none⟩ = some (.string ⟨#[]⟩) ∧ w'.cell? ⟨nb, 4, none⟩ = some (.int .i64 bp) ∧ w'.cell? ⟨nb, 5, none⟩ = some (.int .i64 (tl : Int)) ∧ w'.cell? ⟨nb, 6, none⟩ = some (.int .i64 (tc : Int))) 9 (by kernel_rfl) QT0 (fun hT => ?_)
        clear QT0
        refine wpAnyU_take (i := 0) (v := ?vu70) rfl (by kernel_rfl) (by kernel_rfl) (by kernel_rfl) (by kernel_rfl) (by kernel_rfl) (fun _ _ _ h => h) (Or.inl ⟨by rfl, ?hu70⟩) (by assumption) ?ru70
        case hu70 => (intro w9 hSw; (try dsimp only at hSw); go_simp; (try with_reducible rfl))
        simp only [Act.put, List.setIfInBounds_toArray, List.set_cons_zero, List.set_cons_succ]
        refine wpAnyU_take (i := 1) (v := ?vu71) rfl (by kernel_rfl) (by kernel_rfl) (by kernel_rfl) (by kernel_rfl) (by kernel_rfl) (fun _ _ _ h => h) (Or.inl ⟨by rfl, ?hu71⟩) (by assumption) ?ru71
        case hu71 => (intro w9 hSw; (try dsimp only at hSw); go_simp; (try with_reducible rfl))
        simp only [Act.put, List.setIfInBounds_toArray, List.set_cons_zero, List.set_cons_succ]
        refine wpAnyU_take (i := 2) (v := ?vu72) rfl (by kernel_rfl) (by kernel_rfl) (by kernel_rfl) (by kernel_rfl) (by kernel_rfl) (fun _ _ _ h => h) (Or.inl ⟨by rfl, ?hu72⟩) (by assumption) ?ru72
        case hu72 => (intro w9 hSw; (try dsimp only at hSw); go_simp; (try with_reducible rfl))
        simp only [Act.put, List.setIfInBounds_toArray, List.set_cons_zero, List.set_cons_succ]
        refine wpAnyU_take (i := 3) (v := ?vu73) rfl (by kernel_rfl) (by kernel_rfl) (by kernel_rfl) (by kernel_rfl) (by kernel_rfl) (fun _ _ _ h => h) (Or.inl ⟨by rfl, ?hu73⟩) (by assumption) ?ru73
        case hu73 => (intro w9 hSw; (try dsimp only at hSw); go_simp; (try with_reducible rfl))
        simp only [Act.put, List.setIfInBounds_toArray, List.set_cons_zero, List.set_cons_succ]
        refine wpAnyU_take (i := 4) (v := ?vu74) rfl (by kernel_rfl) (by kernel_rfl) (by kernel_rfl) (by kernel_rfl) (by kernel_rfl) (fun _ _ _ h => h) (Or.inl ⟨by rfl, ?hu74⟩) (by assumption) ?ru74
        case hu74 => (intro w9 hSw; (try dsimp only at hSw); go_simp; (try with_reducible rfl))
        simp only [Act.put, List.setIfInBounds_toArray, List.set_cons_zero, List.set_cons_succ]
        refine wpAnyU_take (i := 5) (v := ?vu75) rfl (by kernel_rfl) (by kernel_rfl) (by kernel_rfl) (by kernel_rfl) (by kernel_rfl) (fun _ _ _ h => h) (Or.inl ⟨by rfl, ?hu75⟩) (by assumption) ?ru75
        case hu75 => (intro w9 hSw; (try dsimp only at hSw); go_simp; (try with_reducible rfl))
        simp only [Act.put, List.setIfInBounds_toArray, List.set_cons_zero, List.set_cons_succ]
        refine wpAnyU_take (i := 6) (v := ?vu76) rfl (by kernel_rfl) (by kernel_rfl) (by kernel_rfl) (by kernel_rfl) (by kernel_rfl) (fun _ _ _ h => h) (Or.inl ⟨by rfl, ?hu76⟩) (by assumption) ?ru76
        case hu76 => (intro w9 hSw; (try dsimp only at hSw); go_simp; (try with_reducible rfl))
        simp only [Act.put, List.setIfInBounds_toArray, List.set_cons_zero, List.set_cons_succ]
        refine wpAnyU_next (i := 7) (by kernel_rfl) rfl (fun K hK => ?_)
        go_simp
        have Y7 : (wc.drew.alloc (.cells #[.string ⟨x.1.toArray⟩, .string ⟨x.2.toArray⟩, .slice ea l.length ec, .string ⟨#[]⟩, .int .i64 bp, .int .i64 (tl : Int), .int .i64 (tc : Int)] 38)).heap[wc.heap.size]? = some (.cells #[.string ⟨x.1.toArray⟩, .string ⟨x.2.toArray⟩, .slice ea l.length ec, .string ⟨#[]⟩, .int .i64 bp, .int .i64 (tl : Int), .int .i64 (tc : Int)] 38 (0, 0)) := bk_new wc.drew _
        refine hK.out _ _ ?_ (fun hT => ?_)
        clear hK K
        try simp only [Act.put, List.setIfInBounds_toArray, List.set_cons_zero, List.set_cons_succ]
        · exact QT.out _ (qd.alloc _)
        refine wpAnyU_next (i := 8) (by kernel_rfl) rfl (fun K hK => ?_)
        refine step_append_lies _ (by rfl) _ _ _ (by rfl) 0 38 i7 y7 7 96 Tryz.underlying27 HZ7.out.1 HZ7.out.2.1 HZ7.out.2.2.1 HZ7.out.2.2.2.1 HZ7.out.2.2.2.2 (by omega) (.slice va b.nodes.length vc) b.nodes.length (nodeCells p.evs b.nodes) (by rfl) (row_pur hnrow (qd.alloc _)) ⟨wc.heap.size, 0, none⟩ 1 1 [.string ⟨x.1.toArray⟩, .string ⟨x.2.toArray⟩, .slice ea l.length ec, .string ⟨#[]⟩, .int .i64 bp, .int .i64 (tl : Int), .int .i64 (tc : Int)] (by rfl) (by rfl) (World.news_of_block (cs := #[.string ⟨x.1.toArray⟩, .string ⟨x.2.toArray⟩, .slice ea l.length ec, .string ⟨#[]⟩, .int .i64 bp, .int .i64 (tl : Int), .int .i64 (tc : Int)]) (t := 38) (fr := (0, 0)) Y7) (by intro u hu; simp at hu; rcases hu with rfl | rfl | rfl | rfl | rfl | rfl | rfl <;> rfl) (by omega) (by unfold maxLen; omega) (by omega) (Nat.zero_le _) (wc.heap.size + 1) (by show (wc.drew.alloc _).heap.size = _; exact Array.size_push _) ?_
        intro g9 cap9 w9 hown9 hgrow9 hat9 hlt9
        have hc9 : Chg (Value.slice va b.nodes.length vc).ownBlock.toList wc w9 := ((Chg.refl _ wc).pur (qd.alloc _)).grown hgrow9 (fun b hb => .inl (by simp [hb]))
        have hpg9 : p.g ∉ (Value.slice va b.nodes.length vc).ownBlock.toList := fun e => h6.ap.1 (List.mem_append_right _ (List.mem_append_left _ (by rw [hva]; exact e)))
        have own9 := bk_chg h6.own hc9 hpg9
        have N9 := bk_chg N6 hc9 (fun e => by have := PE6 nb (List.mem_cons_of_mem _ (List.mem_append_right _ (List.mem_append_left _ (by rw [hva]; exact e)))); omega)
        have f9 := bk_free own9 0
        have k9 := bk_cell own9 0 _ rfl
        dsimp only at k9
        rw [hva] at k9
        obtain ⟨hAt, hChg, hNew⟩ := h6.setn (by have := hst6.chg.size; omega) (.slice (some ⟨g9, 0, none⟩) (b.nodes.length + 1) cap9) (.slice ea l.length ec) ⟨x.1, x.2, l, [], b.parent, (tl, tc)⟩ (by (try dsimp only); rw [hva]; exact hc9) (by
            have q := HBP.out
            dsimp only [NodeV.cells]
            rw [q]
            exact hown9) (by
            rcases hat9 with e | e
            · exact .inl (by (try dsimp only); rw [hva]; exact e.symm)
            · exact .inr ⟨g9, rfl, by omega⟩) (SV6) (fun g hg hm => by
            have q1 := hevb g hg
            have q2 := PE6 g hm
            have q3 := hevl g hg
            omega)
        refine hK.out _ _ ?_ (fun hT => ?_)
        clear hK K
        try simp only [Act.put, List.setIfInBounds_toArray, List.set_cons_zero, List.set_cons_succ]
        · exact ⟨k9, bk_cell N9 0 _ rfl, bk_cell N9 1 _ rfl, bk_cell N9 2 _ rfl, bk_cell N9 3 _ rfl, bk_cell N9 4 _ rfl, bk_cell N9 5 _ rfl, bk_cell N9 6 _ rfl⟩
        refine wpAnyU_tail 9 (by kernel_rfl) ?_
        simp only [List.drop_succ_cons, List.drop_zero]
        clear hT QT Y7 hc9 hown9 hgrow9 own9 N9 hat9 hnrow
        go_wp2
        go_ret
        refine ⟨rfl, _, hAt, ⟨rfl, hst6.chg.next hChg (fun z hz => hst6.new z hz), fun z hz => ?_⟩⟩
        rcases hNew z hz with e | e | e
        · exact hst6.new z e
        · exact .inr (by have := hevb z e; omega)
        · exact .inr (Nat.le_trans hst6.chg.size e)
end Te
end Go.Proofs.YtigfcchblfnnbaaGreatDoor
