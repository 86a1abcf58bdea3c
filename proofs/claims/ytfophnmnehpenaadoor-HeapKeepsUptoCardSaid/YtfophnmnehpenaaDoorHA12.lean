/- Layer 8: (*Heap).Drop. -/
import Derived.Test.YtfophnmnehpenaaDoorHA11
namespace Go.Proofs.YtfophnmnehpenaaDoor
open Go Go.RowKit
set_option linter.all false
set_option maxRecDepth 100000 in
theorem gives_drop (key k : List UInt8) (B : Nat) (W : World) (hc : W.cell? ⟨B, 0, none⟩ = some (.string ⟨key.toArray⟩)) : FnGives Tryd.prog 47 #[.pointer (some ⟨B, 0, none⟩)] #[strV k] (.bool (k == key)) W := by
  show Calls Tryd.prog 47 #[.string ⟨k.toArray⟩, .pointer (some ⟨B, 0, none⟩)] W _
  obtain ⟨b, hb⟩ : ∃ b, (k == key) = b := ⟨_, rfl⟩
  rw [hb]
  go_enter Tryd.func47, Tryd.ntmps47
  go_wp2
  go_ret
  exact ⟨by simp_all, 0, rfl⟩
set_option maxRecDepth 100000 in
set_option maxHeartbeats 8000000 in
theorem drop_none (s : Hs) (i : Int) (key : List UInt8) (w : World) (h : HpAt w s) (hx : s.d.obj i = none) :
    Calls Tryd.prog 24 #[.pointer (some ⟨s.h, 0, none⟩), .int .i64 i, .string ⟨key.toArray⟩] w fun e w' => e = .returned (.bool false) ∧ Left w s w' s.d := by
  have p1 : Pur w (w.alloc (.cells #[.string ⟨key.toArray⟩] 9)) := (Pur.refl w).alloc _
  have AT := at_any s i _ (h.pur p1)
  rw [(at_none h i).2 hx] at AT
  have hfin : ∀ w', Pur w w' → Left w s w' s.d := fun w' hpp => ⟨s, h.pur hpp, Step.pur hpp, rfl, fun _ => rfl⟩
  clear h hx
  go_enter Tryd.func24, Tryd.ntmps24
  go_wp2_with fail
  go_wp2_with fail
  refine (AT).mono ?_
  rintro e w1 ⟨rfl, rfl⟩
  go_wp2
  go_ret
  exact ⟨rfl, hfin _ p1⟩
set_option maxRecDepth 100000 in
set_option maxHeartbeats 8000000 in
theorem drop_out (s : Hs) (i : Int) (x : Ob) (key : List UInt8) (w : World) (h : HpAt w s) {G : Nat} (hok : s.d.Ok G) (hx : s.d.obj i = some x) (hkl : key.length ≤ 1000000) (hk : x.kind = 2) (m : Nat) (hix : index key = some m) (hm : x.items.length ≤ m) :
    Calls Tryd.prog 24 #[.pointer (some ⟨s.h, 0, none⟩), .int .i64 i, .string ⟨key.toArray⟩] w fun e w' => e = .returned (.bool false) ∧ Left w s w' s.d := by
  have p1 : Pur w (w.alloc (.cells #[.string ⟨key.toArray⟩] 9)) := (Pur.refl w).alloc _
  obtain ⟨p, hp, hxx, hat, hob⟩ := h.pl hx
  have AT := at_any s i _ (h.pur p1)
  rw [hat] at AT
  have IX := fun w => index_any key w (by omega)
  have O2 : ∀ w2, Pur (w.alloc (.cells #[.string ⟨key.toArray⟩] 9)) w2 → HpAt w2 s ∧ ObIn w2 p x := fun w2 h2 => ⟨h.pur (p1.trans h2), (h.pur (p1.trans h2)).each _ _ _ hp hxx⟩
  have k1 := fun w2 (hq : Pur (w.alloc (.cells #[.string ⟨key.toArray⟩] 9)) w2) => bk_cell (bk_pur (bk_new w (.cells #[.string ⟨key.toArray⟩] 9)) hq) 0 _ rfl
  have hfin : ∀ w', Pur w w' → Left w s w' s.d := fun w' hpp => ⟨s, h.pur hpp, Step.pur hpp, rfl, fun _ => rfl⟩
  rw [hix] at IX
  simp only [ix] at IX
  obtain ⟨a, c, hiv⟩ := row_shape hob.items
  have hmI : (x.items.length : Int) ≤ m := by omega
  clear h hx hp hxx hat hob hok
  go_enter Tryd.func24, Tryd.ntmps24
  go_wp2_with fail
  go_wp2_with fail
  refine (AT).mono ?_
  rintro e w1 ⟨rfl, rfl⟩
  go_wp2_with fail
  refine (IX _).mono ?_
  rintro e w2 ⟨rfl, h2⟩
  have B := (O2 _ h2).2.own
  rw [hk] at B
  have q0 := bk_cell B 0 _ rfl
  have q7 := bk_cell B 7 (.slice a x.items.length c) (by rw [← hiv]; rfl)
  clear AT IX O2 k1 B
  go_wp2
  go_ret
  exact ⟨rfl, hfin _ (p1.trans h2)⟩
set_option maxRecDepth 100000 in
set_option maxHeartbeats 8000000 in
theorem drop_item (s : Hs) (i : Int) (x : Ob) (key : List UInt8) (w : World) (h : HpAt w s) {G : Nat} (hok : s.d.Ok G) (hx : s.d.obj i = some x) (hkl : key.length ≤ 1000000) (hk : x.kind = 2) (m : Nat) (hix : index key = some m) (hm : m < x.items.length) :
    Calls Tryd.prog 24 #[.pointer (some ⟨s.h, 0, none⟩), .int .i64 i, .string ⟨key.toArray⟩] w fun e w' => e = .returned (.bool true) ∧ Left w s w' (s.d.turn i (x.item m Va.zero) s.d.left) := by
  have p1 : Pur w (w.alloc (.cells #[.string ⟨key.toArray⟩] 9)) := (Pur.refl w).alloc _
  obtain ⟨p, hp, hxx, hat, hob⟩ := h.pl hx
  have AT := at_any s i _ (h.pur p1)
  rw [hat] at AT
  have IX := fun w => index_any key w (by omega)
  have O2 : ∀ w2, Pur (w.alloc (.cells #[.string ⟨key.toArray⟩] 9)) w2 → HpAt w2 s ∧ ObIn w2 p x := fun w2 h2 => ⟨h.pur (p1.trans h2), (h.pur (p1.trans h2)).each _ _ _ hp hxx⟩
  have k1 := fun w2 (hq : Pur (w.alloc (.cells #[.string ⟨key.toArray⟩] 9)) w2) => bk_cell (bk_pur (bk_new w (.cells #[.string ⟨key.toArray⟩] 9)) hq) 0 _ rfl
  rw [hix] at IX
  simp only [ix] at IX
  obtain ⟨g, cap, hiv⟩ := row_some hob.items (by omega)
  have hmI : (m : Int) < x.items.length := by omega
  have hm0 : (0 : Int) ≤ m := by omega
  have hmD : decide ((x.items.length : Int) ≤ m) = false := decide_eq_false (by omega)
  have ST : ∀ w4, Pur (w.alloc (.cells #[.string ⟨key.toArray⟩] 9)) w4 → _ := fun w4 h4 => item_store (O2 w4 h4).1 hp hxx hiv hm Va.zero
  have hfin : ∀ w4, Pur w w4 → HpAt (put4 w4 g m Va.zero) (s.turn i.toNat p (x.item m Va.zero)) → Step w4 s (put4 w4 g m Va.zero) (s.turn i.toNat p (x.item m Va.zero)) → Left w s (put4 w4 g m Va.zero) (s.d.turn i (x.item m Va.zero) s.d.left) := fun w4 h4 a b =>
    ⟨_, a, (Step.pur h4).trans b, rfl, fun j => turn_at s i.toNat p p _ hp rfl j⟩
  clear h hx hp hxx hat hok hob
  go_enter Tryd.func24, Tryd.ntmps24
  go_wp2_with fail
  go_wp2_with fail
  refine (AT).mono ?_
  rintro e w1 ⟨rfl, rfl⟩
  go_wp2_with fail
  refine (IX _).mono ?_
  rintro e w2 ⟨rfl, h2⟩
  have B := (O2 _ h2).2.own
  rw [hk] at B
  have q0 := bk_cell B 0 _ rfl
  have q7 := bk_cell B 7 (.slice (some ⟨g, 0, none⟩) x.items.length cap) (by rw [← hiv]; rfl)
  obtain ⟨⟨f0, u0, c0⟩, ⟨f1, u1, c1⟩, ⟨f2, u2, c2⟩, ⟨f3, u3, c3⟩, HP, HS⟩ := ST _ h2
  have HF := hfin _ (p1.trans h2) HP HS
  unfold put4 at HF
  simp only [Va.zero] at HF f0 f1 f2 f3 c0 c1 c2 c3
  clear AT IX O2 k1 B ST HP HS hfin
  go_wp2
  go_ret
  exact ⟨rfl, HF⟩
set_option maxRecDepth 100000 in
set_option maxHeartbeats 8000000 in
theorem drop_no (s : Hs) (i : Int) (x : Ob) (key : List UInt8) (w : World) (h : HpAt w s) {G : Nat} (hok : s.d.Ok G) (hx : s.d.obj i = some x) (hkl : key.length ≤ 1000000) (hki : (if x.kind = 2 then index key else none) = none) (hbo : (x.props key).isSome = false) :
    Calls Tryd.prog 24 #[.pointer (some ⟨s.h, 0, none⟩), .int .i64 i, .string ⟨key.toArray⟩] w fun e w' => e = .returned (.bool false) ∧ Left w s w' s.d := by
  have p1 : Pur w (w.alloc (.cells #[.string ⟨key.toArray⟩] 9)) := (Pur.refl w).alloc _
  obtain ⟨p, hp, hxx, hat, hob⟩ := h.pl hx
  have AT := at_any s i _ (h.pur p1)
  rw [hat] at AT
  have IX := fun w => index_any key w (by omega)
  have O2 : ∀ w2, Pur (w.alloc (.cells #[.string ⟨key.toArray⟩] 9)) w2 → HpAt w2 s ∧ ObIn w2 p x := fun w2 h2 => ⟨h.pur (p1.trans h2), (h.pur (p1.trans h2)).each _ _ _ hp hxx⟩
  have k1 := fun w2 (hq : Pur (w.alloc (.cells #[.string ⟨key.toArray⟩] 9)) w2) => bk_cell (bk_pur (bk_new w (.cells #[.string ⟨key.toArray⟩] 9)) hq) 0 _ rfl
  obtain ⟨y, hy⟩ : ∃ y, (x.props key).getD Va.zero = y := ⟨_, rfl⟩
  have M2 : ∀ w2, Pur (w.alloc (.cells #[.string ⟨key.toArray⟩] 9)) w2 → ∃ D, w2.ownsMap Tryd.prog 9 RV p.m x.keys.length D ∧ Hid (∀ k, Maps.has D (.string k) = (x.props k).isSome ∧ ∀ z, D.atKey (.string k) z = ((x.props k).map DataW.held).getD z) := fun w2 h2 => by
    obtain ⟨D, hD, hf⟩ := (O2 w2 h2).2.props
    exact ⟨D, hD, Lib.hid hf⟩
  have L2 : ∀ w2, Pur (w.alloc (.cells #[.string ⟨key.toArray⟩] 9)) w2 → (Instr.lookup 76 (.map (some p.m)) (.string ⟨key.toArray⟩) true).run Tryd.prog w2 = .ok (.tuple #[y.v, .bool false]) w2 := fun w2 h2 => by
    obtain ⟨D, hD, hf⟩ := M2 w2 h2
    refine look_run hD hkl ?_ ((hf.out key).1.trans hbo)
    rw [(hf.out key).2, ← hy]
    cases x.props key <;> rfl
  obtain ⟨yk, yn, yt, yr⟩ := y
  simp only [Va.v, Va.cells] at L2
  have ways : (x.kind = 2 ∧ ix (index key) = (0, false)) ∨ (decide (x.kind = 2) = false ∧ ix (index key) = (0, false)) ∨ (decide (x.kind = 2) = false ∧ ∃ q : Int, ix (index key) = (q, true)) := by
    by_cases h2 : x.kind = 2
    · rw [if_pos h2] at hki
      exact .inl ⟨h2, by rw [hki]; rfl⟩
    · right
      have hd : decide (x.kind = 2) = false := decide_eq_false h2
      rcases index key with _ | q
      · exact .inl ⟨hd, rfl⟩
      · exact .inr ⟨hd, q, rfl⟩
  have hfin : ∀ w', Pur w w' → Left w s w' s.d := fun w' hpp => ⟨s, h.pur hpp, Step.pur hpp, rfl, fun _ => rfl⟩
  clear h hx hp hxx hat hok hob hbo hy hki
  rcases ways with ⟨hk, hi⟩ | ⟨hk, hi⟩ | ⟨hk, q, hi⟩
  all_goals
    try rw [hi] at IX
    try (simp only [hi] at IX)
    try have hk' := of_decide_eq_true hk
    try have hk' := of_decide_eq_false hk
    go_enter Tryd.func24, Tryd.ntmps24
    go_wp2_with fail
    go_wp2_with fail
    refine (AT).mono ?_
    rintro e w1 ⟨rfl, rfl⟩
    go_wp2_with fail
    refine (IX _).mono ?_
    rintro e w2 ⟨rfl, h2⟩
    have B := (O2 _ h2).2.own
    try rw [hk] at B
    have q0 := bk_cell B 0 _ rfl
    have q6 := bk_cell B 6 _ rfl
    have a2 := h2.alloc (.cells #[.int .i64 0, .float .f64 0, .string ⟨#[]⟩, .int .i64 0] 33)
    have r6 := bk_cell (O2 _ a2).2.own 6 _ rfl
    have kk := k1 _ h2
    have kk2 := k1 _ a2
    have ll := L2 _ (drew_pur h2)
    have ll2 := L2 _ (drew_pur a2)
    clear AT IX O2 k1 B M2 L2
    go_wp2_with fail
    go_region
    all_goals
      go_wp2
      go_ret
      exact ⟨rfl, hfin _ (p1.trans (drew_pur (h2.alloc (.cells #[.int .i64 yk, .float .f64 yn, .string ⟨yt.toArray⟩, .int .i64 yr] 33))))⟩
set_option maxRecDepth 100000 in
set_option maxHeartbeats 8000000 in
theorem drop_prop (s : Hs) (i : Int) (x : Ob) (key : List UInt8) (w : World) (h : HpAt w s) {G : Nat} (hok : s.d.Ok G) (hx : s.d.obj i = some x) (hkl : key.length ≤ 1000000) (hki : (if x.kind = 2 then index key else none) = none) (hbo : (x.props key).isSome = true) :
    Calls Tryd.prog 24 #[.pointer (some ⟨s.h, 0, none⟩), .int .i64 i, .string ⟨key.toArray⟩] w fun e w' => e = .returned (.bool true) ∧ Left w s w' (s.d.turn i (x.unprop key) (s.d.left + 1)) := by
  have p1 : Pur w (w.alloc (.cells #[.string ⟨key.toArray⟩] 9)) := (Pur.refl w).alloc _
  obtain ⟨p, hp, hxx, hat, hob⟩ := h.pl hx
  have AT := at_any s i _ (h.pur p1)
  rw [hat] at AT
  have IX := fun w => index_any key w (by omega)
  have O2 : ∀ w2, Pur (w.alloc (.cells #[.string ⟨key.toArray⟩] 9)) w2 → HpAt w2 s ∧ ObIn w2 p x := fun w2 h2 => ⟨h.pur (p1.trans h2), (h.pur (p1.trans h2)).each _ _ _ hp hxx⟩
  have k1 := fun w2 (hq : Pur (w.alloc (.cells #[.string ⟨key.toArray⟩] 9)) w2) => bk_cell (bk_pur (bk_new w (.cells #[.string ⟨key.toArray⟩] 9)) hq) 0 _ rfl
  obtain ⟨y, hy⟩ : ∃ y, (x.props key).getD Va.zero = y := ⟨_, rfl⟩
  have M2 : ∀ w2, Pur (w.alloc (.cells #[.string ⟨key.toArray⟩] 9)) w2 → ∃ D, w2.ownsMap Tryd.prog 9 RV p.m x.keys.length D ∧ Hid (∀ k, Maps.has D (.string k) = (x.props k).isSome ∧ ∀ z, D.atKey (.string k) z = ((x.props k).map DataW.held).getD z) := fun w2 h2 => by
    obtain ⟨D, hD, hf⟩ := (O2 w2 h2).2.props
    exact ⟨D, hD, Lib.hid hf⟩
  have L2 : ∀ w2, Pur (w.alloc (.cells #[.string ⟨key.toArray⟩] 9)) w2 → (Instr.lookup 76 (.map (some p.m)) (.string ⟨key.toArray⟩) true).run Tryd.prog w2 = .ok (.tuple #[y.v, .bool true]) w2 := fun w2 h2 => by
    obtain ⟨D, hD, hf⟩ := M2 w2 h2
    refine look_run hD hkl ?_ ((hf.out key).1.trans hbo)
    rw [(hf.out key).2, ← hy]
    cases x.props key <;> rfl
  obtain ⟨yk, yn, yt, yr⟩ := y
  simp only [Va.v, Va.cells] at L2
  have ways : (x.kind = 2 ∧ ix (index key) = (0, false)) ∨ (decide (x.kind = 2) = false ∧ ix (index key) = (0, false)) ∨ (decide (x.kind = 2) = false ∧ ∃ q : Int, ix (index key) = (q, true)) := by
    by_cases h2 : x.kind = 2
    · rw [if_pos h2] at hki
      exact .inl ⟨h2, by rw [hki]; rfl⟩
    · right
      have hd : decide (x.kind = 2) = false := decide_eq_false h2
      rcases index key with _ | q
      · exact .inl ⟨hd, rfl⟩
      · exact .inr ⟨hd, q, rfl⟩
  have hb := hok.bounds
  have hobk := hok.at hx
  have hkl2 := (hok.mem (Hd.obj_mem hx).1).1
  simp only [Hs.d] at hb
  have wr : IntKind.i64.wrap (s.left + 1) = s.left + 1 := IntWalk.i64_in _ (by omega)
  have hkm : key ∈ x.keys := (hobk.2.2 key).2 hbo
  have hpos : 0 < x.keys.length := List.length_pos_of_mem hkm
  obtain ⟨g, cap, hkv⟩ : ∃ g cap, p.kv = .slice (some ⟨g, 0, none⟩) x.keys.length cap := by
    rcases hob.keys.2 with ⟨e1, h0⟩ | ⟨g, cap, cur, e1, -⟩
    · omega
    · exact ⟨g, cap, e1⟩
  have hcapn : x.keys.length ≤ cap := by
    rcases hob.keys.2 with ⟨e1, h0⟩ | ⟨g', cap', cur, e1, -, -, h3, -⟩
    · omega
    · rw [hkv] at e1; simp only [Value.slice.injEq] at e1; omega
  have hkey := key_lit (k := key) (by unfold maxLen; omega)
  have hhd := pl_head h hp
  have hlt0 := hob.lt
  have hsl := bk_lt h.own
  have hkb : p.kv.ownBlock = some g := by rw [hkv]; rfl
  have gB : w.heap.size ≠ g := fun e => by have := hlt0 g (by simp [Pl.blocks, hkb]); omega
  have mB : w.heap.size ≠ p.m := fun e => by have := hlt0 p.m (by simp [Pl.blocks]); omega
  have hB : w.heap.size ≠ s.h := by omega
  have mh : p.m ≠ s.h := fun e => hhd (by rw [← e]; simp [Pl.blocks])
  have L4 : ∀ w3, Pur w w3 → HpAt (w3.setCell ⟨s.h, 1, none⟩ (.int .i64 (s.left + 1))) (s.less (s.left + 1)) ∧ Step w s (w3.setCell ⟨s.h, 1, none⟩ (.int .i64 (s.left + 1))) (s.less (s.left + 1)) := fun w3 h3 =>
    ⟨((h.pur h3).less _).1, (Step.pur h3).trans ((h.pur h3).less _).2⟩
  have hpl : (s.less (s.left + 1)).ps[i.toNat]? = some p := hp
  have hxl : (s.less (s.left + 1)).xs[i.toNat]? = some x := hxx
  have E4 : ∀ w4, HpAt w4 (s.less (s.left + 1)) → ObIn w4 p x := fun w4 h4 => h4.each _ _ _ hpl hxl
  have DF : ∀ w6, w6.cell? ⟨w.heap.size, 0, none⟩ = some (.string ⟨key.toArray⟩) → w.heap.size < w6.heap.size → w6.ownsRow 0 9 1 (.slice (some ⟨g, 0, none⟩) x.keys.length cap) x.keys.length (keyVs x.keys) → Calls Tryd.prog 46 #[.slice (some ⟨g, 0, none⟩) x.keys.length cap, .func (.func 47) #[] #[.pointer (some ⟨w.heap.size, 0, none⟩)]] w6 fun e w' => e = .returned (.slice (some ⟨g, 0, none⟩) (x.keys.filter fun k => !(k == key)).length cap) ∧ ∃ q, w' = Sort.putRow strV (Sort.ahead w6 q) g 0 ((x.keys.filter fun k => !(k == key)) ++ List.replicate (x.keys.length - (x.keys.filter fun k => !(k == key)).length) []).toArray := fun w6 hc hlt hrow => by
    have eg : ∀ args w, (callFunc 47 args).run Tryd.prog w = .ok (.enter 47 args) w := enters_of Tryd.func47 (by kernel_rfl) rfl
    have hcon := Tryd.slices_DeleteFunc strV (fun _ => rfl) (fun k => k == key) 47 #[.pointer (some ⟨w.heap.size, 0, none⟩)] eg [] Tryd.zeroValue9 g 0 cap x.keys.toArray w6
      (fun W k hb => gives_drop key k w.heap.size W ((hb.cell (p := ⟨w.heap.size, 0, none⟩) hlt).trans hc))
      (fun n os dk k _ => gives_drop key k w.heap.size _ (by
        unfold sortWorld
        rw [Sort.cell?_grow _ _ _ (by show w.heap.size < (Sort.putRow _ _ _ _ _).heap.size; rw [Sort.size_putRow]; exact hlt), Sort.cell?_putRow_other _ _ g 0 _ _ (Or.inl gB)]
        exact hc))
      (fun j hj => by
        have hj' : j < x.keys.length := by simpa using hj
        rw [Nat.zero_add]
        refine ⟨?_, hrow.frozenAt j⟩
        rw [hrow.cellAt j (by omega), getElem!_pos _ j hj]
        simp [keyVs, strV, hj'])
      (by simp only [List.size_toArray]; omega) (by simpa using hcapn)
    simp only [List.size_toArray] at hcon
    exact hcon
  have hfin : ∀ (w4 w5 w6 : World) (D : DataW Va) (q : Nat), HpAt w4 (s.less (s.left + 1)) → Step w s w4 (s.less (s.left + 1)) → Pur w4 w5 → w5.ownsMap Tryd.prog 9 RV p.m x.keys.length D → Hid (∀ k, Maps.has D (.string k) = (x.props k).isSome ∧ ∀ z, D.atKey (.string k) z = ((x.props k).map DataW.held).getD z) → w6.ownsMap Tryd.prog 9 RV p.m x.keys.length (D.del (.string key)) → w5.mapTurned w6 p.m → Left w s ((Sort.putRow strV (Sort.ahead w6 q) g 0 ((x.keys.filter fun k => !(k == key)) ++ List.replicate (x.keys.length - (x.keys.filter fun k => !(k == key)).length) []).toArray).setCell ⟨p.o, 5, none⟩ (.slice (some ⟨g, 0, none⟩) (x.keys.filter fun k => !(k == key)).length cap)) (s.d.turn i (x.unprop key) (s.d.left + 1)) ∧ (Sort.putRow strV (Sort.ahead w6 q) g 0 ((x.keys.filter fun k => !(k == key)) ++ List.replicate (x.keys.length - (x.keys.filter fun k => !(k == key)).length) []).toArray).heap[p.o]? = some (.cells #[.int .i64 x.kind, .int .i64 x.proto, .int .i64 x.a, .int .i64 x.b, .int .i64 x.scope, p.kv, .map (some p.m), p.iv] 78 (0, 0)) := fun w4 w5 w6 D q h4 k4 h5 hD hf h6 ht => by
    obtain ⟨r1, r2, r3⟩ := prop_gone (q := q) h4 hpl hxl h5 hD hf.out h6 ht hbo hkv hobk
    exact ⟨⟨_, r1, k4.trans r2, rfl, fun j => (turn_at (s.less (s.left + 1)) i.toNat p ⟨p.o, p.m, .slice (some ⟨g, 0, none⟩) (x.keys.filter fun k => !(k == key)).length cap, p.iv⟩ _ hpl rfl j).trans (less_at s _ j)⟩, r3⟩
  have OK6 : ∀ w4 w5 w6, HpAt w4 (s.less (s.left + 1)) → Pur w4 w5 → w5.mapTurned w6 p.m → w6.ownsRow 0 9 1 (.slice (some ⟨g, 0, none⟩) x.keys.length cap) x.keys.length (keyVs x.keys) ∧ w6.cell? ⟨p.o, 5, none⟩ = some (.slice (some ⟨g, 0, none⟩) x.keys.length cap) := fun w4 w5 w6 h4 h5 ht => by
    have ob := E4 _ h4
    have hl4 := ob.lt
    have hnd := pl_nodup h hp
    unfold Pl.blocks at hnd
    simp only [List.nodup_cons, List.mem_cons, List.mem_append, not_or, Option.mem_toList] at hnd
    have hc := turned_chg ht
    constructor
    · rw [← hkv]
      refine World.ownsRow_same ob.keys fun b hb' => ?_
      have hlb := (ob.keys.lt b hb').2
      exact (hc.block _ (Nat.lt_of_lt_of_le hlb h5.size) (by simp only [List.mem_singleton]; exact fun e => hnd.2.1.1 (e ▸ hb'))).trans (h5.block _ hlb)
    · have B6 := (hc.block _ (bk_lt (bk_pur ob.own h5)) (by simpa using hnd.1.1)).trans (bk_pur ob.own h5)
      exact bk_cell B6 5 _ (by rw [← hkv]; rfl)
  clear hx hxx hat hok hbo hy hki hb hkm hsl hhd hlt0 hxl
  rcases ways with ⟨hk, hi⟩ | ⟨hk, hi⟩ | ⟨hk, q, hi⟩
  all_goals
    try rw [hi] at IX
    try (simp only [hi] at IX)
    try have hk' := of_decide_eq_true hk
    try have hk' := of_decide_eq_false hk
    go_enter Tryd.func24, Tryd.ntmps24
    go_wp2_with fail
    go_wp2_with fail
    refine (AT).mono ?_
    rintro e w1 ⟨rfl, rfl⟩
    go_wp2_with fail
    refine (IX _).mono ?_
    rintro e w2 ⟨rfl, h2⟩
    have B := (O2 _ h2).2.own
    try rw [hk] at B
    have q0 := bk_cell B 0 _ rfl
    have q6 := bk_cell B 6 _ rfl
    have a2 := h2.alloc (.cells #[.int .i64 0, .float .f64 0, .string ⟨#[]⟩, .int .i64 0] 33)
    have r6 := bk_cell (O2 _ a2).2.own 6 _ rfl
    have kk := k1 _ h2
    have kk2 := k1 _ a2
    have ll := L2 _ (drew_pur h2)
    have ll2 := L2 _ (drew_pur a2)
    skip
    go_wp2_with fail
    go_region
    all_goals
      obtain ⟨w3, hw3⟩ : ∃ w3, w3 = (w2.alloc (.cells #[.int .i64 yk, .float .f64 yn, .string ⟨yt.toArray⟩, .int .i64 yr] 33)).drew := ⟨_, rfl⟩
      rw [← hw3]
      have h3 : Pur (w.alloc (.cells #[.string ⟨key.toArray⟩] 9)) w3 := hw3 ▸ drew_pur (h2.alloc (.cells #[.int .i64 yk, .float .f64 yn, .string ⟨yt.toArray⟩, .int .i64 yr] 33))
      clear hw3
      have HB := (O2 _ h3).1.own
      have g1 := bk_cell HB 1 _ rfl
      have f1 := bk_free HB 1
      obtain ⟨H4, K4⟩ := L4 _ (p1.trans h3)
      obtain ⟨D, hD3, hf⟩ := M2 _ h3
      have V4 := bk_other (bk_pur (bk_new w (.cells #[.string ⟨key.toArray⟩] 9)) h3) (a := ⟨s.h, 1, none⟩) hB (.int .i64 (s.left + 1))
      have hD4 := hD3.setCell (a := ⟨s.h, 1, none⟩) mh (.int .i64 (s.left + 1))
      have Z6 : ∀ z : PW (w3.setCell ⟨s.h, 1, none⟩ (.int .i64 (s.left + 1))), z.to.cell? ⟨p.o, 6, none⟩ = some (.map (some p.m)) := fun z => bk_cell (bk_pur (E4 _ H4).own z.pur) 6 _ rfl
      have Zk : ∀ z : PW (w3.setCell ⟨s.h, 1, none⟩ (.int .i64 (s.left + 1))), z.to.cell? ⟨w.heap.size, 0, none⟩ = some (.string ⟨key.toArray⟩) := fun z => bk_cell (bk_pur V4 z.pur) 0 _ rfl
      have OK6' := fun w5 w6 => OK6 _ w5 w6 H4
      have hfin' := fun w5 w6 D q => hfin _ w5 w6 D q H4 K4
      clear AT IX O2 k1 B M2 L2 E4 L4 OK6 hfin H4 K4 hD3 HB q0 q6 r6 kk kk2 ll ll2 a2 h
      go_wp2_with fail
      refine wp_region_pur_tail 5 (by kernel_rfl) (by kernel_rfl) ?_
      simp only [List.take_succ_cons, List.take_zero, List.drop_succ_cons, List.drop_zero]
      repeat (go_big_quiet_step (fail))
      refine wpQuiet_nil ?_
      intro w5 h5
      have hD5 := World.ownsMap_same hD4 (h5.block _ hD4.lt)
      refine wpList_delete_own _ rfl _ _ 76 9 rfl 33 va_law Tryd.underlying76 RV p.m _ D rfl hD5 _ _ rfl hkey ?_
      intro w6 hown6 ht6
      obtain ⟨R6, q5⟩ := OK6' _ _ h5 ht6
      have V6 := ((turned_chg ht6).block _ (bk_lt (bk_pur V4 h5)) (by simpa using mB)).trans (bk_pur V4 h5)
      have DF' := DF w6 (bk_cell V6 0 _ rfl) (bk_lt V6) R6
      have HF := fun q => hfin' w5 w6 D q h5 hD5 hf hown6 ht6
      clear DF OK6' hfin' V6 R6 V4 hD4 hD5 hown6 Z6 Zk
      go_wp2_with fail
      refine DF'.mono ?_
      rintro e w7 ⟨rfl, q, rfl⟩
      obtain ⟨HG, B7⟩ := HF q
      have k5 := bk_cell B7 5 _ rfl
      have f5 := bk_free B7 5
      generalize Sort.putRow strV (Sort.ahead w6 q) g 0 ((x.keys.filter fun k => !(k == key)) ++ List.replicate (x.keys.length - (x.keys.filter fun k => !(k == key)).length) []).toArray = w7 at *
      clear DF' HF B7
      go_wp2
      go_ret
      exact ⟨rfl, HG⟩
theorem drop_any (s : Hs) (i : Int) (key : List UInt8) (w : World) (h : HpAt w s) {G : Nat} (hok : s.d.Ok G) (hkl : key.length ≤ 1000000) :
    Calls Tryd.prog 24 #[.pointer (some ⟨s.h, 0, none⟩), .int .i64 i, .string ⟨key.toArray⟩] w fun e w' => e = .returned (.bool (s.d.drop i key).1) ∧ Left w s w' (s.d.drop i key).2 := by
  unfold Hd.drop
  rcases hx : s.d.obj i with _ | x
  · exact drop_none s i key w h hx
  · simp only
    rcases hi : (if x.kind = 2 then index key else none) with _ | m
    · simp only
      rcases hb : (x.props key).isSome with _ | _
      · rw [if_neg (by simp)]
        exact drop_no s i x key w h hok hx hkl hi hb
      · rw [if_pos rfl]
        exact drop_prop s i x key w h hok hx hkl hi hb
    · have hk : x.kind = 2 := Classical.byContradiction fun hk => by rw [if_neg hk] at hi; cases hi
      rw [if_pos hk] at hi
      simp only
      by_cases hm : x.items.length ≤ m
      · rw [if_pos hm]
        exact drop_out s i x key w h hok hx hkl hk m hi hm
      · rw [if_neg hm]
        exact drop_item s i x key w h hok hx hkl hk m hi (by omega)
end Go.Proofs.YtfophnmnehpenaaDoor
