/- Layer 3: a builder, and what a write to it turns. Layer 3: texts with marks; what writes an attribute. Layer 3: Canon's writer (1): what it holds while it goes on. -/
import Derived.Test.YtigfcchblfnnbaaGreatDoorTkA
import Derived.Test.YtigfcchblfnnbaaGreatDoorTbE
import Derived.Test.YtigfcchblfnnbaaGreatDoorTe29
import Derived.Test.YtigfcchblfnnbaaGreatDoorTe22
import Derived.Test.YtigfcchblfnnbaaGreatDoorTeS
import Derived.Test.YtigfcchblfnnbaaGreatDoorTkD
import Derived.Maps.OwnSet
import Derived.Lib.ItoaLen
import Derived.Lib.AppendIntMem
namespace Go.Proofs.YtigfcchblfnnbaaGreatDoor
open Go Go.RowKit
set_option linter.all false
namespace Te
/-- block b is a builder whose row is v and holds acc -/
structure Bw (w : World) (B b : Nat) (v : Value) (acc : List UInt8) : Prop where
  own : ∃ p, (p = .pointer none ∨ p = .pointer (some ⟨b, 0, none⟩)) ∧ w.heap[b]? = some (.cells #[p, v] 77 (0, 0))
  row : w.ownsRow B 5 1 v acc.length (Lib.byteCells acc)
  ne : v.ownBlock ≠ some b
  low : B ≤ b
/-- the blocks that a write may turn -/
abbrev bwS (b : Nat) (v : Value) : List Nat := b :: v.ownBlock.toList
theorem Bw.lt {w : World} {B b : Nat} {v : Value} {acc : List UInt8} (h : Bw w B b v acc) : ∀ x ∈ bwS b v, B ≤ x ∧ x < w.heap.size := by
  intro x hx
  rcases List.mem_cons.1 hx with rfl | hx
  · obtain ⟨p, -, hb⟩ := h.own
    exact ⟨h.low, bk_lt hb⟩
  · exact h.row.lt x (by simpa using hx)
theorem Bw.typ {w : World} {B b : Nat} {v : Value} {acc : List UInt8} (h : Bw w B b v acc) : ∀ x ∈ bwS b v, ∃ C T, w.heap[x]? = some (.cells C T (0, 0)) ∧ (T = 77 ∨ T = 5) := by
  intro x hx
  rcases List.mem_cons.1 hx with rfl | hx
  · obtain ⟨p, -, hb⟩ := h.own
    exact ⟨_, _, hb, .inl rfl⟩
  · have hx : v.ownBlock = some x := by simpa using hx
    rcases h.row.2 with ⟨rfl, _⟩ | ⟨g', cap, cur, rfl, _, h2, _⟩
    · cases hx
    · cases hx; exact ⟨cur, 5, h2, .inr rfl⟩
/-- a block of another type is none of these -/
theorem Bw.off {w : World} {B b : Nat} {v : Value} {acc : List UInt8} (h : Bw w B b v acc) {g : Nat} {C : Array Value} {T : TypeId} {f : Nat × Nat} (hg : w.heap[g]? = some (.cells C T f)) (h1 : T ≠ 77) (h2 : T ≠ 5) : g ∉ bwS b v := by
  intro hm
  obtain ⟨C', T', e, ht⟩ := h.typ g hm
  rw [hg] at e
  simp at e
  rcases ht with rfl | rfl
  · exact h1 e.2.1
  · exact h2 e.2.1
theorem Bw.offM {w : World} {B b : Nat} {v : Value} {acc : List UInt8} (h : Bw w B b v acc) {g : Nat} {es : Array MapEntry} {c : Nat} (hg : w.heap[g]? = some (.map es c)) : g ∉ bwS b v := by
  intro hm
  obtain ⟨C', T', e, -⟩ := h.typ g hm
  rw [hg] at e
  cases e
theorem Bw.same {w w' : World} {B b : Nat} {v : Value} {acc : List UInt8} (h : Bw w B b v acc) (e : ∀ x ∈ bwS b v, w'.heap[x]? = w.heap[x]?) : Bw w' B b v acc := by
  obtain ⟨p, hp, hb⟩ := h.own
  exact ⟨⟨p, hp, (e b (by simp)).trans hb⟩, row_same h.row fun g hg => e g (by simp [hg]), h.ne, h.low⟩
theorem Bw.pur {w w' : World} {B b : Nat} {v : Value} {acc : List UInt8} (h : Bw w B b v acc) (hp : Pur w w') : Bw w' B b v acc := h.same fun x hx => hp.block x (h.lt x hx).2
/-- behind a write -/
structure Wrote (w : World) (B b : Nat) (v : Value) (w' : World) (acc : List UInt8) : Prop where
  out : ∃ v', Bw w' B b v' acc ∧ Chg (bwS b v) w w' ∧ ∀ g, v'.ownBlock = some g → v.ownBlock = some g ∨ w.heap.size ≤ g
section
variable {P : Program}
/-- where the longer row lies -/
theorem str_loc (w : World) (base : Nat) (t u ty e : TypeId) (i : TypeInfo) (ht : P.underlying t = some (.slice e)) (hu : P.underlying u = some .string) (hi : P.info? e = some i) (hz : i.zero = some (.int .u8 0))
    (hsize : i.size = 1) (hby : i.bytes = 1)
    (v : Value) (n : Nat) (xs : List Value) (hown : w.ownsRow base e 1 v n xs) (s : ByteArray)
    (h63 : n + s.size ≤ maxLen) (hbytes : n + s.size ≤ 140737488355328) (hbase : base ≤ w.heap.size) :
    ∃ v' w', (Builtin.append_ #[t, u] ty #[v, .string s]).run P w = .ok v' w' ∧ w'.ownsRow base e 1 v' (n + s.size) (xs ++ Lib.strCells s) ∧ w.grownBy w' v.ownBlock ∧
      ∀ g, v'.ownBlock = some g → v.ownBlock = some g ∨ w.heap.size ≤ g := by
  obtain ⟨v', w', hr, h1, h2, h3⟩ := Lib.run_append_own_string (P := P) w base t u ty e i ht hu hi hz hsize hby v n xs hown s h63 hbytes hbase
  refine ⟨v', w', hr, h1, h2, fun g hg => ?_⟩
  have hxl : xs.length = n := by simpa using hown.1
  rcases hown.2 with ⟨rfl, rfl⟩ | ⟨g0, cap, cur, rfl, hbg, hg0, hnc, hcm, hcs, htake⟩
  · have hx : xs = [] := List.eq_nil_of_length_eq_zero hxl
    subst hx
    obtain ⟨v2, w2, hr2, k1, -, -⟩ := Lib.run_append_own_string (P := P) w w.heap.size t u ty e i ht hu hi hz hsize hby (.slice none 0 0) 0 [] (World.ownsRow_nil _ _ _ _) s h63 hbytes (Nat.le_refl _)
    rw [hr] at hr2
    obtain ⟨rfl, rfl⟩ : v' = v2 ∧ w' = w2 := by simpa using hr2
    exact .inr (k1.lt g hg).1
  · by_cases hroom : n + s.size ≤ cap
    · have hcs' : cur.size = cap := by simpa using hcs
      have hr2 := Lib.run_append_room_string (P := P) w t u ty e i ht hu hi hsize g0 n cap cur hg0 s hroom (by omega)
      rw [hr] at hr2
      obtain ⟨rfl, -⟩ : v' = _ ∧ w' = _ := by simpa using hr2
      exact .inl hg
    · have holds : ∀ j u, xs[j]? = some u → w.cell? ((⟨g0, 0, none⟩ : Addr).add j) = some u := hown.cells (g := g0) rfl
      have hsmall : n + s.size ≤ 9223372036854775807 := by simp only [maxLen] at h63; omega
      have hr2 := Lib.run_append_grow_string (P := P) w t u ty e i (.int .u8 0) ht hu hi hz ⟨g0, 0, none⟩ n cap xs (by rw [hsize]; simpa using hxl) holds s (by omega) (by omega) (by rw [hby]; exact growslice_fits (by omega) (by omega))
      rw [hr] at hr2
      obtain ⟨rfl, -⟩ : v' = _ ∧ w' = _ := by simpa using hr2
      cases hg
      exact .inr (Nat.le_refl _)
theorem wpList_str_loc {w : World} {ops : Array Oper} {rest : List Oper} {o : Oper} {a : Act} {Q : Exit → Act → World → Prop} (hgd : o.guard = none) (sl x : Operand) (t u : TypeId)
    (ho : o.op = .call { callee := .builtin .append, args := #[sl, x], argTypes := #[t, u] })
    (base : Nat) (e : TypeId) (i : TypeInfo) (ht : P.underlying t = some (.slice e)) (hu : P.underlying u = some .string) (hi : P.info? e = some i) (hz : i.zero = some (.int .u8 0))
    (hsize : i.size = 1) (hby : i.bytes = 1)
    (v : Value) (n : Nat) (xs : List Value) (hs : a.eval sl = v) (hown : w.ownsRow base e 1 v n xs) (s : ByteArray) (hx : a.eval x = .string s)
    (h63 : n + s.size ≤ maxLen) (hbytes : n + s.size ≤ 140737488355328) (hbase : base ≤ w.heap.size)
    (h : ∀ v' w', w'.ownsRow base e 1 v' (n + s.size) (xs ++ Lib.strCells s) → w.grownBy w' v.ownBlock → (∀ g, v'.ownBlock = some g → v.ownBlock = some g ∨ w.heap.size ≤ g) → wpList P ops Q rest (a.put o.dst v') w') : wpList P ops Q (o :: rest) a w := by
  refine wpList_plain hgd fun K hK => ?_
  obtain ⟨v', w', hr, h2, h3, h4⟩ := str_loc (P := P) w base t u o.type e i ht hu hi hz hsize hby v n xs hown s h63 hbytes hbase
  unfold Oper.wp execOp
  simp only [ho, resolve, invoke, builtin, Sem.run_bind, Sem.run_pure, Result.andThen_ok, List.map_toArray, List.map_cons, List.map_nil, hs, hx, hr]
  exact hK _ _ (h v' w' h2 h3 h4)
end
set_option maxRecDepth 100000 in
set_option maxHeartbeats 4000000 in
/-- WriteString -/
theorem wstr {B b : Nat} {acc : List UInt8} {v : Value} {w : World} (h : Bw w B b v acc) (s : List UInt8) (hlen : acc.length + s.length ≤ 140737488355327) (hBw : B ≤ w.heap.size) :
    Calls Tryz.prog 38 #[.pointer (some ⟨b, 0, none⟩), .string ⟨s.toArray⟩] w fun e w' => e = .returned (.tuple #[.int .i64 s.length, .nilIface]) ∧ Wrote w B b v w' (acc ++ s) := by
  obtain ⟨i0, hi, hz0, hz1, hz2⟩ := info_parts byte_info
  have CC : Calls Tryz.prog 73 #[.pointer (some ⟨b, 0, none⟩)] w fun e w' => e = .returned (.tuple #[]) ∧ w'.heap[b]? = some (.cells #[.pointer (some ⟨b, 0, none⟩), v] 77 (0, 0)) ∧ Chg [b] w w' := by
    obtain ⟨p, rfl | rfl, hb⟩ := h.own
    · refine (copyCheck_fresh b w (bk_cell hb 0 _ rfl) (by simp [World.shape?, hb]) (bk_free hb 0)).mono ?_
      rintro e w' ⟨rfl, rfl⟩
      exact ⟨rfl, bk_set hb 0 _, (Chg.refl _ w).setCell (.inl (by simp)) _⟩
    · refine (copyCheck_used b w (bk_cell hb 0 _ rfl)).mono ?_
      rintro e w' ⟨rfl, rfl⟩
      exact ⟨rfl, hb, Chg.refl _ _⟩
  have hz : (ByteArray.mk s.toArray).size = s.length := by show s.toArray.size = _; simp
  have hbl : (Lib.byteCells acc).length = acc.length := by simp [Lib.byteCells]
  have hown0 : w.ownsRow B 5 1 v (Lib.byteCells acc).length (Lib.byteCells acc) := by rw [hbl]; exact h.row
  go_enter Tryz.func38, Tryz.ntmps38
  go_wp2_with (go_at_call 73; refine CC.mono ?_)
  rintro e w1 ⟨rfl, hbk, hc1⟩
  have hown := row_chg hown0 hc1 (fun g hg hm => h.ne (by rw [hg, List.mem_singleton.1 hm]))
  have c0 : w1.cell? ⟨b, 0, none⟩ = some (.pointer (some ⟨b, 0, none⟩)) := bk_cell hbk 0 _ rfl
  have c1 : w1.cell? ⟨b, 1, none⟩ = some v := bk_cell hbk 1 _ rfl
  clear CC
  go_wp2_with (at_builtin; refine wpList_str_loc rfl _ _ 75 9 rfl B 5 i0 Tryz.underlying75 Tryz.underlying9 hi hz0 hz1 hz2 _ _ _ rfl hown ⟨s.toArray⟩ rfl ?c3 ?c4 ?c5 ?_)
  case c3 => unfold maxLen; rw [hbl, hz]; omega
  case c4 => rw [hbl, hz]; omega
  case c5 => have := hc1.size; omega
  intro v' w2 hown' hgrow hloc
  have hb2 : w2.heap[b]? = some (.cells #[.pointer (some ⟨b, 0, none⟩), v] 77 (0, 0)) := by
    rw [hgrow.block b (bk_lt hbk) (fun e => h.ne e.symm)]
    exact hbk
  have d0 : w2.cell? ⟨b, 0, none⟩ = some (.pointer (some ⟨b, 0, none⟩)) := bk_cell hb2 0 _ rfl
  have d1 : w2.cell? ⟨b, 1, none⟩ = some v := bk_cell hb2 1 _ rfl
  have f1 : w2.frozen? ⟨b, 1, none⟩ = false := bk_free hb2 1
  obtain ⟨ao, n', cap, rfl⟩ : ∃ ao n' cap, v' = .slice ao n' cap := by
    rcases hown'.2 with ⟨hv, _⟩ | ⟨g, cap, cur, hv, _⟩
    · exact ⟨_, _, _, hv⟩
    · exact ⟨_, _, _, hv⟩
  have hb3 := bk_set hb2 1 (.slice ao n' cap)
  have hC : Chg (bwS b v) w (w2.setCell ⟨b, 1, none⟩ (.slice ao n' cap)) := (((hc1.mono (fun x hx => .inl (by simpa using Or.inl (List.mem_singleton.1 hx)))).grown hgrow (fun x hx => .inl (by simp [hx])))).setCell (.inl (by simp)) _
  have hne' : (Value.slice ao n' cap).ownBlock ≠ some b := by
    intro e2
    rcases hloc b e2 with e | e
    · exact h.ne e
    · have := bk_lt hbk
      omega
  have hrow3 : (w2.setCell ⟨b, 1, none⟩ (.slice ao n' cap)).ownsRow B 5 1 (.slice ao n' cap) (acc ++ s).length (Lib.byteCells (acc ++ s)) := by
    have e1 : Lib.byteCells acc ++ Lib.strCells ⟨s.toArray⟩ = Lib.byteCells (acc ++ s) := by simp [Lib.byteCells, Lib.strCells]
    have hown2 : w2.ownsRow B 5 1 (.slice ao n' cap) (acc.length + s.length) (Lib.byteCells (acc ++ s)) := by
      first | (rw [← e1]; rw [hbl, hz] at hown'; exact hown') | simpa [hbl, hz, e1] using hown'
    rw [List.length_append]
    exact row_chg hown2 (S := [b]) ((Chg.refl _ w2).setCell (.inl (by simp)) _) (fun g hg hm => hne' (by rw [hg, List.mem_singleton.1 hm]))
  have hsz := hc1.size
  go_wp2
  go_ret2
  refine ⟨by simp, ⟨_, ⟨⟨_, .inr rfl, hb3⟩, hrow3, hne', h.low⟩, hC, fun g hg => ?_⟩⟩
  rcases hloc g hg with e | e
  · exact .inl e
  · exact .inr (Nat.le_trans hsz e)
theorem Wrote.trans {w w1 w2 : World} {B b : Nat} {v : Value} {a1 a2 : List UInt8} (h : Wrote w B b v w1 a1) (k : ∀ v1, Bw w1 B b v1 a1 → Wrote w1 B b v1 w2 a2) : Wrote w B b v w2 a2 := by
  obtain ⟨v1, h1, h2, h3⟩ := h.out
  obtain ⟨v2, k1, k2, k3⟩ := (k v1 h1).out
  refine ⟨v2, k1, h2.next k2 (fun x hx => ?_), fun g hg => ?_⟩
  · rcases List.mem_cons.1 hx with rfl | hx
    · exact .inl (by simp)
    · rcases h3 x (by simpa using hx) with e | e
      · exact .inl (by simp [e])
      · exact .inr e
  · rcases k3 g hg with e | e
    · exact h3 g e
    · exact .inr (Nat.le_trans h2.size e)
theorem Wrote.after {w w1 w2 : World} {B b : Nat} {v : Value} {a2 : List UInt8} (hp : Pur w w1) (k : Wrote w1 B b v w2 a2) : Wrote w B b v w2 a2 := by
  obtain ⟨v2, k1, k2, k3⟩ := k.out
  exact ⟨v2, k1, (Chg.of_pur hp).trans k2, fun g hg => (k3 g hg).imp id (Nat.le_trans hp.size)⟩
theorem Wrote.pur {w w1 w2 : World} {B b : Nat} {v : Value} {a2 : List UInt8} (k : Wrote w B b v w1 a2) (hp : Pur w1 w2) : Wrote w B b v w2 a2 := by
  obtain ⟨v2, k1, k2, k3⟩ := k.out
  exact ⟨v2, k1.pur hp, k2.pur hp, k3⟩
theorem Bw.wrote {w : World} {B b : Nat} {v : Value} {acc : List UInt8} (h : Bw w B b v acc) : Wrote w B b v w acc := ⟨v, h, Chg.refl _ _, fun _ hg => .inl hg⟩
/-- what stays behind a write -/
theorem Wrote.keeps {w w' : World} {B b : Nat} {v : Value} {a0 acc : List UInt8} (h0 : Bw w B b v a0) (k : Wrote w B b v w' acc) {g : Nat} {C : Array Value} {T : TypeId} {f : Nat × Nat} (hg : w.heap[g]? = some (.cells C T f)) (h1 : T ≠ 77) (h2 : T ≠ 5) : w'.heap[g]? = some (.cells C T f) := by
  obtain ⟨v2, k1, k2, k3⟩ := k.out
  exact bk_chg hg k2 (h0.off hg h1 h2)
theorem Wrote.keepsM {w w' : World} {B b : Nat} {v : Value} {a0 acc : List UInt8} (h0 : Bw w B b v a0) (k : Wrote w B b v w' acc) {g : Nat} {es : Array MapEntry} {c : Nat} (hg : w.heap[g]? = some (.map es c)) : w'.heap[g]? = some (.map es c) := by
  obtain ⟨v2, k1, k2, k3⟩ := k.out
  exact bk_chg hg k2 (h0.offM hg)
theorem Wrote.size {w w' : World} {B b : Nat} {v : Value} {acc : List UInt8} (k : Wrote w B b v w' acc) : w.heap.size ≤ w'.heap.size := by
  obtain ⟨v2, k1, k2, k3⟩ := k.out
  exact k2.size
theorem Wrote.base {w0 w w' : World} {B b : Nat} {v : Value} {a0 acc : List UInt8} (h0 : Bw w B b v a0) (k : Wrote w B b v w' acc) (hp : Pur w0 w) (hB : w0.heap.size ≤ B) : Pur w0 w' := by
  obtain ⟨v2, k1, k2, k3⟩ := k.out
  exact ((Chg.of_pur (S := bwS b v) hp).trans k2).to_pur fun x hx => Nat.le_trans hB (h0.lt x hx).1
end Te
end Go.Proofs.YtigfcchblfnnbaaGreatDoor
namespace Go.Proofs.YtigfcchblfnnbaaGreatDoor
open Go Go.RowKit
set_option linter.all false
namespace Te
def mkV : Mk := [(38, [38, 97, 109, 112, 59]), (60, [38, 108, 116, 59]), (34, [38, 113, 117, 111, 116, 59]), (9, [38, 35, 57, 59]), (10, [38, 35, 49, 48, 59]), (13, [38, 35, 49, 51, 59])]
def mkT : Mk := [(38, [38, 97, 109, 112, 59]), (60, [38, 108, 116, 59]), (62, [38, 103, 116, 59]), (13, [38, 35, 49, 51, 59])]
theorem look_V : look mkV = markV := by
  funext c
  unfold markV mkV
  simp only [look_cons]
  by_cases h1 : c = 38
  · subst h1; rfl
  by_cases h2 : c = 60
  · subst h2; rfl
  by_cases h3 : c = 34
  · subst h3; rfl
  by_cases h4 : c = 9
  · subst h4; rfl
  by_cases h5 : c = 10
  · subst h5; rfl
  by_cases h6 : c = 13
  · subst h6; rfl
  rw [if_neg (Ne.symm h1), if_neg (Ne.symm h2), if_neg (Ne.symm h3), if_neg (Ne.symm h4), if_neg (Ne.symm h5), if_neg (Ne.symm h6), if_neg h1, if_neg h2, if_neg h3, if_neg h4, if_neg h5, if_neg h6]
  rfl
theorem look_T : look mkT = markT := by
  funext c
  unfold markT mkT
  simp only [look_cons]
  by_cases h1 : c = 38
  · subst h1; rfl
  by_cases h2 : c = 60
  · subst h2; rfl
  by_cases h3 : c = 62
  · subst h3; rfl
  by_cases h4 : c = 13
  · subst h4; rfl
  rw [if_neg (Ne.symm h1), if_neg (Ne.symm h2), if_neg (Ne.symm h3), if_neg (Ne.symm h4), if_neg h1, if_neg h2, if_neg h3, if_neg h4]
  rfl
theorem on_V {w : World} (h : XW w) : OldNew w 2 mkV := by
  refine ⟨World.block_lt_of_cell? w _ (h.vm 0 _ rfl), fun j p e => ?_, fun j p e => ?_⟩
  all_goals
    have hj : j < 6 := by have := (List.getElem?_eq_some_iff.1 e).1; simpa [mkV] using this
    rcases j with _ | _ | _ | _ | _ | _ | j
    iterate 6 (· cases e; exact h.vm _ _ rfl)
    · omega
theorem on_T {w : World} (h : XW w) : OldNew w 1 mkT := by
  refine ⟨World.block_lt_of_cell? w _ (h.tm 0 _ rfl), fun j p e => ?_, fun j p e => ?_⟩
  all_goals
    have hj : j < 4 := by have := (List.getElem?_eq_some_iff.1 e).1; simpa [mkT] using this
    rcases j with _ | _ | _ | _ | j
    iterate 4 (· cases e; exact h.tm _ _ rfl)
    · omega
set_option maxRecDepth 100000 in
set_option maxHeartbeats 8000000 in
theorem escape_any (ps : Mk) (l : Bs) (mg mc : Nat) (w : World) (ho : OldNew w mg ps) (h2 : 2 ≤ ps.length) (hl : ps.length ≤ 100) (hd : (ps.map Prod.fst).Nodup) (hn : ∀ p ∈ ps, 2 ≤ p.2.length ∧ p.2.length ≤ 6) (hll : l.length ≤ 2000000) :
    Calls Tryz.prog 39 #[.string ⟨l.toArray⟩, .slice (some ⟨mg, 0, none⟩) (2 * ps.length) mc] w fun e w' => e = .returned (.string ⟨(escB (look ps) l).toArray⟩) ∧ Pur w w' := by
  have NR := newReplacer_any ps mg mc w ho h2 hl
  have BR := bsr_any ps l hd (fun p hp => ⟨by have := (hn p hp).1; omega, (hn p hp).2⟩) (by omega) hl hll
  have RP := fun (b og oc : Nat) (w : World) a b' c d => replace_any ps l b og oc w BR a b' c h2 hl d hd (fun p hp => ⟨by have := (hn p hp).1; omega, by have := (hn p hp).2; omega⟩)
  go_enter Tryz.func39, Tryz.ntmps39
  go_wp2_with fail
  refine NR.mono ?_
  rintro e w1 ⟨b, og, oc, rfl, p1, hb, hc, ho1, hoc⟩
  have hne : og ≠ b := by
    rintro rfl
    have k1 := ho1.old 0 _ (List.getElem?_eq_getElem (by omega))
    rw [bk_cell hc 0 _ rfl] at k1
    cases k1
  have R1 := RP b og oc w1 ho1 hc hne hoc
  clear NR BR RP
  go_wp2_with fail
  refine R1.mono ?_
  rintro e w2 ⟨rfl, c2⟩
  go_wp2
  go_ret
  exact ⟨rfl, pur_chgS p1 c2 (by intro x hx; obtain rfl := List.mem_singleton.1 hx; exact hb)⟩
theorem esc_V (l : Bs) (w : World) (hX : XW w) (hll : l.length ≤ 2000000) :
    Calls Tryz.prog 39 #[.string ⟨l.toArray⟩, .slice (some ⟨2, 0, none⟩) 12 12] w fun e w' => e = .returned (.string ⟨(escB markV l).toArray⟩) ∧ Pur w w' := by
  rw [← look_V]
  exact escape_any mkV l _ 12 w (on_V hX) (by decide) (by decide) (by decide) (by decide) hll
theorem esc_T (l : Bs) (w : World) (hX : XW w) (hll : l.length ≤ 2000000) :
    Calls Tryz.prog 39 #[.string ⟨l.toArray⟩, .slice (some ⟨1, 0, none⟩) 8 8] w fun e w' => e = .returned (.string ⟨(escB markT l).toArray⟩) ∧ Pur w w' := by
  rw [← look_T]
  exact escape_any mkT l _ 8 w (on_T hX) (by decide) (by decide) (by decide) (by decide) hll
theorem escB_le (m : UInt8 → Option Bs) (hm : ∀ c n, m c = some n → n.length ≤ 6) : ∀ l : Bs, (escB m l).length ≤ 6 * l.length
  | [] => by simp [escB]
  | c :: l => by
    have := escB_le m hm l
    have e : escB m (c :: l) = (m c).getD [c] ++ escB m l := by simp [escB]
    rw [e, List.length_append, List.length_cons]
    cases h : m c with
    | none => simp; omega
    | some n => have := hm c n h; simp; omega
theorem escV_le (l : Bs) : (escB markV l).length ≤ 6 * l.length := escB_le _ (fun c n h => by
  rw [← look_V] at h
  obtain ⟨p, hp, rfl⟩ := look_some h
  have H : ∀ p ∈ mkV, p.2.length ≤ 6 := by decide
  exact H p hp) l
theorem escT_le (l : Bs) : (escB markT l).length ≤ 6 * l.length := escB_le _ (fun c n h => by
  rw [← look_T] at h
  obtain ⟨p, hp, rfl⟩ := look_some h
  have H : ∀ p ∈ mkT, p.2.length ≤ 6 := by decide
  exact H p hp) l
set_option maxRecDepth 100000 in
set_option maxHeartbeats 8000000 in
/-- what writes an attribute -/
theorem putc_any {B b : Nat} {acc : Bs} {v : Value} {w : World} (h : Bw w B b v acc) (cb : Nat) (nm val : Bs) (hX : XW w) (hc : w.cell? ⟨cb, 0, none⟩ = some (.pointer (some ⟨b, 0, none⟩)))
    (hv : val.length ≤ 2000000) (hlen : acc.length + nm.length + 12000100 ≤ 140737488355328) (hBw : B ≤ w.heap.size) :
    Calls Tryz.prog 40 #[.string ⟨nm.toArray⟩, .string ⟨val.toArray⟩, .pointer (some ⟨cb, 0, none⟩)] w fun e w' => e = .returned (.tuple #[]) ∧ Wrote w B b v w' (acc ++ putB nm val) := by
  have ES : ∀ x : PW w, Calls Tryz.prog 39 #[.string ⟨val.toArray⟩, .slice (some ⟨2, 0, none⟩) 12 12] x.to fun e w' => e = .returned (.string ⟨(escB markV val).toArray⟩) ∧ Pur x.to w' := fun x => esc_V val x.to (hX.pur x.pur) hv
  have HC : ∀ x : PW w, x.to.cell? ⟨cb, 0, none⟩ = some (.pointer (some ⟨b, 0, none⟩)) := fun x => cell_pur hc x.pur
  have hel := escV_le val
  have hput : putB nm val = 32 :: (nm ++ (61 :: 34 :: (escB markV val ++ [34]))) := by simp [putB]
  have HP := Lib.hid hput
  clear hput hc
  generalize escB markV val = E at *
  go_enter Tryz.func40, Tryz.ntmps40
  refine wp_region_pur_tail 9 (by kernel_rfl) (by kernel_rfl) ?_
  simp only [List.take_succ_cons, List.take_zero, List.drop_succ_cons, List.drop_zero]
  repeat (first | (quiet_step ((go_at_call 39; exact quiet_pur (ES _)))) | (refine wpQuiet_step (fun K hK => ?_); go_simp; apply Exists.intro; refine ⟨fun _ => ?_, hK _ ?_⟩; (rw [if_neg (by omega)]; exact ⟨rfl, rfl⟩); clear hK K))
  refine wpQuiet_nil ?_
  intro wq hq
  have WS := fun s hs => wstr (h.pur hq) s hs (Nat.le_trans hBw hq.size)
  go_wp2_with fail
  refine (WS _ ?hl).mono ?_
  case hl => simp; omega
  rintro e w2 ⟨rfl, hw⟩
  go_wp2
  go_end0
  exact ⟨rfl, by rw [HP.out]; exact Wrote.after hq hw⟩
end Te
end Go.Proofs.YtigfcchblfnnbaaGreatDoor
namespace Go.Proofs.YtigfcchblfnnbaaGreatDoor
open Go Go.RowKit
set_option linter.all false
namespace Te
open Tk (str_law key_lit)
theorem itoa_any (n : Nat) (w : World) (hX : XW w) (h1 : n ≤ 1000000000) :
    Calls Tryz.prog 41 #[.int .i64 (n : Int)] w fun e w' => e = .returned (.string ⟨(digs n).toArray⟩) ∧ Pur w w' := by
  refine (Tryz.strconv_Itoa n (by omega) (by omega) w hX.pow).mono ?_
  rintro e w' ⟨rfl, k, os, rfl⟩
  exact ⟨rfl, Lib.below_grow _ _ (Nat.le_refl _) _ _⟩
abbrev MapO (w : World) (mb n : Nat) (D : DataW Unit) : Prop := w.ownsMap Tryz.prog 9 (plainElem Tryz.prog 3) mb n D
theorem map_block {w : World} {mb n : Nat} {D : DataW Unit} (h : MapO w mb n D) : ∃ es c, w.heap[mb]? = some (.map es c) := by
  obtain ⟨es, c, h, -⟩ := h; exact ⟨es, c, h⟩
theorem map_same {w w' : World} {mb n : Nat} {D : DataW Unit} (h : MapO w mb n D) (e : w'.heap[mb]? = w.heap[mb]?) : MapO w' mb n D := by
  obtain ⟨es, c, h, r⟩ := h; exact ⟨es, c, e.trans h, r⟩
theorem map_pur {w w' : World} {mb n : Nat} {D : DataW Unit} (h : MapO w mb n D) (hp : Pur w w') : MapO w' mb n D := map_same h (hp.block mb h.lt)
/-- what the writer holds: the builder, the cells of its parameters, a node -/
structure Wr (w0 w wx : World) (B b : Nat) (v : Value) (acc : Bs) (c4 c5 c8 : Nat) (tv : Value) (nc : Array Value) : Prop where
  wrote : Wrote w B b v wx acc
  pur : Pur w0 wx
  low : w.heap.size ≤ c4 ∧ w.heap.size ≤ c5 ∧ w.heap.size ≤ c8
  h4 : wx.heap[c4]? = some (.cells #[.pointer (some ⟨b, 0, none⟩)] 74 (0, 0))
  h5 : wx.heap[c5]? = some (.cells #[tv] 29 (0, 0))
  h8 : wx.heap[c8]? = some (.cells nc 38 (0, 0))
theorem Wr.step {w0 w wx w' : World} {B b : Nat} {v : Value} {acc acc2 : Bs} {c4 c5 c8 : Nat} {tv : Value} {nc : Array Value} (h : Wr w0 w wx B b v acc c4 c5 c8 tv nc) (hB : w0.heap.size ≤ B) (k : ∀ v1, Bw wx B b v1 acc → Wrote wx B b v1 w' acc2) : Wr w0 w w' B b v acc2 c4 c5 c8 tv nc := by
  obtain ⟨v1, h1, h2, h3⟩ := h.wrote.out
  have K := k v1 h1
  exact ⟨h.wrote.trans fun v2 hv2 => k v2 hv2, K.base h1 h.pur hB, h.low, K.keeps h1 h.h4 (by decide) (by decide), K.keeps h1 h.h5 (by decide) (by decide), K.keeps h1 h.h8 (by decide) (by decide)⟩
theorem Wr.then {w0 w wx w' : World} {B b : Nat} {v : Value} {acc : Bs} {c4 c5 c8 : Nat} {tv : Value} {nc : Array Value} (h : Wr w0 w wx B b v acc c4 c5 c8 tv nc) (hp : Pur wx w') : Wr w0 w w' B b v acc c4 c5 c8 tv nc :=
  ⟨h.wrote.pur hp, h.pur.trans hp, h.low, bk_pur h.h4 hp, bk_pur h.h5 hp, bk_pur h.h8 hp⟩
/-- a map of its own turns -/
theorem Wr.turn {w0 w wx w' : World} {B b : Nat} {v : Value} {acc : Bs} {c4 c5 c8 : Nat} {tv : Value} {nc : Array Value} (h : Wr w0 w wx B b v acc c4 c5 c8 tv nc) {mb : Nat} (hm : ∃ es c, wx.heap[mb]? = some (.map es c)) (hl : w.heap.size ≤ mb) (hl0 : w0.heap.size ≤ mb) (hg : wx.grownBy w' (some mb)) : Wr w0 w w' B b v acc c4 c5 c8 tv nc := by
  obtain ⟨es, c, hm⟩ := hm
  obtain ⟨v1, h1, h2, h3⟩ := h.wrote.out
  have hne : ∀ {g : Nat} {C : Array Value} {T : TypeId} {f : Nat × Nat}, wx.heap[g]? = some (.cells C T f) → g ∉ [mb] := fun hg hm' => by
    rw [List.mem_singleton.1 hm', hm] at hg; cases hg
  have hc : Chg [mb] wx w' := (Chg.refl _ wx).grown hg (fun x hx => by cases hx; exact .inl (by simp))
  refine ⟨⟨v1, h1.same fun x hx => hc.block x (h1.lt x hx).2 fun hm' => ?_, h2.next hc (fun x hx => ?_), h3⟩, pur_chgS h.pur hc (fun x hx => ?_), h.low, bk_chg h.h4 hc (hne h.h4), bk_chg h.h5 hc (hne h.h5), bk_chg h.h8 hc (hne h.h8)⟩
  · obtain ⟨C, T, e, -⟩ := h1.typ x hx
    exact hne e hm'
  · rw [List.mem_singleton.1 hx]; exact .inr hl
  · rw [List.mem_singleton.1 hx]; exact hl0
theorem Wr.bw {w0 w wx : World} {B b : Nat} {v : Value} {acc : Bs} {c4 c5 c8 : Nat} {tv : Value} {nc : Array Value} (h : Wr w0 w wx B b v acc c4 c5 c8 tv nc) : ∃ v1, Bw wx B b v1 acc := by
  obtain ⟨v1, h1, h2, h3⟩ := h.wrote.out; exact ⟨v1, h1⟩
theorem Wrote.keepsMap {w w' : World} {B b : Nat} {v : Value} {a0 acc : Bs} (h0 : Bw w B b v a0) (k : Wrote w B b v w' acc) {mb n : Nat} {D : DataW Unit} (h : MapO w mb n D) : MapO w' mb n D := by
  obtain ⟨es, c, hm⟩ := map_block h
  exact map_same h (by rw [k.keepsM h0 hm, hm])
theorem zeroInt (w : World) : (zeroValue 3).run Tryz.prog w = .ok (.int .i64 0) w := by
  obtain ⟨i, hi, hz, hs, hb⟩ := info_parts Tk.int_info
  simp [zeroValue, typeInfo, hi, hz]
set_option maxRecDepth 100000 in
/-- the map's word at a prefix -/
theorem look_pfx {w : World} {mb n : Nat} {D : DataW Unit} {ss : List Bs} (h : MapO w mb n D) (hD : PfxD D ss) {s : Bs} (hs : s ∈ ss) (hl : s.length ≤ 2000000) (hn : ss.length ≤ 1000000) :
    (Instr.lookup 112 (.map (some mb)) (.string ⟨s.toArray⟩) false).run Tryz.prog w = .ok (.int .i64 ((ss.idxOf s + 1 : Nat) : Int)) w := by
  obtain ⟨c, hrun, hat, -⟩ := h.lookup_int (t := 112) (e := 3) str_law Tryz.underlying112 Tryz.underlying3 (zeroInt w) (key := .string ⟨s.toArray⟩) (kl := .string s) (key_lit (by unfold maxLen; omega))
  have hi : ss.idxOf s < ss.length := List.idxOf_lt_length_of_mem hs
  have hat2 := hD.at_ (ss.idxOf s) s (by rw [List.getElem?_eq_getElem hi, List.getElem_idxOf hi]) (.lit (.int .i64 0))
  rw [hat2] at hat
  simp only [DataW.lit.injEq, Lit.int.injEq, true_and] at hat
  rw [hrun, ← hat]
  rfl
end Te
end Go.Proofs.YtigfcchblfnnbaaGreatDoor
