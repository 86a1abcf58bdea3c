/- Layer 8: one call of a script, of the program: the walk. -/
import Derived.Test.YtfophnmnehpenaaDoorHA14
namespace Go.Proofs.YtfophnmnehpenaaDoor
open Go Go.RowKit
set_option linter.all false
set_option maxRecDepth 100000 in
set_option maxHeartbeats 16000000 in
theorem play_0 {w0 w : World} {hh G : Nat} {K : Nat → Prop} {d : Hd} (A : At w0 hh G K w d) (c : Cl) (hW : HpW w0) (hk : c.kind < 256) (hkl : c.key.length ≤ 1000000) (hv : c.v.wf) (hit : VRead2 w c.iv c.items) (hwf : ∀ x ∈ c.items, x.wf) (hn : c.items.length ≤ 1000000) (h9 : c.kind % 10 = 0) :
    Calls Tryd.prog 26 #[.pointer (some ⟨hh, 0, none⟩), c.vv] w fun e w' => (∃ v, e = .returned v) ∧ ∃ d', At w0 hh G K w' d' ∧ Kept K w w' := by
  obtain ⟨ck, ci, cn, cs, ⟨vk, vn, vt, vr⟩, its, cv⟩ := c
  have hKb : ∀ b, K b → b < w.heap.size := fun b hb => by obtain ⟨s, -, -, -, -, h5⟩ := A.ex; exact (h5 b hb).1
  have hw0 := A.pur.size
  have p1 : Pur w (((w.alloc (.cells #[.int .u8 ck, .int .i64 ci, .int .i64 cn, .string ⟨cs.toArray⟩, .int .i64 vk, .float .f64 vn, .string ⟨vt.toArray⟩, .int .i64 vr, cv] 54)).alloc (.cells #[.int .i64 0, .int .i64 0, .int .i64 0, .int .i64 0, .float .f64 0, .string ⟨#[]⟩, .int .i64 0, .bool false, .int .i64 0, .slice none 0 0, .slice none 0 0] 56)).alloc (.cells #[.int .i64 0, .int .i64 0, .int .i64 0, .int .i64 0, .float .f64 0, .string ⟨#[]⟩, .int .i64 0, .bool false, .int .i64 0, .slice none 0 0, .slice none 0 0] 56)) := (((Pur.refl w).alloc _).alloc _).alloc _
  have A1 : At w0 hh G (K3 K w.heap.size) (((w.alloc (.cells #[.int .u8 ck, .int .i64 ci, .int .i64 cn, .string ⟨cs.toArray⟩, .int .i64 vk, .float .f64 vn, .string ⟨vt.toArray⟩, .int .i64 vr, cv] 54)).alloc (.cells #[.int .i64 0, .int .i64 0, .int .i64 0, .int .i64 0, .float .f64 0, .string ⟨#[]⟩, .int .i64 0, .bool false, .int .i64 0, .slice none 0 0, .slice none 0 0] 56)).alloc (.cells #[.int .i64 0, .int .i64 0, .int .i64 0, .int .i64 0, .float .f64 0, .string ⟨#[]⟩, .int .i64 0, .bool false, .int .i64 0, .slice none 0 0, .slice none 0 0] 56)) d := by
    have a1 := A.keep ((Pur.refl w).alloc (.cells #[.int .u8 ck, .int .i64 ci, .int .i64 cn, .string ⟨cs.toArray⟩, .int .i64 vk, .float .f64 vn, .string ⟨vt.toArray⟩, .int .i64 vr, cv] 54)) w.heap.size (Nat.le_refl _) (by simp)
    have a2 := a1.keep ((Pur.refl (w.alloc (.cells #[.int .u8 ck, .int .i64 ci, .int .i64 cn, .string ⟨cs.toArray⟩, .int .i64 vk, .float .f64 vn, .string ⟨vt.toArray⟩, .int .i64 vr, cv] 54))).alloc (.cells #[.int .i64 0, .int .i64 0, .int .i64 0, .int .i64 0, .float .f64 0, .string ⟨#[]⟩, .int .i64 0, .bool false, .int .i64 0, .slice none 0 0, .slice none 0 0] 56)) (w.heap.size + 1) (by simp) (by simp)
    have a3 := a2.keep ((Pur.refl ((w.alloc (.cells #[.int .u8 ck, .int .i64 ci, .int .i64 cn, .string ⟨cs.toArray⟩, .int .i64 vk, .float .f64 vn, .string ⟨vt.toArray⟩, .int .i64 vr, cv] 54)).alloc (.cells #[.int .i64 0, .int .i64 0, .int .i64 0, .int .i64 0, .float .f64 0, .string ⟨#[]⟩, .int .i64 0, .bool false, .int .i64 0, .slice none 0 0, .slice none 0 0] 56))).alloc (.cells #[.int .i64 0, .int .i64 0, .int .i64 0, .int .i64 0, .float .f64 0, .string ⟨#[]⟩, .int .i64 0, .bool false, .int .i64 0, .slice none 0 0, .slice none 0 0] 56)) (w.heap.size + 1 + 1) (by simp) (by simp)
    exact a3
  have P1 : PR w0 hh G K (.cells #[.int .u8 ck, .int .i64 ci, .int .i64 cn, .string ⟨cs.toArray⟩, .int .i64 vk, .float .f64 vn, .string ⟨vt.toArray⟩, .int .i64 vr, cv] 54) w (((w.alloc (.cells #[.int .u8 ck, .int .i64 ci, .int .i64 cn, .string ⟨cs.toArray⟩, .int .i64 vk, .float .f64 vn, .string ⟨vt.toArray⟩, .int .i64 vr, cv] 54)).alloc (.cells #[.int .i64 0, .int .i64 0, .int .i64 0, .int .i64 0, .float .f64 0, .string ⟨#[]⟩, .int .i64 0, .bool false, .int .i64 0, .slice none 0 0, .slice none 0 0] 56)).alloc (.cells #[.int .i64 0, .int .i64 0, .int .i64 0, .int .i64 0, .float .f64 0, .string ⟨#[]⟩, .int .i64 0, .bool false, .int .i64 0, .slice none 0 0, .slice none 0 0] 56)) d Rp.zero := by
    refine ⟨A1, fun b hb => p1.block b (hKb b hb), ?_, ?_, bk_alloc (bk_alloc (bk_new w (.cells #[.int .u8 ck, .int .i64 ci, .int .i64 cn, .string ⟨cs.toArray⟩, .int .i64 vk, .float .f64 vn, .string ⟨vt.toArray⟩, .int .i64 vr, cv] 54)) (.cells #[.int .i64 0, .int .i64 0, .int .i64 0, .int .i64 0, .float .f64 0, .string ⟨#[]⟩, .int .i64 0, .bool false, .int .i64 0, .slice none 0 0, .slice none 0 0] 56)) (.cells #[.int .i64 0, .int .i64 0, .int .i64 0, .int .i64 0, .float .f64 0, .string ⟨#[]⟩, .int .i64 0, .bool false, .int .i64 0, .slice none 0 0, .slice none 0 0] 56)⟩
    · have := bk_new ((w.alloc (.cells #[.int .u8 ck, .int .i64 ci, .int .i64 cn, .string ⟨cs.toArray⟩, .int .i64 vk, .float .f64 vn, .string ⟨vt.toArray⟩, .int .i64 vr, cv] 54)).alloc (.cells #[.int .i64 0, .int .i64 0, .int .i64 0, .int .i64 0, .float .f64 0, .string ⟨#[]⟩, .int .i64 0, .bool false, .int .i64 0, .slice none 0 0, .slice none 0 0] 56)) (.cells #[.int .i64 0, .int .i64 0, .int .i64 0, .int .i64 0, .float .f64 0, .string ⟨#[]⟩, .int .i64 0, .bool false, .int .i64 0, .slice none 0 0, .slice none 0 0] 56)
      rw [show ((w.alloc (.cells #[.int .u8 ck, .int .i64 ci, .int .i64 cn, .string ⟨cs.toArray⟩, .int .i64 vk, .float .f64 vn, .string ⟨vt.toArray⟩, .int .i64 vr, cv] 54)).alloc (.cells #[.int .i64 0, .int .i64 0, .int .i64 0, .int .i64 0, .float .f64 0, .string ⟨#[]⟩, .int .i64 0, .bool false, .int .i64 0, .slice none 0 0, .slice none 0 0] 56)).heap.size = w.heap.size + 1 + 1 by simp] at this
      exact this
    · have := bk_alloc (bk_new (w.alloc (.cells #[.int .u8 ck, .int .i64 ci, .int .i64 cn, .string ⟨cs.toArray⟩, .int .i64 vk, .float .f64 vn, .string ⟨vt.toArray⟩, .int .i64 vr, cv] 54)) (.cells #[.int .i64 0, .int .i64 0, .int .i64 0, .int .i64 0, .float .f64 0, .string ⟨#[]⟩, .int .i64 0, .bool false, .int .i64 0, .slice none 0 0, .slice none 0 0] 56)) (.cells #[.int .i64 0, .int .i64 0, .int .i64 0, .int .i64 0, .float .f64 0, .string ⟨#[]⟩, .int .i64 0, .bool false, .int .i64 0, .slice none 0 0, .slice none 0 0] 56)
      rw [show (w.alloc (.cells #[.int .u8 ck, .int .i64 ci, .int .i64 cn, .string ⟨cs.toArray⟩, .int .i64 vk, .float .f64 vn, .string ⟨vt.toArray⟩, .int .i64 vr, cv] 54)).heap.size = w.heap.size + 1 by simp] at this
      exact this
  have hit1 := hit.pur p1
  simp only at hk hkl hv hwf hn hit1 h9
  simp only [Cl.vv, Cl.cells]
  clear hit A A1
  have e9 : (ck : Int) % 10 = 0 := by omega
  clear h9 hk
  go_enter Tryd.func26, Tryd.ntmps26
  have R := plain_st P1.hp ci
  go_wp2_with fail
  refine (R).mono ?_
  rintro e w2 ⟨rfl, A2, K2⟩
  have Q := P1.call A2 K2
  clear R A2 K2 P1 hit1 hwf
  have ⟨f0, c0⟩ := Q.cell 0 (.int .i64 0) rfl
  have Q0 := Q.set hKb hw0 0 (.int .i64 (d.plain ci).1.1) (r' := { Rp.zero with n := (d.plain ci).1.1 }) rfl
  obtain ⟨⟨rn, rm, rk, ⟨ra, rb, rc, rd⟩, rok, rerr, ka, kn, kc, ia, il, ic⟩, PX⟩ : ∃ r, PR w0 hh G K (.cells #[.int .u8 ck, .int .i64 ci, .int .i64 cn, .string ⟨cs.toArray⟩, .int .i64 vk, .float .f64 vn, .string ⟨vt.toArray⟩, .int .i64 vr, cv] 54) w _ _ r := ⟨_, Q0⟩
  obtain ⟨g8, k8⟩ := PX.cell 8 (.int .i64 rerr) rfl
  have Q := PX.set hKb hw0 8 (.int .i64 ((d.plain ci).1.2)) (r' := ⟨rn, rm, rk, ⟨ra, rb, rc, rd⟩, rok, (d.plain ci).1.2, ka, kn, kc, ia, il, ic⟩) rfl
  have s0 := (Q.cell 0 (.int .i64 rn) rfl).2
  have s1 := (Q.cell 1 (.int .i64 rm) rfl).2
  have s2 := (Q.cell 2 (.int .i64 rk) rfl).2
  have s3 := (Q.cell 3 (.int .i64 ra) rfl).2
  have s4 := (Q.cell 4 (.float .f64 rb) rfl).2
  have s5 := (Q.cell 5 (.string ⟨rc.toArray⟩) rfl).2
  have s6 := (Q.cell 6 (.int .i64 rd) rfl).2
  have s7 := (Q.cell 7 (.bool rok) rfl).2
  have s8 := (Q.cell 8 (.int .i64 ((d.plain ci).1.2)) rfl).2
  have s9 := (Q.cell 9 (.slice ka kn kc) rfl).2
  have s10 := (Q.cell 10 (.slice ia il ic) rfl).2
  have u0 := bk_free Q.c4 0
  have v0 := bk_cell Q.c4 0 (.int .i64 0) rfl
  have u1 := bk_free Q.c4 1
  have v1 := bk_cell Q.c4 1 (.int .i64 0) rfl
  have u2 := bk_free Q.c4 2
  have v2 := bk_cell Q.c4 2 (.int .i64 0) rfl
  have u3 := bk_free Q.c4 3
  have v3 := bk_cell Q.c4 3 (.int .i64 0) rfl
  have u4 := bk_free Q.c4 4
  have v4 := bk_cell Q.c4 4 (.float .f64 0) rfl
  have u5 := bk_free Q.c4 5
  have v5 := bk_cell Q.c4 5 (.string ⟨#[]⟩) rfl
  have u6 := bk_free Q.c4 6
  have v6 := bk_cell Q.c4 6 (.int .i64 0) rfl
  have u7 := bk_free Q.c4 7
  have v7 := bk_cell Q.c4 7 (.bool false) rfl
  have u8 := bk_free Q.c4 8
  have v8 := bk_cell Q.c4 8 (.int .i64 0) rfl
  have u9 := bk_free Q.c4 9
  have v9 := bk_cell Q.c4 9 (.slice none 0 0) rfl
  have u10 := bk_free Q.c4 10
  have v10 := bk_cell Q.c4 10 (.slice none 0 0) rfl
  have HF := And.intro Q.hp Q.kept
  clear Q PX
  go_wp2_with fail
  refine bodyPost_ret (v := .agg #[.int .i64 rn, .int .i64 rm, .int .i64 rk, .int .i64 ra, .float .f64 rb, .string ⟨rc.toArray⟩, .int .i64 rd, .bool rok, .int .i64 ((d.plain ci).1.2), .slice ka kn kc, .slice ia il ic]) (by simp [results, Tryd.results26, go_sem, v0, v1, v2, v3, v4, v5, v6, v7, v8, v9, v10]) rfl ?_
  refine ⟨⟨_, rfl⟩, (d.plain ci).2, ?_⟩
  have HG : ∀ wx, (At w0 hh G (K3 K w.heap.size) wx ((d.plain ci).2) ∧ Kept K w wx) → (At w0 hh G K wx ((d.plain ci).2) ∧ Kept K w wx) := fun wx h => ⟨h.1.sub (fun b hb => .inl (.inl (.inl hb))), h.2⟩
  refine HG _ ?_
  repeat (first | with_reducible exact HF | with_reducible refine fin_set hKb hw0 ?_ _ _)
set_option maxRecDepth 100000 in
set_option maxHeartbeats 16000000 in
theorem play_1 {w0 w : World} {hh G : Nat} {K : Nat → Prop} {d : Hd} (A : At w0 hh G K w d) (c : Cl) (hW : HpW w0) (hk : c.kind < 256) (hkl : c.key.length ≤ 1000000) (hv : c.v.wf) (hit : VRead2 w c.iv c.items) (hwf : ∀ x ∈ c.items, x.wf) (hn : c.items.length ≤ 1000000) (h9 : c.kind % 10 = 1) :
    Calls Tryd.prog 26 #[.pointer (some ⟨hh, 0, none⟩), c.vv] w fun e w' => (∃ v, e = .returned v) ∧ ∃ d', At w0 hh G K w' d' ∧ Kept K w w' := by
  obtain ⟨ck, ci, cn, cs, ⟨vk, vn, vt, vr⟩, its, cv⟩ := c
  have hKb : ∀ b, K b → b < w.heap.size := fun b hb => by obtain ⟨s, -, -, -, -, h5⟩ := A.ex; exact (h5 b hb).1
  have hw0 := A.pur.size
  have p1 : Pur w (((w.alloc (.cells #[.int .u8 ck, .int .i64 ci, .int .i64 cn, .string ⟨cs.toArray⟩, .int .i64 vk, .float .f64 vn, .string ⟨vt.toArray⟩, .int .i64 vr, cv] 54)).alloc (.cells #[.int .i64 0, .int .i64 0, .int .i64 0, .int .i64 0, .float .f64 0, .string ⟨#[]⟩, .int .i64 0, .bool false, .int .i64 0, .slice none 0 0, .slice none 0 0] 56)).alloc (.cells #[.int .i64 0, .int .i64 0, .int .i64 0, .int .i64 0, .float .f64 0, .string ⟨#[]⟩, .int .i64 0, .bool false, .int .i64 0, .slice none 0 0, .slice none 0 0] 56)) := (((Pur.refl w).alloc _).alloc _).alloc _
  have A1 : At w0 hh G (K3 K w.heap.size) (((w.alloc (.cells #[.int .u8 ck, .int .i64 ci, .int .i64 cn, .string ⟨cs.toArray⟩, .int .i64 vk, .float .f64 vn, .string ⟨vt.toArray⟩, .int .i64 vr, cv] 54)).alloc (.cells #[.int .i64 0, .int .i64 0, .int .i64 0, .int .i64 0, .float .f64 0, .string ⟨#[]⟩, .int .i64 0, .bool false, .int .i64 0, .slice none 0 0, .slice none 0 0] 56)).alloc (.cells #[.int .i64 0, .int .i64 0, .int .i64 0, .int .i64 0, .float .f64 0, .string ⟨#[]⟩, .int .i64 0, .bool false, .int .i64 0, .slice none 0 0, .slice none 0 0] 56)) d := by
    have a1 := A.keep ((Pur.refl w).alloc (.cells #[.int .u8 ck, .int .i64 ci, .int .i64 cn, .string ⟨cs.toArray⟩, .int .i64 vk, .float .f64 vn, .string ⟨vt.toArray⟩, .int .i64 vr, cv] 54)) w.heap.size (Nat.le_refl _) (by simp)
    have a2 := a1.keep ((Pur.refl (w.alloc (.cells #[.int .u8 ck, .int .i64 ci, .int .i64 cn, .string ⟨cs.toArray⟩, .int .i64 vk, .float .f64 vn, .string ⟨vt.toArray⟩, .int .i64 vr, cv] 54))).alloc (.cells #[.int .i64 0, .int .i64 0, .int .i64 0, .int .i64 0, .float .f64 0, .string ⟨#[]⟩, .int .i64 0, .bool false, .int .i64 0, .slice none 0 0, .slice none 0 0] 56)) (w.heap.size + 1) (by simp) (by simp)
    have a3 := a2.keep ((Pur.refl ((w.alloc (.cells #[.int .u8 ck, .int .i64 ci, .int .i64 cn, .string ⟨cs.toArray⟩, .int .i64 vk, .float .f64 vn, .string ⟨vt.toArray⟩, .int .i64 vr, cv] 54)).alloc (.cells #[.int .i64 0, .int .i64 0, .int .i64 0, .int .i64 0, .float .f64 0, .string ⟨#[]⟩, .int .i64 0, .bool false, .int .i64 0, .slice none 0 0, .slice none 0 0] 56))).alloc (.cells #[.int .i64 0, .int .i64 0, .int .i64 0, .int .i64 0, .float .f64 0, .string ⟨#[]⟩, .int .i64 0, .bool false, .int .i64 0, .slice none 0 0, .slice none 0 0] 56)) (w.heap.size + 1 + 1) (by simp) (by simp)
    exact a3
  have P1 : PR w0 hh G K (.cells #[.int .u8 ck, .int .i64 ci, .int .i64 cn, .string ⟨cs.toArray⟩, .int .i64 vk, .float .f64 vn, .string ⟨vt.toArray⟩, .int .i64 vr, cv] 54) w (((w.alloc (.cells #[.int .u8 ck, .int .i64 ci, .int .i64 cn, .string ⟨cs.toArray⟩, .int .i64 vk, .float .f64 vn, .string ⟨vt.toArray⟩, .int .i64 vr, cv] 54)).alloc (.cells #[.int .i64 0, .int .i64 0, .int .i64 0, .int .i64 0, .float .f64 0, .string ⟨#[]⟩, .int .i64 0, .bool false, .int .i64 0, .slice none 0 0, .slice none 0 0] 56)).alloc (.cells #[.int .i64 0, .int .i64 0, .int .i64 0, .int .i64 0, .float .f64 0, .string ⟨#[]⟩, .int .i64 0, .bool false, .int .i64 0, .slice none 0 0, .slice none 0 0] 56)) d Rp.zero := by
    refine ⟨A1, fun b hb => p1.block b (hKb b hb), ?_, ?_, bk_alloc (bk_alloc (bk_new w (.cells #[.int .u8 ck, .int .i64 ci, .int .i64 cn, .string ⟨cs.toArray⟩, .int .i64 vk, .float .f64 vn, .string ⟨vt.toArray⟩, .int .i64 vr, cv] 54)) (.cells #[.int .i64 0, .int .i64 0, .int .i64 0, .int .i64 0, .float .f64 0, .string ⟨#[]⟩, .int .i64 0, .bool false, .int .i64 0, .slice none 0 0, .slice none 0 0] 56)) (.cells #[.int .i64 0, .int .i64 0, .int .i64 0, .int .i64 0, .float .f64 0, .string ⟨#[]⟩, .int .i64 0, .bool false, .int .i64 0, .slice none 0 0, .slice none 0 0] 56)⟩
    · have := bk_new ((w.alloc (.cells #[.int .u8 ck, .int .i64 ci, .int .i64 cn, .string ⟨cs.toArray⟩, .int .i64 vk, .float .f64 vn, .string ⟨vt.toArray⟩, .int .i64 vr, cv] 54)).alloc (.cells #[.int .i64 0, .int .i64 0, .int .i64 0, .int .i64 0, .float .f64 0, .string ⟨#[]⟩, .int .i64 0, .bool false, .int .i64 0, .slice none 0 0, .slice none 0 0] 56)) (.cells #[.int .i64 0, .int .i64 0, .int .i64 0, .int .i64 0, .float .f64 0, .string ⟨#[]⟩, .int .i64 0, .bool false, .int .i64 0, .slice none 0 0, .slice none 0 0] 56)
      rw [show ((w.alloc (.cells #[.int .u8 ck, .int .i64 ci, .int .i64 cn, .string ⟨cs.toArray⟩, .int .i64 vk, .float .f64 vn, .string ⟨vt.toArray⟩, .int .i64 vr, cv] 54)).alloc (.cells #[.int .i64 0, .int .i64 0, .int .i64 0, .int .i64 0, .float .f64 0, .string ⟨#[]⟩, .int .i64 0, .bool false, .int .i64 0, .slice none 0 0, .slice none 0 0] 56)).heap.size = w.heap.size + 1 + 1 by simp] at this
      exact this
    · have := bk_alloc (bk_new (w.alloc (.cells #[.int .u8 ck, .int .i64 ci, .int .i64 cn, .string ⟨cs.toArray⟩, .int .i64 vk, .float .f64 vn, .string ⟨vt.toArray⟩, .int .i64 vr, cv] 54)) (.cells #[.int .i64 0, .int .i64 0, .int .i64 0, .int .i64 0, .float .f64 0, .string ⟨#[]⟩, .int .i64 0, .bool false, .int .i64 0, .slice none 0 0, .slice none 0 0] 56)) (.cells #[.int .i64 0, .int .i64 0, .int .i64 0, .int .i64 0, .float .f64 0, .string ⟨#[]⟩, .int .i64 0, .bool false, .int .i64 0, .slice none 0 0, .slice none 0 0] 56)
      rw [show (w.alloc (.cells #[.int .u8 ck, .int .i64 ci, .int .i64 cn, .string ⟨cs.toArray⟩, .int .i64 vk, .float .f64 vn, .string ⟨vt.toArray⟩, .int .i64 vr, cv] 54)).heap.size = w.heap.size + 1 by simp] at this
      exact this
  have hit1 := hit.pur p1
  simp only at hk hkl hv hwf hn hit1 h9
  simp only [Cl.vv, Cl.cells]
  clear hit A A1
  have e9 : (ck : Int) % 10 = 1 := by omega
  clear h9 hk
  go_enter Tryd.func26, Tryd.ntmps26
  have R := array2_st P1.hp cv its hit1 hwf hn
  go_wp2_with fail
  refine (R).mono ?_
  rintro e w2 ⟨rfl, A2, K2⟩
  have Q := P1.call A2 K2
  clear R A2 K2 P1 hit1 hwf
  have ⟨f0, c0⟩ := Q.cell 0 (.int .i64 0) rfl
  have Q0 := Q.set hKb hw0 0 (.int .i64 (d.array its).1.1) (r' := { Rp.zero with n := (d.array its).1.1 }) rfl
  obtain ⟨⟨rn, rm, rk, ⟨ra, rb, rc, rd⟩, rok, rerr, ka, kn, kc, ia, il, ic⟩, PX⟩ : ∃ r, PR w0 hh G K (.cells #[.int .u8 ck, .int .i64 ci, .int .i64 cn, .string ⟨cs.toArray⟩, .int .i64 vk, .float .f64 vn, .string ⟨vt.toArray⟩, .int .i64 vr, cv] 54) w _ _ r := ⟨_, Q0⟩
  obtain ⟨g8, k8⟩ := PX.cell 8 (.int .i64 rerr) rfl
  have Q := PX.set hKb hw0 8 (.int .i64 ((d.array its).1.2)) (r' := ⟨rn, rm, rk, ⟨ra, rb, rc, rd⟩, rok, (d.array its).1.2, ka, kn, kc, ia, il, ic⟩) rfl
  have s0 := (Q.cell 0 (.int .i64 rn) rfl).2
  have s1 := (Q.cell 1 (.int .i64 rm) rfl).2
  have s2 := (Q.cell 2 (.int .i64 rk) rfl).2
  have s3 := (Q.cell 3 (.int .i64 ra) rfl).2
  have s4 := (Q.cell 4 (.float .f64 rb) rfl).2
  have s5 := (Q.cell 5 (.string ⟨rc.toArray⟩) rfl).2
  have s6 := (Q.cell 6 (.int .i64 rd) rfl).2
  have s7 := (Q.cell 7 (.bool rok) rfl).2
  have s8 := (Q.cell 8 (.int .i64 ((d.array its).1.2)) rfl).2
  have s9 := (Q.cell 9 (.slice ka kn kc) rfl).2
  have s10 := (Q.cell 10 (.slice ia il ic) rfl).2
  have u0 := bk_free Q.c4 0
  have v0 := bk_cell Q.c4 0 (.int .i64 0) rfl
  have u1 := bk_free Q.c4 1
  have v1 := bk_cell Q.c4 1 (.int .i64 0) rfl
  have u2 := bk_free Q.c4 2
  have v2 := bk_cell Q.c4 2 (.int .i64 0) rfl
  have u3 := bk_free Q.c4 3
  have v3 := bk_cell Q.c4 3 (.int .i64 0) rfl
  have u4 := bk_free Q.c4 4
  have v4 := bk_cell Q.c4 4 (.float .f64 0) rfl
  have u5 := bk_free Q.c4 5
  have v5 := bk_cell Q.c4 5 (.string ⟨#[]⟩) rfl
  have u6 := bk_free Q.c4 6
  have v6 := bk_cell Q.c4 6 (.int .i64 0) rfl
  have u7 := bk_free Q.c4 7
  have v7 := bk_cell Q.c4 7 (.bool false) rfl
  have u8 := bk_free Q.c4 8
  have v8 := bk_cell Q.c4 8 (.int .i64 0) rfl
  have u9 := bk_free Q.c4 9
  have v9 := bk_cell Q.c4 9 (.slice none 0 0) rfl
  have u10 := bk_free Q.c4 10
  have v10 := bk_cell Q.c4 10 (.slice none 0 0) rfl
  have HF := And.intro Q.hp Q.kept
  clear Q PX
  go_wp2_with fail
  refine bodyPost_ret (v := .agg #[.int .i64 rn, .int .i64 rm, .int .i64 rk, .int .i64 ra, .float .f64 rb, .string ⟨rc.toArray⟩, .int .i64 rd, .bool rok, .int .i64 ((d.array its).1.2), .slice ka kn kc, .slice ia il ic]) (by simp [results, Tryd.results26, go_sem, v0, v1, v2, v3, v4, v5, v6, v7, v8, v9, v10]) rfl ?_
  refine ⟨⟨_, rfl⟩, (d.array its).2, ?_⟩
  have HG : ∀ wx, (At w0 hh G (K3 K w.heap.size) wx ((d.array its).2) ∧ Kept K w wx) → (At w0 hh G K wx ((d.array its).2) ∧ Kept K w wx) := fun wx h => ⟨h.1.sub (fun b hb => .inl (.inl (.inl hb))), h.2⟩
  refine HG _ ?_
  repeat (first | with_reducible exact HF | with_reducible refine fin_set hKb hw0 ?_ _ _)
set_option maxRecDepth 100000 in
set_option maxHeartbeats 16000000 in
theorem play_2 {w0 w : World} {hh G : Nat} {K : Nat → Prop} {d : Hd} (A : At w0 hh G K w d) (c : Cl) (hW : HpW w0) (hk : c.kind < 256) (hkl : c.key.length ≤ 1000000) (hv : c.v.wf) (hit : VRead2 w c.iv c.items) (hwf : ∀ x ∈ c.items, x.wf) (hn : c.items.length ≤ 1000000) (h9 : c.kind % 10 = 2) :
    Calls Tryd.prog 26 #[.pointer (some ⟨hh, 0, none⟩), c.vv] w fun e w' => (∃ v, e = .returned v) ∧ ∃ d', At w0 hh G K w' d' ∧ Kept K w w' := by
  obtain ⟨ck, ci, cn, cs, ⟨vk, vn, vt, vr⟩, its, cv⟩ := c
  have hKb : ∀ b, K b → b < w.heap.size := fun b hb => by obtain ⟨s, -, -, -, -, h5⟩ := A.ex; exact (h5 b hb).1
  have hw0 := A.pur.size
  have p1 : Pur w (((w.alloc (.cells #[.int .u8 ck, .int .i64 ci, .int .i64 cn, .string ⟨cs.toArray⟩, .int .i64 vk, .float .f64 vn, .string ⟨vt.toArray⟩, .int .i64 vr, cv] 54)).alloc (.cells #[.int .i64 0, .int .i64 0, .int .i64 0, .int .i64 0, .float .f64 0, .string ⟨#[]⟩, .int .i64 0, .bool false, .int .i64 0, .slice none 0 0, .slice none 0 0] 56)).alloc (.cells #[.int .i64 0, .int .i64 0, .int .i64 0, .int .i64 0, .float .f64 0, .string ⟨#[]⟩, .int .i64 0, .bool false, .int .i64 0, .slice none 0 0, .slice none 0 0] 56)) := (((Pur.refl w).alloc _).alloc _).alloc _
  have A1 : At w0 hh G (K3 K w.heap.size) (((w.alloc (.cells #[.int .u8 ck, .int .i64 ci, .int .i64 cn, .string ⟨cs.toArray⟩, .int .i64 vk, .float .f64 vn, .string ⟨vt.toArray⟩, .int .i64 vr, cv] 54)).alloc (.cells #[.int .i64 0, .int .i64 0, .int .i64 0, .int .i64 0, .float .f64 0, .string ⟨#[]⟩, .int .i64 0, .bool false, .int .i64 0, .slice none 0 0, .slice none 0 0] 56)).alloc (.cells #[.int .i64 0, .int .i64 0, .int .i64 0, .int .i64 0, .float .f64 0, .string ⟨#[]⟩, .int .i64 0, .bool false, .int .i64 0, .slice none 0 0, .slice none 0 0] 56)) d := by
    have a1 := A.keep ((Pur.refl w).alloc (.cells #[.int .u8 ck, .int .i64 ci, .int .i64 cn, .string ⟨cs.toArray⟩, .int .i64 vk, .float .f64 vn, .string ⟨vt.toArray⟩, .int .i64 vr, cv] 54)) w.heap.size (Nat.le_refl _) (by simp)
    have a2 := a1.keep ((Pur.refl (w.alloc (.cells #[.int .u8 ck, .int .i64 ci, .int .i64 cn, .string ⟨cs.toArray⟩, .int .i64 vk, .float .f64 vn, .string ⟨vt.toArray⟩, .int .i64 vr, cv] 54))).alloc (.cells #[.int .i64 0, .int .i64 0, .int .i64 0, .int .i64 0, .float .f64 0, .string ⟨#[]⟩, .int .i64 0, .bool false, .int .i64 0, .slice none 0 0, .slice none 0 0] 56)) (w.heap.size + 1) (by simp) (by simp)
    have a3 := a2.keep ((Pur.refl ((w.alloc (.cells #[.int .u8 ck, .int .i64 ci, .int .i64 cn, .string ⟨cs.toArray⟩, .int .i64 vk, .float .f64 vn, .string ⟨vt.toArray⟩, .int .i64 vr, cv] 54)).alloc (.cells #[.int .i64 0, .int .i64 0, .int .i64 0, .int .i64 0, .float .f64 0, .string ⟨#[]⟩, .int .i64 0, .bool false, .int .i64 0, .slice none 0 0, .slice none 0 0] 56))).alloc (.cells #[.int .i64 0, .int .i64 0, .int .i64 0, .int .i64 0, .float .f64 0, .string ⟨#[]⟩, .int .i64 0, .bool false, .int .i64 0, .slice none 0 0, .slice none 0 0] 56)) (w.heap.size + 1 + 1) (by simp) (by simp)
    exact a3
  have P1 : PR w0 hh G K (.cells #[.int .u8 ck, .int .i64 ci, .int .i64 cn, .string ⟨cs.toArray⟩, .int .i64 vk, .float .f64 vn, .string ⟨vt.toArray⟩, .int .i64 vr, cv] 54) w (((w.alloc (.cells #[.int .u8 ck, .int .i64 ci, .int .i64 cn, .string ⟨cs.toArray⟩, .int .i64 vk, .float .f64 vn, .string ⟨vt.toArray⟩, .int .i64 vr, cv] 54)).alloc (.cells #[.int .i64 0, .int .i64 0, .int .i64 0, .int .i64 0, .float .f64 0, .string ⟨#[]⟩, .int .i64 0, .bool false, .int .i64 0, .slice none 0 0, .slice none 0 0] 56)).alloc (.cells #[.int .i64 0, .int .i64 0, .int .i64 0, .int .i64 0, .float .f64 0, .string ⟨#[]⟩, .int .i64 0, .bool false, .int .i64 0, .slice none 0 0, .slice none 0 0] 56)) d Rp.zero := by
    refine ⟨A1, fun b hb => p1.block b (hKb b hb), ?_, ?_, bk_alloc (bk_alloc (bk_new w (.cells #[.int .u8 ck, .int .i64 ci, .int .i64 cn, .string ⟨cs.toArray⟩, .int .i64 vk, .float .f64 vn, .string ⟨vt.toArray⟩, .int .i64 vr, cv] 54)) (.cells #[.int .i64 0, .int .i64 0, .int .i64 0, .int .i64 0, .float .f64 0, .string ⟨#[]⟩, .int .i64 0, .bool false, .int .i64 0, .slice none 0 0, .slice none 0 0] 56)) (.cells #[.int .i64 0, .int .i64 0, .int .i64 0, .int .i64 0, .float .f64 0, .string ⟨#[]⟩, .int .i64 0, .bool false, .int .i64 0, .slice none 0 0, .slice none 0 0] 56)⟩
    · have := bk_new ((w.alloc (.cells #[.int .u8 ck, .int .i64 ci, .int .i64 cn, .string ⟨cs.toArray⟩, .int .i64 vk, .float .f64 vn, .string ⟨vt.toArray⟩, .int .i64 vr, cv] 54)).alloc (.cells #[.int .i64 0, .int .i64 0, .int .i64 0, .int .i64 0, .float .f64 0, .string ⟨#[]⟩, .int .i64 0, .bool false, .int .i64 0, .slice none 0 0, .slice none 0 0] 56)) (.cells #[.int .i64 0, .int .i64 0, .int .i64 0, .int .i64 0, .float .f64 0, .string ⟨#[]⟩, .int .i64 0, .bool false, .int .i64 0, .slice none 0 0, .slice none 0 0] 56)
      rw [show ((w.alloc (.cells #[.int .u8 ck, .int .i64 ci, .int .i64 cn, .string ⟨cs.toArray⟩, .int .i64 vk, .float .f64 vn, .string ⟨vt.toArray⟩, .int .i64 vr, cv] 54)).alloc (.cells #[.int .i64 0, .int .i64 0, .int .i64 0, .int .i64 0, .float .f64 0, .string ⟨#[]⟩, .int .i64 0, .bool false, .int .i64 0, .slice none 0 0, .slice none 0 0] 56)).heap.size = w.heap.size + 1 + 1 by simp] at this
      exact this
    · have := bk_alloc (bk_new (w.alloc (.cells #[.int .u8 ck, .int .i64 ci, .int .i64 cn, .string ⟨cs.toArray⟩, .int .i64 vk, .float .f64 vn, .string ⟨vt.toArray⟩, .int .i64 vr, cv] 54)) (.cells #[.int .i64 0, .int .i64 0, .int .i64 0, .int .i64 0, .float .f64 0, .string ⟨#[]⟩, .int .i64 0, .bool false, .int .i64 0, .slice none 0 0, .slice none 0 0] 56)) (.cells #[.int .i64 0, .int .i64 0, .int .i64 0, .int .i64 0, .float .f64 0, .string ⟨#[]⟩, .int .i64 0, .bool false, .int .i64 0, .slice none 0 0, .slice none 0 0] 56)
      rw [show (w.alloc (.cells #[.int .u8 ck, .int .i64 ci, .int .i64 cn, .string ⟨cs.toArray⟩, .int .i64 vk, .float .f64 vn, .string ⟨vt.toArray⟩, .int .i64 vr, cv] 54)).heap.size = w.heap.size + 1 by simp] at this
      exact this
  have hit1 := hit.pur p1
  simp only at hk hkl hv hwf hn hit1 h9
  simp only [Cl.vv, Cl.cells]
  clear hit A A1
  have e9 : (ck : Int) % 10 = 2 := by omega
  clear h9 hk
  go_enter Tryd.func26, Tryd.ntmps26
  have R := func_st P1.hp cn cs.length ci
  go_wp2_with fail
  refine (R).mono ?_
  rintro e w2 ⟨rfl, A2, K2⟩
  have Q := P1.call A2 K2
  clear R A2 K2 P1 hit1 hwf
  have ⟨f0, c0⟩ := Q.cell 0 (.int .i64 0) rfl
  have Q0 := Q.set hKb hw0 0 (.int .i64 (d.func cn cs.length ci).1.1) (r' := { Rp.zero with n := (d.func cn cs.length ci).1.1 }) rfl
  obtain ⟨⟨rn, rm, rk, ⟨ra, rb, rc, rd⟩, rok, rerr, ka, kn, kc, ia, il, ic⟩, PX⟩ : ∃ r, PR w0 hh G K (.cells #[.int .u8 ck, .int .i64 ci, .int .i64 cn, .string ⟨cs.toArray⟩, .int .i64 vk, .float .f64 vn, .string ⟨vt.toArray⟩, .int .i64 vr, cv] 54) w _ _ r := ⟨_, Q0⟩
  obtain ⟨g8, k8⟩ := PX.cell 8 (.int .i64 rerr) rfl
  have Q := PX.set hKb hw0 8 (.int .i64 ((d.func cn cs.length ci).1.2)) (r' := ⟨rn, rm, rk, ⟨ra, rb, rc, rd⟩, rok, (d.func cn cs.length ci).1.2, ka, kn, kc, ia, il, ic⟩) rfl
  have s0 := (Q.cell 0 (.int .i64 rn) rfl).2
  have s1 := (Q.cell 1 (.int .i64 rm) rfl).2
  have s2 := (Q.cell 2 (.int .i64 rk) rfl).2
  have s3 := (Q.cell 3 (.int .i64 ra) rfl).2
  have s4 := (Q.cell 4 (.float .f64 rb) rfl).2
  have s5 := (Q.cell 5 (.string ⟨rc.toArray⟩) rfl).2
  have s6 := (Q.cell 6 (.int .i64 rd) rfl).2
  have s7 := (Q.cell 7 (.bool rok) rfl).2
  have s8 := (Q.cell 8 (.int .i64 ((d.func cn cs.length ci).1.2)) rfl).2
  have s9 := (Q.cell 9 (.slice ka kn kc) rfl).2
  have s10 := (Q.cell 10 (.slice ia il ic) rfl).2
  have u0 := bk_free Q.c4 0
  have v0 := bk_cell Q.c4 0 (.int .i64 0) rfl
  have u1 := bk_free Q.c4 1
  have v1 := bk_cell Q.c4 1 (.int .i64 0) rfl
  have u2 := bk_free Q.c4 2
  have v2 := bk_cell Q.c4 2 (.int .i64 0) rfl
  have u3 := bk_free Q.c4 3
  have v3 := bk_cell Q.c4 3 (.int .i64 0) rfl
  have u4 := bk_free Q.c4 4
  have v4 := bk_cell Q.c4 4 (.float .f64 0) rfl
  have u5 := bk_free Q.c4 5
  have v5 := bk_cell Q.c4 5 (.string ⟨#[]⟩) rfl
  have u6 := bk_free Q.c4 6
  have v6 := bk_cell Q.c4 6 (.int .i64 0) rfl
  have u7 := bk_free Q.c4 7
  have v7 := bk_cell Q.c4 7 (.bool false) rfl
  have u8 := bk_free Q.c4 8
  have v8 := bk_cell Q.c4 8 (.int .i64 0) rfl
  have u9 := bk_free Q.c4 9
  have v9 := bk_cell Q.c4 9 (.slice none 0 0) rfl
  have u10 := bk_free Q.c4 10
  have v10 := bk_cell Q.c4 10 (.slice none 0 0) rfl
  have HF := And.intro Q.hp Q.kept
  clear Q PX
  go_wp2_with fail
  refine bodyPost_ret (v := .agg #[.int .i64 rn, .int .i64 rm, .int .i64 rk, .int .i64 ra, .float .f64 rb, .string ⟨rc.toArray⟩, .int .i64 rd, .bool rok, .int .i64 ((d.func cn cs.length ci).1.2), .slice ka kn kc, .slice ia il ic]) (by simp [results, Tryd.results26, go_sem, v0, v1, v2, v3, v4, v5, v6, v7, v8, v9, v10]) rfl ?_
  refine ⟨⟨_, rfl⟩, (d.func cn cs.length ci).2, ?_⟩
  have HG : ∀ wx, (At w0 hh G (K3 K w.heap.size) wx ((d.func cn cs.length ci).2) ∧ Kept K w wx) → (At w0 hh G K wx ((d.func cn cs.length ci).2) ∧ Kept K w wx) := fun wx h => ⟨h.1.sub (fun b hb => .inl (.inl (.inl hb))), h.2⟩
  refine HG _ ?_
  repeat (first | with_reducible exact HF | with_reducible refine fin_set hKb hw0 ?_ _ _)
set_option maxRecDepth 100000 in
set_option maxHeartbeats 16000000 in
theorem play_3 {w0 w : World} {hh G : Nat} {K : Nat → Prop} {d : Hd} (A : At w0 hh G K w d) (c : Cl) (hW : HpW w0) (hk : c.kind < 256) (hkl : c.key.length ≤ 1000000) (hv : c.v.wf) (hit : VRead2 w c.iv c.items) (hwf : ∀ x ∈ c.items, x.wf) (hn : c.items.length ≤ 1000000) (h9 : c.kind % 10 = 3) :
    Calls Tryd.prog 26 #[.pointer (some ⟨hh, 0, none⟩), c.vv] w fun e w' => (∃ v, e = .returned v) ∧ ∃ d', At w0 hh G K w' d' ∧ Kept K w w' := by
  obtain ⟨ck, ci, cn, cs, ⟨vk, vn, vt, vr⟩, its, cv⟩ := c
  have hKb : ∀ b, K b → b < w.heap.size := fun b hb => by obtain ⟨s, -, -, -, -, h5⟩ := A.ex; exact (h5 b hb).1
  have hw0 := A.pur.size
  have p1 : Pur w (((w.alloc (.cells #[.int .u8 ck, .int .i64 ci, .int .i64 cn, .string ⟨cs.toArray⟩, .int .i64 vk, .float .f64 vn, .string ⟨vt.toArray⟩, .int .i64 vr, cv] 54)).alloc (.cells #[.int .i64 0, .int .i64 0, .int .i64 0, .int .i64 0, .float .f64 0, .string ⟨#[]⟩, .int .i64 0, .bool false, .int .i64 0, .slice none 0 0, .slice none 0 0] 56)).alloc (.cells #[.int .i64 0, .int .i64 0, .int .i64 0, .int .i64 0, .float .f64 0, .string ⟨#[]⟩, .int .i64 0, .bool false, .int .i64 0, .slice none 0 0, .slice none 0 0] 56)) := (((Pur.refl w).alloc _).alloc _).alloc _
  have A1 : At w0 hh G (K3 K w.heap.size) (((w.alloc (.cells #[.int .u8 ck, .int .i64 ci, .int .i64 cn, .string ⟨cs.toArray⟩, .int .i64 vk, .float .f64 vn, .string ⟨vt.toArray⟩, .int .i64 vr, cv] 54)).alloc (.cells #[.int .i64 0, .int .i64 0, .int .i64 0, .int .i64 0, .float .f64 0, .string ⟨#[]⟩, .int .i64 0, .bool false, .int .i64 0, .slice none 0 0, .slice none 0 0] 56)).alloc (.cells #[.int .i64 0, .int .i64 0, .int .i64 0, .int .i64 0, .float .f64 0, .string ⟨#[]⟩, .int .i64 0, .bool false, .int .i64 0, .slice none 0 0, .slice none 0 0] 56)) d := by
    have a1 := A.keep ((Pur.refl w).alloc (.cells #[.int .u8 ck, .int .i64 ci, .int .i64 cn, .string ⟨cs.toArray⟩, .int .i64 vk, .float .f64 vn, .string ⟨vt.toArray⟩, .int .i64 vr, cv] 54)) w.heap.size (Nat.le_refl _) (by simp)
    have a2 := a1.keep ((Pur.refl (w.alloc (.cells #[.int .u8 ck, .int .i64 ci, .int .i64 cn, .string ⟨cs.toArray⟩, .int .i64 vk, .float .f64 vn, .string ⟨vt.toArray⟩, .int .i64 vr, cv] 54))).alloc (.cells #[.int .i64 0, .int .i64 0, .int .i64 0, .int .i64 0, .float .f64 0, .string ⟨#[]⟩, .int .i64 0, .bool false, .int .i64 0, .slice none 0 0, .slice none 0 0] 56)) (w.heap.size + 1) (by simp) (by simp)
    have a3 := a2.keep ((Pur.refl ((w.alloc (.cells #[.int .u8 ck, .int .i64 ci, .int .i64 cn, .string ⟨cs.toArray⟩, .int .i64 vk, .float .f64 vn, .string ⟨vt.toArray⟩, .int .i64 vr, cv] 54)).alloc (.cells #[.int .i64 0, .int .i64 0, .int .i64 0, .int .i64 0, .float .f64 0, .string ⟨#[]⟩, .int .i64 0, .bool false, .int .i64 0, .slice none 0 0, .slice none 0 0] 56))).alloc (.cells #[.int .i64 0, .int .i64 0, .int .i64 0, .int .i64 0, .float .f64 0, .string ⟨#[]⟩, .int .i64 0, .bool false, .int .i64 0, .slice none 0 0, .slice none 0 0] 56)) (w.heap.size + 1 + 1) (by simp) (by simp)
    exact a3
  have P1 : PR w0 hh G K (.cells #[.int .u8 ck, .int .i64 ci, .int .i64 cn, .string ⟨cs.toArray⟩, .int .i64 vk, .float .f64 vn, .string ⟨vt.toArray⟩, .int .i64 vr, cv] 54) w (((w.alloc (.cells #[.int .u8 ck, .int .i64 ci, .int .i64 cn, .string ⟨cs.toArray⟩, .int .i64 vk, .float .f64 vn, .string ⟨vt.toArray⟩, .int .i64 vr, cv] 54)).alloc (.cells #[.int .i64 0, .int .i64 0, .int .i64 0, .int .i64 0, .float .f64 0, .string ⟨#[]⟩, .int .i64 0, .bool false, .int .i64 0, .slice none 0 0, .slice none 0 0] 56)).alloc (.cells #[.int .i64 0, .int .i64 0, .int .i64 0, .int .i64 0, .float .f64 0, .string ⟨#[]⟩, .int .i64 0, .bool false, .int .i64 0, .slice none 0 0, .slice none 0 0] 56)) d Rp.zero := by
    refine ⟨A1, fun b hb => p1.block b (hKb b hb), ?_, ?_, bk_alloc (bk_alloc (bk_new w (.cells #[.int .u8 ck, .int .i64 ci, .int .i64 cn, .string ⟨cs.toArray⟩, .int .i64 vk, .float .f64 vn, .string ⟨vt.toArray⟩, .int .i64 vr, cv] 54)) (.cells #[.int .i64 0, .int .i64 0, .int .i64 0, .int .i64 0, .float .f64 0, .string ⟨#[]⟩, .int .i64 0, .bool false, .int .i64 0, .slice none 0 0, .slice none 0 0] 56)) (.cells #[.int .i64 0, .int .i64 0, .int .i64 0, .int .i64 0, .float .f64 0, .string ⟨#[]⟩, .int .i64 0, .bool false, .int .i64 0, .slice none 0 0, .slice none 0 0] 56)⟩
    · have := bk_new ((w.alloc (.cells #[.int .u8 ck, .int .i64 ci, .int .i64 cn, .string ⟨cs.toArray⟩, .int .i64 vk, .float .f64 vn, .string ⟨vt.toArray⟩, .int .i64 vr, cv] 54)).alloc (.cells #[.int .i64 0, .int .i64 0, .int .i64 0, .int .i64 0, .float .f64 0, .string ⟨#[]⟩, .int .i64 0, .bool false, .int .i64 0, .slice none 0 0, .slice none 0 0] 56)) (.cells #[.int .i64 0, .int .i64 0, .int .i64 0, .int .i64 0, .float .f64 0, .string ⟨#[]⟩, .int .i64 0, .bool false, .int .i64 0, .slice none 0 0, .slice none 0 0] 56)
      rw [show ((w.alloc (.cells #[.int .u8 ck, .int .i64 ci, .int .i64 cn, .string ⟨cs.toArray⟩, .int .i64 vk, .float .f64 vn, .string ⟨vt.toArray⟩, .int .i64 vr, cv] 54)).alloc (.cells #[.int .i64 0, .int .i64 0, .int .i64 0, .int .i64 0, .float .f64 0, .string ⟨#[]⟩, .int .i64 0, .bool false, .int .i64 0, .slice none 0 0, .slice none 0 0] 56)).heap.size = w.heap.size + 1 + 1 by simp] at this
      exact this
    · have := bk_alloc (bk_new (w.alloc (.cells #[.int .u8 ck, .int .i64 ci, .int .i64 cn, .string ⟨cs.toArray⟩, .int .i64 vk, .float .f64 vn, .string ⟨vt.toArray⟩, .int .i64 vr, cv] 54)) (.cells #[.int .i64 0, .int .i64 0, .int .i64 0, .int .i64 0, .float .f64 0, .string ⟨#[]⟩, .int .i64 0, .bool false, .int .i64 0, .slice none 0 0, .slice none 0 0] 56)) (.cells #[.int .i64 0, .int .i64 0, .int .i64 0, .int .i64 0, .float .f64 0, .string ⟨#[]⟩, .int .i64 0, .bool false, .int .i64 0, .slice none 0 0, .slice none 0 0] 56)
      rw [show (w.alloc (.cells #[.int .u8 ck, .int .i64 ci, .int .i64 cn, .string ⟨cs.toArray⟩, .int .i64 vk, .float .f64 vn, .string ⟨vt.toArray⟩, .int .i64 vr, cv] 54)).heap.size = w.heap.size + 1 by simp] at this
      exact this
  have hit1 := hit.pur p1
  simp only at hk hkl hv hwf hn hit1 h9
  simp only [Cl.vv, Cl.cells]
  clear hit A A1
  have e9 : (ck : Int) % 10 = 3 := by omega
  clear h9 hk
  go_enter Tryd.func26, Tryd.ntmps26
  have R := put_st P1.hp ci cs ⟨vk, vn, vt, vr⟩ hv hkl
  simp only [Va.v, Va.cells] at R
  go_wp2_with fail
  refine (R).mono ?_
  rintro e w2 ⟨rfl, A2, K2⟩
  have Q := P1.call A2 K2
  clear R A2 K2 P1 hit1 hwf
  obtain ⟨⟨rn, rm, rk, ⟨ra, rb, rc, rd⟩, rok, rerr, ka, kn, kc, ia, il, ic⟩, PX⟩ : ∃ r, PR w0 hh G K (.cells #[.int .u8 ck, .int .i64 ci, .int .i64 cn, .string ⟨cs.toArray⟩, .int .i64 vk, .float .f64 vn, .string ⟨vt.toArray⟩, .int .i64 vr, cv] 54) w _ _ r := ⟨_, Q⟩
  obtain ⟨g8, k8⟩ := PX.cell 8 (.int .i64 rerr) rfl
  have Q := PX.set hKb hw0 8 (.int .i64 ((d.put ci cs ⟨vk, vn, vt, vr⟩).1)) (r' := ⟨rn, rm, rk, ⟨ra, rb, rc, rd⟩, rok, (d.put ci cs ⟨vk, vn, vt, vr⟩).1, ka, kn, kc, ia, il, ic⟩) rfl
  have s0 := (Q.cell 0 (.int .i64 rn) rfl).2
  have s1 := (Q.cell 1 (.int .i64 rm) rfl).2
  have s2 := (Q.cell 2 (.int .i64 rk) rfl).2
  have s3 := (Q.cell 3 (.int .i64 ra) rfl).2
  have s4 := (Q.cell 4 (.float .f64 rb) rfl).2
  have s5 := (Q.cell 5 (.string ⟨rc.toArray⟩) rfl).2
  have s6 := (Q.cell 6 (.int .i64 rd) rfl).2
  have s7 := (Q.cell 7 (.bool rok) rfl).2
  have s8 := (Q.cell 8 (.int .i64 ((d.put ci cs ⟨vk, vn, vt, vr⟩).1)) rfl).2
  have s9 := (Q.cell 9 (.slice ka kn kc) rfl).2
  have s10 := (Q.cell 10 (.slice ia il ic) rfl).2
  have u0 := bk_free Q.c4 0
  have v0 := bk_cell Q.c4 0 (.int .i64 0) rfl
  have u1 := bk_free Q.c4 1
  have v1 := bk_cell Q.c4 1 (.int .i64 0) rfl
  have u2 := bk_free Q.c4 2
  have v2 := bk_cell Q.c4 2 (.int .i64 0) rfl
  have u3 := bk_free Q.c4 3
  have v3 := bk_cell Q.c4 3 (.int .i64 0) rfl
  have u4 := bk_free Q.c4 4
  have v4 := bk_cell Q.c4 4 (.float .f64 0) rfl
  have u5 := bk_free Q.c4 5
  have v5 := bk_cell Q.c4 5 (.string ⟨#[]⟩) rfl
  have u6 := bk_free Q.c4 6
  have v6 := bk_cell Q.c4 6 (.int .i64 0) rfl
  have u7 := bk_free Q.c4 7
  have v7 := bk_cell Q.c4 7 (.bool false) rfl
  have u8 := bk_free Q.c4 8
  have v8 := bk_cell Q.c4 8 (.int .i64 0) rfl
  have u9 := bk_free Q.c4 9
  have v9 := bk_cell Q.c4 9 (.slice none 0 0) rfl
  have u10 := bk_free Q.c4 10
  have v10 := bk_cell Q.c4 10 (.slice none 0 0) rfl
  have HF := And.intro Q.hp Q.kept
  clear Q PX
  go_wp2_with fail
  refine bodyPost_ret (v := .agg #[.int .i64 rn, .int .i64 rm, .int .i64 rk, .int .i64 ra, .float .f64 rb, .string ⟨rc.toArray⟩, .int .i64 rd, .bool rok, .int .i64 ((d.put ci cs ⟨vk, vn, vt, vr⟩).1), .slice ka kn kc, .slice ia il ic]) (by simp [results, Tryd.results26, go_sem, v0, v1, v2, v3, v4, v5, v6, v7, v8, v9, v10]) rfl ?_
  refine ⟨⟨_, rfl⟩, (d.put ci cs ⟨vk, vn, vt, vr⟩).2, ?_⟩
  have HG : ∀ wx, (At w0 hh G (K3 K w.heap.size) wx ((d.put ci cs ⟨vk, vn, vt, vr⟩).2) ∧ Kept K w wx) → (At w0 hh G K wx ((d.put ci cs ⟨vk, vn, vt, vr⟩).2) ∧ Kept K w wx) := fun wx h => ⟨h.1.sub (fun b hb => .inl (.inl (.inl hb))), h.2⟩
  refine HG _ ?_
  repeat (first | with_reducible exact HF | with_reducible refine fin_set hKb hw0 ?_ _ _)
set_option maxRecDepth 100000 in
set_option maxHeartbeats 16000000 in
theorem play_4 {w0 w : World} {hh G : Nat} {K : Nat → Prop} {d : Hd} (A : At w0 hh G K w d) (c : Cl) (hW : HpW w0) (hk : c.kind < 256) (hkl : c.key.length ≤ 1000000) (hv : c.v.wf) (hit : VRead2 w c.iv c.items) (hwf : ∀ x ∈ c.items, x.wf) (hn : c.items.length ≤ 1000000) (h9 : c.kind % 10 = 4) :
    Calls Tryd.prog 26 #[.pointer (some ⟨hh, 0, none⟩), c.vv] w fun e w' => (∃ v, e = .returned v) ∧ ∃ d', At w0 hh G K w' d' ∧ Kept K w w' := by
  obtain ⟨ck, ci, cn, cs, ⟨vk, vn, vt, vr⟩, its, cv⟩ := c
  have hKb : ∀ b, K b → b < w.heap.size := fun b hb => by obtain ⟨s, -, -, -, -, h5⟩ := A.ex; exact (h5 b hb).1
  have hw0 := A.pur.size
  have p1 : Pur w (((w.alloc (.cells #[.int .u8 ck, .int .i64 ci, .int .i64 cn, .string ⟨cs.toArray⟩, .int .i64 vk, .float .f64 vn, .string ⟨vt.toArray⟩, .int .i64 vr, cv] 54)).alloc (.cells #[.int .i64 0, .int .i64 0, .int .i64 0, .int .i64 0, .float .f64 0, .string ⟨#[]⟩, .int .i64 0, .bool false, .int .i64 0, .slice none 0 0, .slice none 0 0] 56)).alloc (.cells #[.int .i64 0, .int .i64 0, .int .i64 0, .int .i64 0, .float .f64 0, .string ⟨#[]⟩, .int .i64 0, .bool false, .int .i64 0, .slice none 0 0, .slice none 0 0] 56)) := (((Pur.refl w).alloc _).alloc _).alloc _
  have A1 : At w0 hh G (K3 K w.heap.size) (((w.alloc (.cells #[.int .u8 ck, .int .i64 ci, .int .i64 cn, .string ⟨cs.toArray⟩, .int .i64 vk, .float .f64 vn, .string ⟨vt.toArray⟩, .int .i64 vr, cv] 54)).alloc (.cells #[.int .i64 0, .int .i64 0, .int .i64 0, .int .i64 0, .float .f64 0, .string ⟨#[]⟩, .int .i64 0, .bool false, .int .i64 0, .slice none 0 0, .slice none 0 0] 56)).alloc (.cells #[.int .i64 0, .int .i64 0, .int .i64 0, .int .i64 0, .float .f64 0, .string ⟨#[]⟩, .int .i64 0, .bool false, .int .i64 0, .slice none 0 0, .slice none 0 0] 56)) d := by
    have a1 := A.keep ((Pur.refl w).alloc (.cells #[.int .u8 ck, .int .i64 ci, .int .i64 cn, .string ⟨cs.toArray⟩, .int .i64 vk, .float .f64 vn, .string ⟨vt.toArray⟩, .int .i64 vr, cv] 54)) w.heap.size (Nat.le_refl _) (by simp)
    have a2 := a1.keep ((Pur.refl (w.alloc (.cells #[.int .u8 ck, .int .i64 ci, .int .i64 cn, .string ⟨cs.toArray⟩, .int .i64 vk, .float .f64 vn, .string ⟨vt.toArray⟩, .int .i64 vr, cv] 54))).alloc (.cells #[.int .i64 0, .int .i64 0, .int .i64 0, .int .i64 0, .float .f64 0, .string ⟨#[]⟩, .int .i64 0, .bool false, .int .i64 0, .slice none 0 0, .slice none 0 0] 56)) (w.heap.size + 1) (by simp) (by simp)
    have a3 := a2.keep ((Pur.refl ((w.alloc (.cells #[.int .u8 ck, .int .i64 ci, .int .i64 cn, .string ⟨cs.toArray⟩, .int .i64 vk, .float .f64 vn, .string ⟨vt.toArray⟩, .int .i64 vr, cv] 54)).alloc (.cells #[.int .i64 0, .int .i64 0, .int .i64 0, .int .i64 0, .float .f64 0, .string ⟨#[]⟩, .int .i64 0, .bool false, .int .i64 0, .slice none 0 0, .slice none 0 0] 56))).alloc (.cells #[.int .i64 0, .int .i64 0, .int .i64 0, .int .i64 0, .float .f64 0, .string ⟨#[]⟩, .int .i64 0, .bool false, .int .i64 0, .slice none 0 0, .slice none 0 0] 56)) (w.heap.size + 1 + 1) (by simp) (by simp)
    exact a3
  have P1 : PR w0 hh G K (.cells #[.int .u8 ck, .int .i64 ci, .int .i64 cn, .string ⟨cs.toArray⟩, .int .i64 vk, .float .f64 vn, .string ⟨vt.toArray⟩, .int .i64 vr, cv] 54) w (((w.alloc (.cells #[.int .u8 ck, .int .i64 ci, .int .i64 cn, .string ⟨cs.toArray⟩, .int .i64 vk, .float .f64 vn, .string ⟨vt.toArray⟩, .int .i64 vr, cv] 54)).alloc (.cells #[.int .i64 0, .int .i64 0, .int .i64 0, .int .i64 0, .float .f64 0, .string ⟨#[]⟩, .int .i64 0, .bool false, .int .i64 0, .slice none 0 0, .slice none 0 0] 56)).alloc (.cells #[.int .i64 0, .int .i64 0, .int .i64 0, .int .i64 0, .float .f64 0, .string ⟨#[]⟩, .int .i64 0, .bool false, .int .i64 0, .slice none 0 0, .slice none 0 0] 56)) d Rp.zero := by
    refine ⟨A1, fun b hb => p1.block b (hKb b hb), ?_, ?_, bk_alloc (bk_alloc (bk_new w (.cells #[.int .u8 ck, .int .i64 ci, .int .i64 cn, .string ⟨cs.toArray⟩, .int .i64 vk, .float .f64 vn, .string ⟨vt.toArray⟩, .int .i64 vr, cv] 54)) (.cells #[.int .i64 0, .int .i64 0, .int .i64 0, .int .i64 0, .float .f64 0, .string ⟨#[]⟩, .int .i64 0, .bool false, .int .i64 0, .slice none 0 0, .slice none 0 0] 56)) (.cells #[.int .i64 0, .int .i64 0, .int .i64 0, .int .i64 0, .float .f64 0, .string ⟨#[]⟩, .int .i64 0, .bool false, .int .i64 0, .slice none 0 0, .slice none 0 0] 56)⟩
    · have := bk_new ((w.alloc (.cells #[.int .u8 ck, .int .i64 ci, .int .i64 cn, .string ⟨cs.toArray⟩, .int .i64 vk, .float .f64 vn, .string ⟨vt.toArray⟩, .int .i64 vr, cv] 54)).alloc (.cells #[.int .i64 0, .int .i64 0, .int .i64 0, .int .i64 0, .float .f64 0, .string ⟨#[]⟩, .int .i64 0, .bool false, .int .i64 0, .slice none 0 0, .slice none 0 0] 56)) (.cells #[.int .i64 0, .int .i64 0, .int .i64 0, .int .i64 0, .float .f64 0, .string ⟨#[]⟩, .int .i64 0, .bool false, .int .i64 0, .slice none 0 0, .slice none 0 0] 56)
      rw [show ((w.alloc (.cells #[.int .u8 ck, .int .i64 ci, .int .i64 cn, .string ⟨cs.toArray⟩, .int .i64 vk, .float .f64 vn, .string ⟨vt.toArray⟩, .int .i64 vr, cv] 54)).alloc (.cells #[.int .i64 0, .int .i64 0, .int .i64 0, .int .i64 0, .float .f64 0, .string ⟨#[]⟩, .int .i64 0, .bool false, .int .i64 0, .slice none 0 0, .slice none 0 0] 56)).heap.size = w.heap.size + 1 + 1 by simp] at this
      exact this
    · have := bk_alloc (bk_new (w.alloc (.cells #[.int .u8 ck, .int .i64 ci, .int .i64 cn, .string ⟨cs.toArray⟩, .int .i64 vk, .float .f64 vn, .string ⟨vt.toArray⟩, .int .i64 vr, cv] 54)) (.cells #[.int .i64 0, .int .i64 0, .int .i64 0, .int .i64 0, .float .f64 0, .string ⟨#[]⟩, .int .i64 0, .bool false, .int .i64 0, .slice none 0 0, .slice none 0 0] 56)) (.cells #[.int .i64 0, .int .i64 0, .int .i64 0, .int .i64 0, .float .f64 0, .string ⟨#[]⟩, .int .i64 0, .bool false, .int .i64 0, .slice none 0 0, .slice none 0 0] 56)
      rw [show (w.alloc (.cells #[.int .u8 ck, .int .i64 ci, .int .i64 cn, .string ⟨cs.toArray⟩, .int .i64 vk, .float .f64 vn, .string ⟨vt.toArray⟩, .int .i64 vr, cv] 54)).heap.size = w.heap.size + 1 by simp] at this
      exact this
  have hit1 := hit.pur p1
  simp only at hk hkl hv hwf hn hit1 h9
  simp only [Cl.vv, Cl.cells]
  clear hit A A1
  have e9 : (ck : Int) % 10 = 4 := by omega
  clear h9 hk
  go_enter Tryd.func26, Tryd.ntmps26
  have R := put_st P1.hp ci cs ⟨vk, vn, vt, vr⟩ hv hkl
  simp only [Va.v, Va.cells] at R
  go_wp2_with fail
  refine (R).mono ?_
  rintro e w2 ⟨rfl, A2, K2⟩
  have Q := P1.call A2 K2
  clear R A2 K2 P1 hit1 hwf
  obtain ⟨⟨rn, rm, rk, ⟨ra, rb, rc, rd⟩, rok, rerr, ka, kn, kc, ia, il, ic⟩, PX⟩ : ∃ r, PR w0 hh G K (.cells #[.int .u8 ck, .int .i64 ci, .int .i64 cn, .string ⟨cs.toArray⟩, .int .i64 vk, .float .f64 vn, .string ⟨vt.toArray⟩, .int .i64 vr, cv] 54) w _ _ r := ⟨_, Q⟩
  obtain ⟨g8, k8⟩ := PX.cell 8 (.int .i64 rerr) rfl
  have Q := PX.set hKb hw0 8 (.int .i64 ((d.put ci cs ⟨vk, vn, vt, vr⟩).1)) (r' := ⟨rn, rm, rk, ⟨ra, rb, rc, rd⟩, rok, (d.put ci cs ⟨vk, vn, vt, vr⟩).1, ka, kn, kc, ia, il, ic⟩) rfl
  have s0 := (Q.cell 0 (.int .i64 rn) rfl).2
  have s1 := (Q.cell 1 (.int .i64 rm) rfl).2
  have s2 := (Q.cell 2 (.int .i64 rk) rfl).2
  have s3 := (Q.cell 3 (.int .i64 ra) rfl).2
  have s4 := (Q.cell 4 (.float .f64 rb) rfl).2
  have s5 := (Q.cell 5 (.string ⟨rc.toArray⟩) rfl).2
  have s6 := (Q.cell 6 (.int .i64 rd) rfl).2
  have s7 := (Q.cell 7 (.bool rok) rfl).2
  have s8 := (Q.cell 8 (.int .i64 ((d.put ci cs ⟨vk, vn, vt, vr⟩).1)) rfl).2
  have s9 := (Q.cell 9 (.slice ka kn kc) rfl).2
  have s10 := (Q.cell 10 (.slice ia il ic) rfl).2
  have u0 := bk_free Q.c4 0
  have v0 := bk_cell Q.c4 0 (.int .i64 0) rfl
  have u1 := bk_free Q.c4 1
  have v1 := bk_cell Q.c4 1 (.int .i64 0) rfl
  have u2 := bk_free Q.c4 2
  have v2 := bk_cell Q.c4 2 (.int .i64 0) rfl
  have u3 := bk_free Q.c4 3
  have v3 := bk_cell Q.c4 3 (.int .i64 0) rfl
  have u4 := bk_free Q.c4 4
  have v4 := bk_cell Q.c4 4 (.float .f64 0) rfl
  have u5 := bk_free Q.c4 5
  have v5 := bk_cell Q.c4 5 (.string ⟨#[]⟩) rfl
  have u6 := bk_free Q.c4 6
  have v6 := bk_cell Q.c4 6 (.int .i64 0) rfl
  have u7 := bk_free Q.c4 7
  have v7 := bk_cell Q.c4 7 (.bool false) rfl
  have u8 := bk_free Q.c4 8
  have v8 := bk_cell Q.c4 8 (.int .i64 0) rfl
  have u9 := bk_free Q.c4 9
  have v9 := bk_cell Q.c4 9 (.slice none 0 0) rfl
  have u10 := bk_free Q.c4 10
  have v10 := bk_cell Q.c4 10 (.slice none 0 0) rfl
  have HF := And.intro Q.hp Q.kept
  clear Q PX
  go_wp2_with fail
  refine bodyPost_ret (v := .agg #[.int .i64 rn, .int .i64 rm, .int .i64 rk, .int .i64 ra, .float .f64 rb, .string ⟨rc.toArray⟩, .int .i64 rd, .bool rok, .int .i64 ((d.put ci cs ⟨vk, vn, vt, vr⟩).1), .slice ka kn kc, .slice ia il ic]) (by simp [results, Tryd.results26, go_sem, v0, v1, v2, v3, v4, v5, v6, v7, v8, v9, v10]) rfl ?_
  refine ⟨⟨_, rfl⟩, (d.put ci cs ⟨vk, vn, vt, vr⟩).2, ?_⟩
  have HG : ∀ wx, (At w0 hh G (K3 K w.heap.size) wx ((d.put ci cs ⟨vk, vn, vt, vr⟩).2) ∧ Kept K w wx) → (At w0 hh G K wx ((d.put ci cs ⟨vk, vn, vt, vr⟩).2) ∧ Kept K w wx) := fun wx h => ⟨h.1.sub (fun b hb => .inl (.inl (.inl hb))), h.2⟩
  refine HG _ ?_
  repeat (first | with_reducible exact HF | with_reducible refine fin_set hKb hw0 ?_ _ _)
set_option maxRecDepth 100000 in
set_option maxHeartbeats 16000000 in
theorem play_5 {w0 w : World} {hh G : Nat} {K : Nat → Prop} {d : Hd} (A : At w0 hh G K w d) (c : Cl) (hW : HpW w0) (hk : c.kind < 256) (hkl : c.key.length ≤ 1000000) (hv : c.v.wf) (hit : VRead2 w c.iv c.items) (hwf : ∀ x ∈ c.items, x.wf) (hn : c.items.length ≤ 1000000) (h9 : c.kind % 10 = 5) :
    Calls Tryd.prog 26 #[.pointer (some ⟨hh, 0, none⟩), c.vv] w fun e w' => (∃ v, e = .returned v) ∧ ∃ d', At w0 hh G K w' d' ∧ Kept K w w' := by
  obtain ⟨ck, ci, cn, cs, ⟨vk, vn, vt, vr⟩, its, cv⟩ := c
  have hKb : ∀ b, K b → b < w.heap.size := fun b hb => by obtain ⟨s, -, -, -, -, h5⟩ := A.ex; exact (h5 b hb).1
  have hw0 := A.pur.size
  have p1 : Pur w (((w.alloc (.cells #[.int .u8 ck, .int .i64 ci, .int .i64 cn, .string ⟨cs.toArray⟩, .int .i64 vk, .float .f64 vn, .string ⟨vt.toArray⟩, .int .i64 vr, cv] 54)).alloc (.cells #[.int .i64 0, .int .i64 0, .int .i64 0, .int .i64 0, .float .f64 0, .string ⟨#[]⟩, .int .i64 0, .bool false, .int .i64 0, .slice none 0 0, .slice none 0 0] 56)).alloc (.cells #[.int .i64 0, .int .i64 0, .int .i64 0, .int .i64 0, .float .f64 0, .string ⟨#[]⟩, .int .i64 0, .bool false, .int .i64 0, .slice none 0 0, .slice none 0 0] 56)) := (((Pur.refl w).alloc _).alloc _).alloc _
  have A1 : At w0 hh G (K3 K w.heap.size) (((w.alloc (.cells #[.int .u8 ck, .int .i64 ci, .int .i64 cn, .string ⟨cs.toArray⟩, .int .i64 vk, .float .f64 vn, .string ⟨vt.toArray⟩, .int .i64 vr, cv] 54)).alloc (.cells #[.int .i64 0, .int .i64 0, .int .i64 0, .int .i64 0, .float .f64 0, .string ⟨#[]⟩, .int .i64 0, .bool false, .int .i64 0, .slice none 0 0, .slice none 0 0] 56)).alloc (.cells #[.int .i64 0, .int .i64 0, .int .i64 0, .int .i64 0, .float .f64 0, .string ⟨#[]⟩, .int .i64 0, .bool false, .int .i64 0, .slice none 0 0, .slice none 0 0] 56)) d := by
    have a1 := A.keep ((Pur.refl w).alloc (.cells #[.int .u8 ck, .int .i64 ci, .int .i64 cn, .string ⟨cs.toArray⟩, .int .i64 vk, .float .f64 vn, .string ⟨vt.toArray⟩, .int .i64 vr, cv] 54)) w.heap.size (Nat.le_refl _) (by simp)
    have a2 := a1.keep ((Pur.refl (w.alloc (.cells #[.int .u8 ck, .int .i64 ci, .int .i64 cn, .string ⟨cs.toArray⟩, .int .i64 vk, .float .f64 vn, .string ⟨vt.toArray⟩, .int .i64 vr, cv] 54))).alloc (.cells #[.int .i64 0, .int .i64 0, .int .i64 0, .int .i64 0, .float .f64 0, .string ⟨#[]⟩, .int .i64 0, .bool false, .int .i64 0, .slice none 0 0, .slice none 0 0] 56)) (w.heap.size + 1) (by simp) (by simp)
    have a3 := a2.keep ((Pur.refl ((w.alloc (.cells #[.int .u8 ck, .int .i64 ci, .int .i64 cn, .string ⟨cs.toArray⟩, .int .i64 vk, .float .f64 vn, .string ⟨vt.toArray⟩, .int .i64 vr, cv] 54)).alloc (.cells #[.int .i64 0, .int .i64 0, .int .i64 0, .int .i64 0, .float .f64 0, .string ⟨#[]⟩, .int .i64 0, .bool false, .int .i64 0, .slice none 0 0, .slice none 0 0] 56))).alloc (.cells #[.int .i64 0, .int .i64 0, .int .i64 0, .int .i64 0, .float .f64 0, .string ⟨#[]⟩, .int .i64 0, .bool false, .int .i64 0, .slice none 0 0, .slice none 0 0] 56)) (w.heap.size + 1 + 1) (by simp) (by simp)
    exact a3
  have P1 : PR w0 hh G K (.cells #[.int .u8 ck, .int .i64 ci, .int .i64 cn, .string ⟨cs.toArray⟩, .int .i64 vk, .float .f64 vn, .string ⟨vt.toArray⟩, .int .i64 vr, cv] 54) w (((w.alloc (.cells #[.int .u8 ck, .int .i64 ci, .int .i64 cn, .string ⟨cs.toArray⟩, .int .i64 vk, .float .f64 vn, .string ⟨vt.toArray⟩, .int .i64 vr, cv] 54)).alloc (.cells #[.int .i64 0, .int .i64 0, .int .i64 0, .int .i64 0, .float .f64 0, .string ⟨#[]⟩, .int .i64 0, .bool false, .int .i64 0, .slice none 0 0, .slice none 0 0] 56)).alloc (.cells #[.int .i64 0, .int .i64 0, .int .i64 0, .int .i64 0, .float .f64 0, .string ⟨#[]⟩, .int .i64 0, .bool false, .int .i64 0, .slice none 0 0, .slice none 0 0] 56)) d Rp.zero := by
    refine ⟨A1, fun b hb => p1.block b (hKb b hb), ?_, ?_, bk_alloc (bk_alloc (bk_new w (.cells #[.int .u8 ck, .int .i64 ci, .int .i64 cn, .string ⟨cs.toArray⟩, .int .i64 vk, .float .f64 vn, .string ⟨vt.toArray⟩, .int .i64 vr, cv] 54)) (.cells #[.int .i64 0, .int .i64 0, .int .i64 0, .int .i64 0, .float .f64 0, .string ⟨#[]⟩, .int .i64 0, .bool false, .int .i64 0, .slice none 0 0, .slice none 0 0] 56)) (.cells #[.int .i64 0, .int .i64 0, .int .i64 0, .int .i64 0, .float .f64 0, .string ⟨#[]⟩, .int .i64 0, .bool false, .int .i64 0, .slice none 0 0, .slice none 0 0] 56)⟩
    · have := bk_new ((w.alloc (.cells #[.int .u8 ck, .int .i64 ci, .int .i64 cn, .string ⟨cs.toArray⟩, .int .i64 vk, .float .f64 vn, .string ⟨vt.toArray⟩, .int .i64 vr, cv] 54)).alloc (.cells #[.int .i64 0, .int .i64 0, .int .i64 0, .int .i64 0, .float .f64 0, .string ⟨#[]⟩, .int .i64 0, .bool false, .int .i64 0, .slice none 0 0, .slice none 0 0] 56)) (.cells #[.int .i64 0, .int .i64 0, .int .i64 0, .int .i64 0, .float .f64 0, .string ⟨#[]⟩, .int .i64 0, .bool false, .int .i64 0, .slice none 0 0, .slice none 0 0] 56)
      rw [show ((w.alloc (.cells #[.int .u8 ck, .int .i64 ci, .int .i64 cn, .string ⟨cs.toArray⟩, .int .i64 vk, .float .f64 vn, .string ⟨vt.toArray⟩, .int .i64 vr, cv] 54)).alloc (.cells #[.int .i64 0, .int .i64 0, .int .i64 0, .int .i64 0, .float .f64 0, .string ⟨#[]⟩, .int .i64 0, .bool false, .int .i64 0, .slice none 0 0, .slice none 0 0] 56)).heap.size = w.heap.size + 1 + 1 by simp] at this
      exact this
    · have := bk_alloc (bk_new (w.alloc (.cells #[.int .u8 ck, .int .i64 ci, .int .i64 cn, .string ⟨cs.toArray⟩, .int .i64 vk, .float .f64 vn, .string ⟨vt.toArray⟩, .int .i64 vr, cv] 54)) (.cells #[.int .i64 0, .int .i64 0, .int .i64 0, .int .i64 0, .float .f64 0, .string ⟨#[]⟩, .int .i64 0, .bool false, .int .i64 0, .slice none 0 0, .slice none 0 0] 56)) (.cells #[.int .i64 0, .int .i64 0, .int .i64 0, .int .i64 0, .float .f64 0, .string ⟨#[]⟩, .int .i64 0, .bool false, .int .i64 0, .slice none 0 0, .slice none 0 0] 56)
      rw [show (w.alloc (.cells #[.int .u8 ck, .int .i64 ci, .int .i64 cn, .string ⟨cs.toArray⟩, .int .i64 vk, .float .f64 vn, .string ⟨vt.toArray⟩, .int .i64 vr, cv] 54)).heap.size = w.heap.size + 1 by simp] at this
      exact this
  have hit1 := hit.pur p1
  simp only at hk hkl hv hwf hn hit1 h9
  simp only [Cl.vv, Cl.cells]
  clear hit A A1
  have e9 : (ck : Int) % 10 = 5 := by omega
  clear h9 hk
  go_enter Tryd.func26, Tryd.ntmps26
  have R := set_st P1.hp ci cs ⟨vk, vn, vt, vr⟩ hv hkl
  simp only [Va.v, Va.cells] at R
  go_wp2_with fail
  refine (R).mono ?_
  rintro e w2 ⟨rfl, A2, K2⟩
  have Q := P1.call A2 K2
  clear R A2 K2 P1 hit1 hwf
  have ⟨f7, c7⟩ := Q.cell 7 (.bool false) rfl
  have Q0 := Q.set hKb hw0 7 (.bool (d.set ci cs ⟨vk, vn, vt, vr⟩).1.1) (r' := { Rp.zero with ok := (d.set ci cs ⟨vk, vn, vt, vr⟩).1.1 }) rfl
  obtain ⟨⟨rn, rm, rk, ⟨ra, rb, rc, rd⟩, rok, rerr, ka, kn, kc, ia, il, ic⟩, PX⟩ : ∃ r, PR w0 hh G K (.cells #[.int .u8 ck, .int .i64 ci, .int .i64 cn, .string ⟨cs.toArray⟩, .int .i64 vk, .float .f64 vn, .string ⟨vt.toArray⟩, .int .i64 vr, cv] 54) w _ _ r := ⟨_, Q0⟩
  obtain ⟨g8, k8⟩ := PX.cell 8 (.int .i64 rerr) rfl
  have Q := PX.set hKb hw0 8 (.int .i64 ((d.set ci cs ⟨vk, vn, vt, vr⟩).1.2)) (r' := ⟨rn, rm, rk, ⟨ra, rb, rc, rd⟩, rok, (d.set ci cs ⟨vk, vn, vt, vr⟩).1.2, ka, kn, kc, ia, il, ic⟩) rfl
  have s0 := (Q.cell 0 (.int .i64 rn) rfl).2
  have s1 := (Q.cell 1 (.int .i64 rm) rfl).2
  have s2 := (Q.cell 2 (.int .i64 rk) rfl).2
  have s3 := (Q.cell 3 (.int .i64 ra) rfl).2
  have s4 := (Q.cell 4 (.float .f64 rb) rfl).2
  have s5 := (Q.cell 5 (.string ⟨rc.toArray⟩) rfl).2
  have s6 := (Q.cell 6 (.int .i64 rd) rfl).2
  have s7 := (Q.cell 7 (.bool rok) rfl).2
  have s8 := (Q.cell 8 (.int .i64 ((d.set ci cs ⟨vk, vn, vt, vr⟩).1.2)) rfl).2
  have s9 := (Q.cell 9 (.slice ka kn kc) rfl).2
  have s10 := (Q.cell 10 (.slice ia il ic) rfl).2
  have u0 := bk_free Q.c4 0
  have v0 := bk_cell Q.c4 0 (.int .i64 0) rfl
  have u1 := bk_free Q.c4 1
  have v1 := bk_cell Q.c4 1 (.int .i64 0) rfl
  have u2 := bk_free Q.c4 2
  have v2 := bk_cell Q.c4 2 (.int .i64 0) rfl
  have u3 := bk_free Q.c4 3
  have v3 := bk_cell Q.c4 3 (.int .i64 0) rfl
  have u4 := bk_free Q.c4 4
  have v4 := bk_cell Q.c4 4 (.float .f64 0) rfl
  have u5 := bk_free Q.c4 5
  have v5 := bk_cell Q.c4 5 (.string ⟨#[]⟩) rfl
  have u6 := bk_free Q.c4 6
  have v6 := bk_cell Q.c4 6 (.int .i64 0) rfl
  have u7 := bk_free Q.c4 7
  have v7 := bk_cell Q.c4 7 (.bool false) rfl
  have u8 := bk_free Q.c4 8
  have v8 := bk_cell Q.c4 8 (.int .i64 0) rfl
  have u9 := bk_free Q.c4 9
  have v9 := bk_cell Q.c4 9 (.slice none 0 0) rfl
  have u10 := bk_free Q.c4 10
  have v10 := bk_cell Q.c4 10 (.slice none 0 0) rfl
  have HF := And.intro Q.hp Q.kept
  clear Q PX
  go_wp2_with fail
  refine bodyPost_ret (v := .agg #[.int .i64 rn, .int .i64 rm, .int .i64 rk, .int .i64 ra, .float .f64 rb, .string ⟨rc.toArray⟩, .int .i64 rd, .bool rok, .int .i64 ((d.set ci cs ⟨vk, vn, vt, vr⟩).1.2), .slice ka kn kc, .slice ia il ic]) (by simp [results, Tryd.results26, go_sem, v0, v1, v2, v3, v4, v5, v6, v7, v8, v9, v10]) rfl ?_
  refine ⟨⟨_, rfl⟩, (d.set ci cs ⟨vk, vn, vt, vr⟩).2, ?_⟩
  have HG : ∀ wx, (At w0 hh G (K3 K w.heap.size) wx ((d.set ci cs ⟨vk, vn, vt, vr⟩).2) ∧ Kept K w wx) → (At w0 hh G K wx ((d.set ci cs ⟨vk, vn, vt, vr⟩).2) ∧ Kept K w wx) := fun wx h => ⟨h.1.sub (fun b hb => .inl (.inl (.inl hb))), h.2⟩
  refine HG _ ?_
  repeat (first | with_reducible exact HF | with_reducible refine fin_set hKb hw0 ?_ _ _)
set_option maxRecDepth 100000 in
set_option maxHeartbeats 16000000 in
theorem play_6 {w0 w : World} {hh G : Nat} {K : Nat → Prop} {d : Hd} (A : At w0 hh G K w d) (c : Cl) (hW : HpW w0) (hk : c.kind < 256) (hkl : c.key.length ≤ 1000000) (hv : c.v.wf) (hit : VRead2 w c.iv c.items) (hwf : ∀ x ∈ c.items, x.wf) (hn : c.items.length ≤ 1000000) (h9 : c.kind % 10 = 6) :
    Calls Tryd.prog 26 #[.pointer (some ⟨hh, 0, none⟩), c.vv] w fun e w' => (∃ v, e = .returned v) ∧ ∃ d', At w0 hh G K w' d' ∧ Kept K w w' := by
  obtain ⟨ck, ci, cn, cs, ⟨vk, vn, vt, vr⟩, its, cv⟩ := c
  have hKb : ∀ b, K b → b < w.heap.size := fun b hb => by obtain ⟨s, -, -, -, -, h5⟩ := A.ex; exact (h5 b hb).1
  have hw0 := A.pur.size
  have p1 : Pur w (((w.alloc (.cells #[.int .u8 ck, .int .i64 ci, .int .i64 cn, .string ⟨cs.toArray⟩, .int .i64 vk, .float .f64 vn, .string ⟨vt.toArray⟩, .int .i64 vr, cv] 54)).alloc (.cells #[.int .i64 0, .int .i64 0, .int .i64 0, .int .i64 0, .float .f64 0, .string ⟨#[]⟩, .int .i64 0, .bool false, .int .i64 0, .slice none 0 0, .slice none 0 0] 56)).alloc (.cells #[.int .i64 0, .int .i64 0, .int .i64 0, .int .i64 0, .float .f64 0, .string ⟨#[]⟩, .int .i64 0, .bool false, .int .i64 0, .slice none 0 0, .slice none 0 0] 56)) := (((Pur.refl w).alloc _).alloc _).alloc _
  have A1 : At w0 hh G (K3 K w.heap.size) (((w.alloc (.cells #[.int .u8 ck, .int .i64 ci, .int .i64 cn, .string ⟨cs.toArray⟩, .int .i64 vk, .float .f64 vn, .string ⟨vt.toArray⟩, .int .i64 vr, cv] 54)).alloc (.cells #[.int .i64 0, .int .i64 0, .int .i64 0, .int .i64 0, .float .f64 0, .string ⟨#[]⟩, .int .i64 0, .bool false, .int .i64 0, .slice none 0 0, .slice none 0 0] 56)).alloc (.cells #[.int .i64 0, .int .i64 0, .int .i64 0, .int .i64 0, .float .f64 0, .string ⟨#[]⟩, .int .i64 0, .bool false, .int .i64 0, .slice none 0 0, .slice none 0 0] 56)) d := by
    have a1 := A.keep ((Pur.refl w).alloc (.cells #[.int .u8 ck, .int .i64 ci, .int .i64 cn, .string ⟨cs.toArray⟩, .int .i64 vk, .float .f64 vn, .string ⟨vt.toArray⟩, .int .i64 vr, cv] 54)) w.heap.size (Nat.le_refl _) (by simp)
    have a2 := a1.keep ((Pur.refl (w.alloc (.cells #[.int .u8 ck, .int .i64 ci, .int .i64 cn, .string ⟨cs.toArray⟩, .int .i64 vk, .float .f64 vn, .string ⟨vt.toArray⟩, .int .i64 vr, cv] 54))).alloc (.cells #[.int .i64 0, .int .i64 0, .int .i64 0, .int .i64 0, .float .f64 0, .string ⟨#[]⟩, .int .i64 0, .bool false, .int .i64 0, .slice none 0 0, .slice none 0 0] 56)) (w.heap.size + 1) (by simp) (by simp)
    have a3 := a2.keep ((Pur.refl ((w.alloc (.cells #[.int .u8 ck, .int .i64 ci, .int .i64 cn, .string ⟨cs.toArray⟩, .int .i64 vk, .float .f64 vn, .string ⟨vt.toArray⟩, .int .i64 vr, cv] 54)).alloc (.cells #[.int .i64 0, .int .i64 0, .int .i64 0, .int .i64 0, .float .f64 0, .string ⟨#[]⟩, .int .i64 0, .bool false, .int .i64 0, .slice none 0 0, .slice none 0 0] 56))).alloc (.cells #[.int .i64 0, .int .i64 0, .int .i64 0, .int .i64 0, .float .f64 0, .string ⟨#[]⟩, .int .i64 0, .bool false, .int .i64 0, .slice none 0 0, .slice none 0 0] 56)) (w.heap.size + 1 + 1) (by simp) (by simp)
    exact a3
  have P1 : PR w0 hh G K (.cells #[.int .u8 ck, .int .i64 ci, .int .i64 cn, .string ⟨cs.toArray⟩, .int .i64 vk, .float .f64 vn, .string ⟨vt.toArray⟩, .int .i64 vr, cv] 54) w (((w.alloc (.cells #[.int .u8 ck, .int .i64 ci, .int .i64 cn, .string ⟨cs.toArray⟩, .int .i64 vk, .float .f64 vn, .string ⟨vt.toArray⟩, .int .i64 vr, cv] 54)).alloc (.cells #[.int .i64 0, .int .i64 0, .int .i64 0, .int .i64 0, .float .f64 0, .string ⟨#[]⟩, .int .i64 0, .bool false, .int .i64 0, .slice none 0 0, .slice none 0 0] 56)).alloc (.cells #[.int .i64 0, .int .i64 0, .int .i64 0, .int .i64 0, .float .f64 0, .string ⟨#[]⟩, .int .i64 0, .bool false, .int .i64 0, .slice none 0 0, .slice none 0 0] 56)) d Rp.zero := by
    refine ⟨A1, fun b hb => p1.block b (hKb b hb), ?_, ?_, bk_alloc (bk_alloc (bk_new w (.cells #[.int .u8 ck, .int .i64 ci, .int .i64 cn, .string ⟨cs.toArray⟩, .int .i64 vk, .float .f64 vn, .string ⟨vt.toArray⟩, .int .i64 vr, cv] 54)) (.cells #[.int .i64 0, .int .i64 0, .int .i64 0, .int .i64 0, .float .f64 0, .string ⟨#[]⟩, .int .i64 0, .bool false, .int .i64 0, .slice none 0 0, .slice none 0 0] 56)) (.cells #[.int .i64 0, .int .i64 0, .int .i64 0, .int .i64 0, .float .f64 0, .string ⟨#[]⟩, .int .i64 0, .bool false, .int .i64 0, .slice none 0 0, .slice none 0 0] 56)⟩
    · have := bk_new ((w.alloc (.cells #[.int .u8 ck, .int .i64 ci, .int .i64 cn, .string ⟨cs.toArray⟩, .int .i64 vk, .float .f64 vn, .string ⟨vt.toArray⟩, .int .i64 vr, cv] 54)).alloc (.cells #[.int .i64 0, .int .i64 0, .int .i64 0, .int .i64 0, .float .f64 0, .string ⟨#[]⟩, .int .i64 0, .bool false, .int .i64 0, .slice none 0 0, .slice none 0 0] 56)) (.cells #[.int .i64 0, .int .i64 0, .int .i64 0, .int .i64 0, .float .f64 0, .string ⟨#[]⟩, .int .i64 0, .bool false, .int .i64 0, .slice none 0 0, .slice none 0 0] 56)
      rw [show ((w.alloc (.cells #[.int .u8 ck, .int .i64 ci, .int .i64 cn, .string ⟨cs.toArray⟩, .int .i64 vk, .float .f64 vn, .string ⟨vt.toArray⟩, .int .i64 vr, cv] 54)).alloc (.cells #[.int .i64 0, .int .i64 0, .int .i64 0, .int .i64 0, .float .f64 0, .string ⟨#[]⟩, .int .i64 0, .bool false, .int .i64 0, .slice none 0 0, .slice none 0 0] 56)).heap.size = w.heap.size + 1 + 1 by simp] at this
      exact this
    · have := bk_alloc (bk_new (w.alloc (.cells #[.int .u8 ck, .int .i64 ci, .int .i64 cn, .string ⟨cs.toArray⟩, .int .i64 vk, .float .f64 vn, .string ⟨vt.toArray⟩, .int .i64 vr, cv] 54)) (.cells #[.int .i64 0, .int .i64 0, .int .i64 0, .int .i64 0, .float .f64 0, .string ⟨#[]⟩, .int .i64 0, .bool false, .int .i64 0, .slice none 0 0, .slice none 0 0] 56)) (.cells #[.int .i64 0, .int .i64 0, .int .i64 0, .int .i64 0, .float .f64 0, .string ⟨#[]⟩, .int .i64 0, .bool false, .int .i64 0, .slice none 0 0, .slice none 0 0] 56)
      rw [show (w.alloc (.cells #[.int .u8 ck, .int .i64 ci, .int .i64 cn, .string ⟨cs.toArray⟩, .int .i64 vk, .float .f64 vn, .string ⟨vt.toArray⟩, .int .i64 vr, cv] 54)).heap.size = w.heap.size + 1 by simp] at this
      exact this
  have hit1 := hit.pur p1
  simp only at hk hkl hv hwf hn hit1 h9
  simp only [Cl.vv, Cl.cells]
  clear hit A A1
  have e9 : (ck : Int) % 10 = 6 := by omega
  clear h9 hk
  go_enter Tryd.func26, Tryd.ntmps26
  have R := drop_st P1.hp ci cs hkl
  go_wp2_with fail
  refine (R).mono ?_
  rintro e w2 ⟨rfl, A2, K2⟩
  have Q := P1.call A2 K2
  clear R A2 K2 P1 hit1 hwf
  have ⟨f7, c7⟩ := Q.cell 7 (.bool false) rfl
  have Q0 := Q.set hKb hw0 7 (.bool (d.drop ci cs).1) (r' := { Rp.zero with ok := (d.drop ci cs).1 }) rfl
  obtain ⟨⟨rn, rm, rk, ⟨ra, rb, rc, rd⟩, rok, rerr, ka, kn, kc, ia, il, ic⟩, PX⟩ : ∃ r, PR w0 hh G K (.cells #[.int .u8 ck, .int .i64 ci, .int .i64 cn, .string ⟨cs.toArray⟩, .int .i64 vk, .float .f64 vn, .string ⟨vt.toArray⟩, .int .i64 vr, cv] 54) w _ _ r := ⟨_, Q0⟩
  obtain ⟨g8, k8⟩ := PX.cell 8 (.int .i64 rerr) rfl
  have Q := PX.set hKb hw0 8 (.int .i64 (0)) (r' := ⟨rn, rm, rk, ⟨ra, rb, rc, rd⟩, rok, 0, ka, kn, kc, ia, il, ic⟩) rfl
  have s0 := (Q.cell 0 (.int .i64 rn) rfl).2
  have s1 := (Q.cell 1 (.int .i64 rm) rfl).2
  have s2 := (Q.cell 2 (.int .i64 rk) rfl).2
  have s3 := (Q.cell 3 (.int .i64 ra) rfl).2
  have s4 := (Q.cell 4 (.float .f64 rb) rfl).2
  have s5 := (Q.cell 5 (.string ⟨rc.toArray⟩) rfl).2
  have s6 := (Q.cell 6 (.int .i64 rd) rfl).2
  have s7 := (Q.cell 7 (.bool rok) rfl).2
  have s8 := (Q.cell 8 (.int .i64 (0)) rfl).2
  have s9 := (Q.cell 9 (.slice ka kn kc) rfl).2
  have s10 := (Q.cell 10 (.slice ia il ic) rfl).2
  have u0 := bk_free Q.c4 0
  have v0 := bk_cell Q.c4 0 (.int .i64 0) rfl
  have u1 := bk_free Q.c4 1
  have v1 := bk_cell Q.c4 1 (.int .i64 0) rfl
  have u2 := bk_free Q.c4 2
  have v2 := bk_cell Q.c4 2 (.int .i64 0) rfl
  have u3 := bk_free Q.c4 3
  have v3 := bk_cell Q.c4 3 (.int .i64 0) rfl
  have u4 := bk_free Q.c4 4
  have v4 := bk_cell Q.c4 4 (.float .f64 0) rfl
  have u5 := bk_free Q.c4 5
  have v5 := bk_cell Q.c4 5 (.string ⟨#[]⟩) rfl
  have u6 := bk_free Q.c4 6
  have v6 := bk_cell Q.c4 6 (.int .i64 0) rfl
  have u7 := bk_free Q.c4 7
  have v7 := bk_cell Q.c4 7 (.bool false) rfl
  have u8 := bk_free Q.c4 8
  have v8 := bk_cell Q.c4 8 (.int .i64 0) rfl
  have u9 := bk_free Q.c4 9
  have v9 := bk_cell Q.c4 9 (.slice none 0 0) rfl
  have u10 := bk_free Q.c4 10
  have v10 := bk_cell Q.c4 10 (.slice none 0 0) rfl
  have HF := And.intro Q.hp Q.kept
  clear Q PX
  go_wp2_with fail
  refine bodyPost_ret (v := .agg #[.int .i64 rn, .int .i64 rm, .int .i64 rk, .int .i64 ra, .float .f64 rb, .string ⟨rc.toArray⟩, .int .i64 rd, .bool rok, .int .i64 (0), .slice ka kn kc, .slice ia il ic]) (by simp [results, Tryd.results26, go_sem, v0, v1, v2, v3, v4, v5, v6, v7, v8, v9, v10]) rfl ?_
  refine ⟨⟨_, rfl⟩, (d.drop ci cs).2, ?_⟩
  have HG : ∀ wx, (At w0 hh G (K3 K w.heap.size) wx ((d.drop ci cs).2) ∧ Kept K w wx) → (At w0 hh G K wx ((d.drop ci cs).2) ∧ Kept K w wx) := fun wx h => ⟨h.1.sub (fun b hb => .inl (.inl (.inl hb))), h.2⟩
  refine HG _ ?_
  repeat (first | with_reducible exact HF | with_reducible refine fin_set hKb hw0 ?_ _ _)
set_option maxRecDepth 100000 in
set_option maxHeartbeats 16000000 in
theorem play_7 {w0 w : World} {hh G : Nat} {K : Nat → Prop} {d : Hd} (A : At w0 hh G K w d) (c : Cl) (hW : HpW w0) (hk : c.kind < 256) (hkl : c.key.length ≤ 1000000) (hv : c.v.wf) (hit : VRead2 w c.iv c.items) (hwf : ∀ x ∈ c.items, x.wf) (hn : c.items.length ≤ 1000000) (h9 : c.kind % 10 = 7) :
    Calls Tryd.prog 26 #[.pointer (some ⟨hh, 0, none⟩), c.vv] w fun e w' => (∃ v, e = .returned v) ∧ ∃ d', At w0 hh G K w' d' ∧ Kept K w w' := by
  obtain ⟨ck, ci, cn, cs, ⟨vk, vn, vt, vr⟩, its, cv⟩ := c
  have hKb : ∀ b, K b → b < w.heap.size := fun b hb => by obtain ⟨s, -, -, -, -, h5⟩ := A.ex; exact (h5 b hb).1
  have hw0 := A.pur.size
  have p1 : Pur w (((w.alloc (.cells #[.int .u8 ck, .int .i64 ci, .int .i64 cn, .string ⟨cs.toArray⟩, .int .i64 vk, .float .f64 vn, .string ⟨vt.toArray⟩, .int .i64 vr, cv] 54)).alloc (.cells #[.int .i64 0, .int .i64 0, .int .i64 0, .int .i64 0, .float .f64 0, .string ⟨#[]⟩, .int .i64 0, .bool false, .int .i64 0, .slice none 0 0, .slice none 0 0] 56)).alloc (.cells #[.int .i64 0, .int .i64 0, .int .i64 0, .int .i64 0, .float .f64 0, .string ⟨#[]⟩, .int .i64 0, .bool false, .int .i64 0, .slice none 0 0, .slice none 0 0] 56)) := (((Pur.refl w).alloc _).alloc _).alloc _
  have A1 : At w0 hh G (K3 K w.heap.size) (((w.alloc (.cells #[.int .u8 ck, .int .i64 ci, .int .i64 cn, .string ⟨cs.toArray⟩, .int .i64 vk, .float .f64 vn, .string ⟨vt.toArray⟩, .int .i64 vr, cv] 54)).alloc (.cells #[.int .i64 0, .int .i64 0, .int .i64 0, .int .i64 0, .float .f64 0, .string ⟨#[]⟩, .int .i64 0, .bool false, .int .i64 0, .slice none 0 0, .slice none 0 0] 56)).alloc (.cells #[.int .i64 0, .int .i64 0, .int .i64 0, .int .i64 0, .float .f64 0, .string ⟨#[]⟩, .int .i64 0, .bool false, .int .i64 0, .slice none 0 0, .slice none 0 0] 56)) d := by
    have a1 := A.keep ((Pur.refl w).alloc (.cells #[.int .u8 ck, .int .i64 ci, .int .i64 cn, .string ⟨cs.toArray⟩, .int .i64 vk, .float .f64 vn, .string ⟨vt.toArray⟩, .int .i64 vr, cv] 54)) w.heap.size (Nat.le_refl _) (by simp)
    have a2 := a1.keep ((Pur.refl (w.alloc (.cells #[.int .u8 ck, .int .i64 ci, .int .i64 cn, .string ⟨cs.toArray⟩, .int .i64 vk, .float .f64 vn, .string ⟨vt.toArray⟩, .int .i64 vr, cv] 54))).alloc (.cells #[.int .i64 0, .int .i64 0, .int .i64 0, .int .i64 0, .float .f64 0, .string ⟨#[]⟩, .int .i64 0, .bool false, .int .i64 0, .slice none 0 0, .slice none 0 0] 56)) (w.heap.size + 1) (by simp) (by simp)
    have a3 := a2.keep ((Pur.refl ((w.alloc (.cells #[.int .u8 ck, .int .i64 ci, .int .i64 cn, .string ⟨cs.toArray⟩, .int .i64 vk, .float .f64 vn, .string ⟨vt.toArray⟩, .int .i64 vr, cv] 54)).alloc (.cells #[.int .i64 0, .int .i64 0, .int .i64 0, .int .i64 0, .float .f64 0, .string ⟨#[]⟩, .int .i64 0, .bool false, .int .i64 0, .slice none 0 0, .slice none 0 0] 56))).alloc (.cells #[.int .i64 0, .int .i64 0, .int .i64 0, .int .i64 0, .float .f64 0, .string ⟨#[]⟩, .int .i64 0, .bool false, .int .i64 0, .slice none 0 0, .slice none 0 0] 56)) (w.heap.size + 1 + 1) (by simp) (by simp)
    exact a3
  have P1 : PR w0 hh G K (.cells #[.int .u8 ck, .int .i64 ci, .int .i64 cn, .string ⟨cs.toArray⟩, .int .i64 vk, .float .f64 vn, .string ⟨vt.toArray⟩, .int .i64 vr, cv] 54) w (((w.alloc (.cells #[.int .u8 ck, .int .i64 ci, .int .i64 cn, .string ⟨cs.toArray⟩, .int .i64 vk, .float .f64 vn, .string ⟨vt.toArray⟩, .int .i64 vr, cv] 54)).alloc (.cells #[.int .i64 0, .int .i64 0, .int .i64 0, .int .i64 0, .float .f64 0, .string ⟨#[]⟩, .int .i64 0, .bool false, .int .i64 0, .slice none 0 0, .slice none 0 0] 56)).alloc (.cells #[.int .i64 0, .int .i64 0, .int .i64 0, .int .i64 0, .float .f64 0, .string ⟨#[]⟩, .int .i64 0, .bool false, .int .i64 0, .slice none 0 0, .slice none 0 0] 56)) d Rp.zero := by
    refine ⟨A1, fun b hb => p1.block b (hKb b hb), ?_, ?_, bk_alloc (bk_alloc (bk_new w (.cells #[.int .u8 ck, .int .i64 ci, .int .i64 cn, .string ⟨cs.toArray⟩, .int .i64 vk, .float .f64 vn, .string ⟨vt.toArray⟩, .int .i64 vr, cv] 54)) (.cells #[.int .i64 0, .int .i64 0, .int .i64 0, .int .i64 0, .float .f64 0, .string ⟨#[]⟩, .int .i64 0, .bool false, .int .i64 0, .slice none 0 0, .slice none 0 0] 56)) (.cells #[.int .i64 0, .int .i64 0, .int .i64 0, .int .i64 0, .float .f64 0, .string ⟨#[]⟩, .int .i64 0, .bool false, .int .i64 0, .slice none 0 0, .slice none 0 0] 56)⟩
    · have := bk_new ((w.alloc (.cells #[.int .u8 ck, .int .i64 ci, .int .i64 cn, .string ⟨cs.toArray⟩, .int .i64 vk, .float .f64 vn, .string ⟨vt.toArray⟩, .int .i64 vr, cv] 54)).alloc (.cells #[.int .i64 0, .int .i64 0, .int .i64 0, .int .i64 0, .float .f64 0, .string ⟨#[]⟩, .int .i64 0, .bool false, .int .i64 0, .slice none 0 0, .slice none 0 0] 56)) (.cells #[.int .i64 0, .int .i64 0, .int .i64 0, .int .i64 0, .float .f64 0, .string ⟨#[]⟩, .int .i64 0, .bool false, .int .i64 0, .slice none 0 0, .slice none 0 0] 56)
      rw [show ((w.alloc (.cells #[.int .u8 ck, .int .i64 ci, .int .i64 cn, .string ⟨cs.toArray⟩, .int .i64 vk, .float .f64 vn, .string ⟨vt.toArray⟩, .int .i64 vr, cv] 54)).alloc (.cells #[.int .i64 0, .int .i64 0, .int .i64 0, .int .i64 0, .float .f64 0, .string ⟨#[]⟩, .int .i64 0, .bool false, .int .i64 0, .slice none 0 0, .slice none 0 0] 56)).heap.size = w.heap.size + 1 + 1 by simp] at this
      exact this
    · have := bk_alloc (bk_new (w.alloc (.cells #[.int .u8 ck, .int .i64 ci, .int .i64 cn, .string ⟨cs.toArray⟩, .int .i64 vk, .float .f64 vn, .string ⟨vt.toArray⟩, .int .i64 vr, cv] 54)) (.cells #[.int .i64 0, .int .i64 0, .int .i64 0, .int .i64 0, .float .f64 0, .string ⟨#[]⟩, .int .i64 0, .bool false, .int .i64 0, .slice none 0 0, .slice none 0 0] 56)) (.cells #[.int .i64 0, .int .i64 0, .int .i64 0, .int .i64 0, .float .f64 0, .string ⟨#[]⟩, .int .i64 0, .bool false, .int .i64 0, .slice none 0 0, .slice none 0 0] 56)
      rw [show (w.alloc (.cells #[.int .u8 ck, .int .i64 ci, .int .i64 cn, .string ⟨cs.toArray⟩, .int .i64 vk, .float .f64 vn, .string ⟨vt.toArray⟩, .int .i64 vr, cv] 54)).heap.size = w.heap.size + 1 by simp] at this
      exact this
  have hit1 := hit.pur p1
  simp only at hk hkl hv hwf hn hit1 h9
  simp only [Cl.vv, Cl.cells]
  clear hit A A1
  have e9 : (ck : Int) % 10 = 7 := by omega
  clear h9 hk
  go_enter Tryd.func26, Tryd.ntmps26
  have R := get_st P1.hp ci cs hkl
  generalize (d.get ci cs).2 = gb at R
  generalize (d.get ci cs).1 = gv at R
  obtain ⟨gk, gn, gt, gr⟩ := gv
  simp only [Va.v, Va.cells] at R
  go_wp2_with fail
  refine (R).mono ?_
  rintro e w2 ⟨rfl, h2⟩
  have Q := P1.pur h2
  clear R h2 P1 hit1 hwf
  have ⟨f3, c3⟩ := Q.cell 3 (.int .i64 0) rfl
  have Q0 := Q.set hKb hw0 3 (.int .i64 gk) (r' := { Rp.zero with v := ⟨gk, 0, [], 0⟩ }) rfl
  have ⟨f4, c4⟩ := Q0.cell 4 (.float .f64 0) rfl
  have Q1 := Q0.set hKb hw0 4 (.float .f64 gn) (r' := { Rp.zero with v := ⟨gk, gn, [], 0⟩ }) rfl
  have ⟨f5, c5⟩ := Q1.cell 5 (.string ⟨#[]⟩) rfl
  have Q2 := Q1.set hKb hw0 5 (.string ⟨gt.toArray⟩) (r' := { Rp.zero with v := ⟨gk, gn, gt, 0⟩ }) rfl
  have ⟨f6, c6⟩ := Q2.cell 6 (.int .i64 0) rfl
  have Q3 := Q2.set hKb hw0 6 (.int .i64 gr) (r' := { Rp.zero with v := ⟨gk, gn, gt, gr⟩ }) rfl
  have ⟨f7, c7⟩ := Q3.cell 7 (.bool false) rfl
  have Q4 := Q3.set hKb hw0 7 (.bool gb) (r' := { Rp.zero with v := ⟨gk, gn, gt, gr⟩, ok := gb }) rfl
  obtain ⟨⟨rn, rm, rk, ⟨ra, rb, rc, rd⟩, rok, rerr, ka, kn, kc, ia, il, ic⟩, PX⟩ : ∃ r, PR w0 hh G K (.cells #[.int .u8 ck, .int .i64 ci, .int .i64 cn, .string ⟨cs.toArray⟩, .int .i64 vk, .float .f64 vn, .string ⟨vt.toArray⟩, .int .i64 vr, cv] 54) w _ _ r := ⟨_, Q4⟩
  obtain ⟨g8, k8⟩ := PX.cell 8 (.int .i64 rerr) rfl
  have Q := PX.set hKb hw0 8 (.int .i64 (0)) (r' := ⟨rn, rm, rk, ⟨ra, rb, rc, rd⟩, rok, 0, ka, kn, kc, ia, il, ic⟩) rfl
  have s0 := (Q.cell 0 (.int .i64 rn) rfl).2
  have s1 := (Q.cell 1 (.int .i64 rm) rfl).2
  have s2 := (Q.cell 2 (.int .i64 rk) rfl).2
  have s3 := (Q.cell 3 (.int .i64 ra) rfl).2
  have s4 := (Q.cell 4 (.float .f64 rb) rfl).2
  have s5 := (Q.cell 5 (.string ⟨rc.toArray⟩) rfl).2
  have s6 := (Q.cell 6 (.int .i64 rd) rfl).2
  have s7 := (Q.cell 7 (.bool rok) rfl).2
  have s8 := (Q.cell 8 (.int .i64 (0)) rfl).2
  have s9 := (Q.cell 9 (.slice ka kn kc) rfl).2
  have s10 := (Q.cell 10 (.slice ia il ic) rfl).2
  have u0 := bk_free Q.c4 0
  have v0 := bk_cell Q.c4 0 (.int .i64 0) rfl
  have u1 := bk_free Q.c4 1
  have v1 := bk_cell Q.c4 1 (.int .i64 0) rfl
  have u2 := bk_free Q.c4 2
  have v2 := bk_cell Q.c4 2 (.int .i64 0) rfl
  have u3 := bk_free Q.c4 3
  have v3 := bk_cell Q.c4 3 (.int .i64 0) rfl
  have u4 := bk_free Q.c4 4
  have v4 := bk_cell Q.c4 4 (.float .f64 0) rfl
  have u5 := bk_free Q.c4 5
  have v5 := bk_cell Q.c4 5 (.string ⟨#[]⟩) rfl
  have u6 := bk_free Q.c4 6
  have v6 := bk_cell Q.c4 6 (.int .i64 0) rfl
  have u7 := bk_free Q.c4 7
  have v7 := bk_cell Q.c4 7 (.bool false) rfl
  have u8 := bk_free Q.c4 8
  have v8 := bk_cell Q.c4 8 (.int .i64 0) rfl
  have u9 := bk_free Q.c4 9
  have v9 := bk_cell Q.c4 9 (.slice none 0 0) rfl
  have u10 := bk_free Q.c4 10
  have v10 := bk_cell Q.c4 10 (.slice none 0 0) rfl
  have HF := And.intro Q.hp Q.kept
  clear Q PX
  go_wp2_with fail
  refine bodyPost_ret (v := .agg #[.int .i64 rn, .int .i64 rm, .int .i64 rk, .int .i64 ra, .float .f64 rb, .string ⟨rc.toArray⟩, .int .i64 rd, .bool rok, .int .i64 (0), .slice ka kn kc, .slice ia il ic]) (by simp [results, Tryd.results26, go_sem, v0, v1, v2, v3, v4, v5, v6, v7, v8, v9, v10]) rfl ?_
  refine ⟨⟨_, rfl⟩, d, ?_⟩
  have HG : ∀ wx, (At w0 hh G (K3 K w.heap.size) wx (d) ∧ Kept K w wx) → (At w0 hh G K wx (d) ∧ Kept K w wx) := fun wx h => ⟨h.1.sub (fun b hb => .inl (.inl (.inl hb))), h.2⟩
  refine HG _ ?_
  repeat (first | with_reducible exact HF | with_reducible refine fin_set hKb hw0 ?_ _ _)
set_option maxRecDepth 100000 in
set_option maxHeartbeats 16000000 in
theorem play_8 {w0 w : World} {hh G : Nat} {K : Nat → Prop} {d : Hd} (A : At w0 hh G K w d) (c : Cl) (hW : HpW w0) (hk : c.kind < 256) (hkl : c.key.length ≤ 1000000) (hv : c.v.wf) (hit : VRead2 w c.iv c.items) (hwf : ∀ x ∈ c.items, x.wf) (hn : c.items.length ≤ 1000000) (h9 : c.kind % 10 = 8) :
    Calls Tryd.prog 26 #[.pointer (some ⟨hh, 0, none⟩), c.vv] w fun e w' => (∃ v, e = .returned v) ∧ ∃ d', At w0 hh G K w' d' ∧ Kept K w w' := by
  obtain ⟨ck, ci, cn, cs, ⟨vk, vn, vt, vr⟩, its, cv⟩ := c
  have hKb : ∀ b, K b → b < w.heap.size := fun b hb => by obtain ⟨s, -, -, -, -, h5⟩ := A.ex; exact (h5 b hb).1
  have hw0 := A.pur.size
  have p1 : Pur w (((w.alloc (.cells #[.int .u8 ck, .int .i64 ci, .int .i64 cn, .string ⟨cs.toArray⟩, .int .i64 vk, .float .f64 vn, .string ⟨vt.toArray⟩, .int .i64 vr, cv] 54)).alloc (.cells #[.int .i64 0, .int .i64 0, .int .i64 0, .int .i64 0, .float .f64 0, .string ⟨#[]⟩, .int .i64 0, .bool false, .int .i64 0, .slice none 0 0, .slice none 0 0] 56)).alloc (.cells #[.int .i64 0, .int .i64 0, .int .i64 0, .int .i64 0, .float .f64 0, .string ⟨#[]⟩, .int .i64 0, .bool false, .int .i64 0, .slice none 0 0, .slice none 0 0] 56)) := (((Pur.refl w).alloc _).alloc _).alloc _
  have A1 : At w0 hh G (K3 K w.heap.size) (((w.alloc (.cells #[.int .u8 ck, .int .i64 ci, .int .i64 cn, .string ⟨cs.toArray⟩, .int .i64 vk, .float .f64 vn, .string ⟨vt.toArray⟩, .int .i64 vr, cv] 54)).alloc (.cells #[.int .i64 0, .int .i64 0, .int .i64 0, .int .i64 0, .float .f64 0, .string ⟨#[]⟩, .int .i64 0, .bool false, .int .i64 0, .slice none 0 0, .slice none 0 0] 56)).alloc (.cells #[.int .i64 0, .int .i64 0, .int .i64 0, .int .i64 0, .float .f64 0, .string ⟨#[]⟩, .int .i64 0, .bool false, .int .i64 0, .slice none 0 0, .slice none 0 0] 56)) d := by
    have a1 := A.keep ((Pur.refl w).alloc (.cells #[.int .u8 ck, .int .i64 ci, .int .i64 cn, .string ⟨cs.toArray⟩, .int .i64 vk, .float .f64 vn, .string ⟨vt.toArray⟩, .int .i64 vr, cv] 54)) w.heap.size (Nat.le_refl _) (by simp)
    have a2 := a1.keep ((Pur.refl (w.alloc (.cells #[.int .u8 ck, .int .i64 ci, .int .i64 cn, .string ⟨cs.toArray⟩, .int .i64 vk, .float .f64 vn, .string ⟨vt.toArray⟩, .int .i64 vr, cv] 54))).alloc (.cells #[.int .i64 0, .int .i64 0, .int .i64 0, .int .i64 0, .float .f64 0, .string ⟨#[]⟩, .int .i64 0, .bool false, .int .i64 0, .slice none 0 0, .slice none 0 0] 56)) (w.heap.size + 1) (by simp) (by simp)
    have a3 := a2.keep ((Pur.refl ((w.alloc (.cells #[.int .u8 ck, .int .i64 ci, .int .i64 cn, .string ⟨cs.toArray⟩, .int .i64 vk, .float .f64 vn, .string ⟨vt.toArray⟩, .int .i64 vr, cv] 54)).alloc (.cells #[.int .i64 0, .int .i64 0, .int .i64 0, .int .i64 0, .float .f64 0, .string ⟨#[]⟩, .int .i64 0, .bool false, .int .i64 0, .slice none 0 0, .slice none 0 0] 56))).alloc (.cells #[.int .i64 0, .int .i64 0, .int .i64 0, .int .i64 0, .float .f64 0, .string ⟨#[]⟩, .int .i64 0, .bool false, .int .i64 0, .slice none 0 0, .slice none 0 0] 56)) (w.heap.size + 1 + 1) (by simp) (by simp)
    exact a3
  have P1 : PR w0 hh G K (.cells #[.int .u8 ck, .int .i64 ci, .int .i64 cn, .string ⟨cs.toArray⟩, .int .i64 vk, .float .f64 vn, .string ⟨vt.toArray⟩, .int .i64 vr, cv] 54) w (((w.alloc (.cells #[.int .u8 ck, .int .i64 ci, .int .i64 cn, .string ⟨cs.toArray⟩, .int .i64 vk, .float .f64 vn, .string ⟨vt.toArray⟩, .int .i64 vr, cv] 54)).alloc (.cells #[.int .i64 0, .int .i64 0, .int .i64 0, .int .i64 0, .float .f64 0, .string ⟨#[]⟩, .int .i64 0, .bool false, .int .i64 0, .slice none 0 0, .slice none 0 0] 56)).alloc (.cells #[.int .i64 0, .int .i64 0, .int .i64 0, .int .i64 0, .float .f64 0, .string ⟨#[]⟩, .int .i64 0, .bool false, .int .i64 0, .slice none 0 0, .slice none 0 0] 56)) d Rp.zero := by
    refine ⟨A1, fun b hb => p1.block b (hKb b hb), ?_, ?_, bk_alloc (bk_alloc (bk_new w (.cells #[.int .u8 ck, .int .i64 ci, .int .i64 cn, .string ⟨cs.toArray⟩, .int .i64 vk, .float .f64 vn, .string ⟨vt.toArray⟩, .int .i64 vr, cv] 54)) (.cells #[.int .i64 0, .int .i64 0, .int .i64 0, .int .i64 0, .float .f64 0, .string ⟨#[]⟩, .int .i64 0, .bool false, .int .i64 0, .slice none 0 0, .slice none 0 0] 56)) (.cells #[.int .i64 0, .int .i64 0, .int .i64 0, .int .i64 0, .float .f64 0, .string ⟨#[]⟩, .int .i64 0, .bool false, .int .i64 0, .slice none 0 0, .slice none 0 0] 56)⟩
    · have := bk_new ((w.alloc (.cells #[.int .u8 ck, .int .i64 ci, .int .i64 cn, .string ⟨cs.toArray⟩, .int .i64 vk, .float .f64 vn, .string ⟨vt.toArray⟩, .int .i64 vr, cv] 54)).alloc (.cells #[.int .i64 0, .int .i64 0, .int .i64 0, .int .i64 0, .float .f64 0, .string ⟨#[]⟩, .int .i64 0, .bool false, .int .i64 0, .slice none 0 0, .slice none 0 0] 56)) (.cells #[.int .i64 0, .int .i64 0, .int .i64 0, .int .i64 0, .float .f64 0, .string ⟨#[]⟩, .int .i64 0, .bool false, .int .i64 0, .slice none 0 0, .slice none 0 0] 56)
      rw [show ((w.alloc (.cells #[.int .u8 ck, .int .i64 ci, .int .i64 cn, .string ⟨cs.toArray⟩, .int .i64 vk, .float .f64 vn, .string ⟨vt.toArray⟩, .int .i64 vr, cv] 54)).alloc (.cells #[.int .i64 0, .int .i64 0, .int .i64 0, .int .i64 0, .float .f64 0, .string ⟨#[]⟩, .int .i64 0, .bool false, .int .i64 0, .slice none 0 0, .slice none 0 0] 56)).heap.size = w.heap.size + 1 + 1 by simp] at this
      exact this
    · have := bk_alloc (bk_new (w.alloc (.cells #[.int .u8 ck, .int .i64 ci, .int .i64 cn, .string ⟨cs.toArray⟩, .int .i64 vk, .float .f64 vn, .string ⟨vt.toArray⟩, .int .i64 vr, cv] 54)) (.cells #[.int .i64 0, .int .i64 0, .int .i64 0, .int .i64 0, .float .f64 0, .string ⟨#[]⟩, .int .i64 0, .bool false, .int .i64 0, .slice none 0 0, .slice none 0 0] 56)) (.cells #[.int .i64 0, .int .i64 0, .int .i64 0, .int .i64 0, .float .f64 0, .string ⟨#[]⟩, .int .i64 0, .bool false, .int .i64 0, .slice none 0 0, .slice none 0 0] 56)
      rw [show (w.alloc (.cells #[.int .u8 ck, .int .i64 ci, .int .i64 cn, .string ⟨cs.toArray⟩, .int .i64 vk, .float .f64 vn, .string ⟨vt.toArray⟩, .int .i64 vr, cv] 54)).heap.size = w.heap.size + 1 by simp] at this
      exact this
  have hit1 := hit.pur p1
  simp only at hk hkl hv hwf hn hit1 h9
  simp only [Cl.vv, Cl.cells]
  clear hit A A1
  have e9 : (ck : Int) % 10 = 8 := by omega
  clear h9 hk
  go_enter Tryd.func26, Tryd.ntmps26
  have R := own_st P1.hp ci cs hkl
  generalize (d.own ci cs).2 = gb at R
  generalize (d.own ci cs).1 = gv at R
  obtain ⟨gk, gn, gt, gr⟩ := gv
  simp only [Va.v, Va.cells] at R
  go_wp2_with fail
  refine (R).mono ?_
  rintro e w2 ⟨rfl, h2⟩
  have Q := P1.pur h2
  clear R h2 P1 hit1 hwf
  have ⟨f3, c3⟩ := Q.cell 3 (.int .i64 0) rfl
  have Q0 := Q.set hKb hw0 3 (.int .i64 gk) (r' := { Rp.zero with v := ⟨gk, 0, [], 0⟩ }) rfl
  have ⟨f4, c4⟩ := Q0.cell 4 (.float .f64 0) rfl
  have Q1 := Q0.set hKb hw0 4 (.float .f64 gn) (r' := { Rp.zero with v := ⟨gk, gn, [], 0⟩ }) rfl
  have ⟨f5, c5⟩ := Q1.cell 5 (.string ⟨#[]⟩) rfl
  have Q2 := Q1.set hKb hw0 5 (.string ⟨gt.toArray⟩) (r' := { Rp.zero with v := ⟨gk, gn, gt, 0⟩ }) rfl
  have ⟨f6, c6⟩ := Q2.cell 6 (.int .i64 0) rfl
  have Q3 := Q2.set hKb hw0 6 (.int .i64 gr) (r' := { Rp.zero with v := ⟨gk, gn, gt, gr⟩ }) rfl
  have ⟨f7, c7⟩ := Q3.cell 7 (.bool false) rfl
  have Q4 := Q3.set hKb hw0 7 (.bool gb) (r' := { Rp.zero with v := ⟨gk, gn, gt, gr⟩, ok := gb }) rfl
  have j1 := bk_cell Q4.c3 1 (.int .i64 ci) rfl
  have R := keys_st Q4.hp (hW.pur Q4.hp.pur) ci
  go_wp2_with fail
  refine (R).mono ?_
  rintro e w3 ⟨kv, rfl, h3, hrow⟩
  obtain ⟨xa, xc, rfl⟩ := row_shape hrow
  generalize (d.keys ci).length = xn at *
  clear hrow
  have T := Q4.pur h3
  clear R h3
  have ⟨f9, c9⟩ := T.cell 9 (.slice none 0 0) rfl
  have T0 := T.set hKb hw0 9 (.slice xa xn xc) (r' := { Rp.zero with v := ⟨gk, gn, gt, gr⟩, ok := gb, ka := xa, kn := xn, kc := xc }) rfl
  have j1 := bk_cell T0.c3 1 (.int .i64 ci) rfl
  have R := kind_st T0.hp ci
  go_wp2_with fail
  refine (R).mono ?_
  rintro e w4 ⟨rfl, rfl⟩
  clear R
  have ⟨f0, c0⟩ := T0.cell 0 (.int .i64 0) rfl
  have U0 := T0.set hKb hw0 0 (.int .i64 (d.kind ci)) (r' := { Rp.zero with v := ⟨gk, gn, gt, gr⟩, ok := gb, ka := xa, kn := xn, kc := xc, n := d.kind ci }) rfl
  have j1 := bk_cell U0.c3 1 (.int .i64 ci) rfl
  have R := proto_st U0.hp ci
  go_wp2_with fail
  refine (R).mono ?_
  rintro e w5 ⟨rfl, rfl⟩
  clear R
  have ⟨f2, c2⟩ := U0.cell 2 (.int .i64 0) rfl
  have V0 := U0.set hKb hw0 2 (.int .i64 (d.proto ci)) (r' := { Rp.zero with v := ⟨gk, gn, gt, gr⟩, ok := gb, ka := xa, kn := xn, kc := xc, n := d.kind ci, k := d.proto ci }) rfl
  obtain ⟨⟨rn, rm, rk, ⟨ra, rb, rc, rd⟩, rok, rerr, ka, kn, kc, ia, il, ic⟩, PX⟩ : ∃ r, PR w0 hh G K (.cells #[.int .u8 ck, .int .i64 ci, .int .i64 cn, .string ⟨cs.toArray⟩, .int .i64 vk, .float .f64 vn, .string ⟨vt.toArray⟩, .int .i64 vr, cv] 54) w _ _ r := ⟨_, V0⟩
  obtain ⟨g8, k8⟩ := PX.cell 8 (.int .i64 rerr) rfl
  have Q := PX.set hKb hw0 8 (.int .i64 (0)) (r' := ⟨rn, rm, rk, ⟨ra, rb, rc, rd⟩, rok, 0, ka, kn, kc, ia, il, ic⟩) rfl
  have s0 := (Q.cell 0 (.int .i64 rn) rfl).2
  have s1 := (Q.cell 1 (.int .i64 rm) rfl).2
  have s2 := (Q.cell 2 (.int .i64 rk) rfl).2
  have s3 := (Q.cell 3 (.int .i64 ra) rfl).2
  have s4 := (Q.cell 4 (.float .f64 rb) rfl).2
  have s5 := (Q.cell 5 (.string ⟨rc.toArray⟩) rfl).2
  have s6 := (Q.cell 6 (.int .i64 rd) rfl).2
  have s7 := (Q.cell 7 (.bool rok) rfl).2
  have s8 := (Q.cell 8 (.int .i64 (0)) rfl).2
  have s9 := (Q.cell 9 (.slice ka kn kc) rfl).2
  have s10 := (Q.cell 10 (.slice ia il ic) rfl).2
  have u0 := bk_free Q.c4 0
  have v0 := bk_cell Q.c4 0 (.int .i64 0) rfl
  have u1 := bk_free Q.c4 1
  have v1 := bk_cell Q.c4 1 (.int .i64 0) rfl
  have u2 := bk_free Q.c4 2
  have v2 := bk_cell Q.c4 2 (.int .i64 0) rfl
  have u3 := bk_free Q.c4 3
  have v3 := bk_cell Q.c4 3 (.int .i64 0) rfl
  have u4 := bk_free Q.c4 4
  have v4 := bk_cell Q.c4 4 (.float .f64 0) rfl
  have u5 := bk_free Q.c4 5
  have v5 := bk_cell Q.c4 5 (.string ⟨#[]⟩) rfl
  have u6 := bk_free Q.c4 6
  have v6 := bk_cell Q.c4 6 (.int .i64 0) rfl
  have u7 := bk_free Q.c4 7
  have v7 := bk_cell Q.c4 7 (.bool false) rfl
  have u8 := bk_free Q.c4 8
  have v8 := bk_cell Q.c4 8 (.int .i64 0) rfl
  have u9 := bk_free Q.c4 9
  have v9 := bk_cell Q.c4 9 (.slice none 0 0) rfl
  have u10 := bk_free Q.c4 10
  have v10 := bk_cell Q.c4 10 (.slice none 0 0) rfl
  have HF := And.intro Q.hp Q.kept
  clear Q PX
  go_wp2_with fail
  refine bodyPost_ret (v := .agg #[.int .i64 rn, .int .i64 rm, .int .i64 rk, .int .i64 ra, .float .f64 rb, .string ⟨rc.toArray⟩, .int .i64 rd, .bool rok, .int .i64 (0), .slice ka kn kc, .slice ia il ic]) (by simp [results, Tryd.results26, go_sem, v0, v1, v2, v3, v4, v5, v6, v7, v8, v9, v10]) rfl ?_
  refine ⟨⟨_, rfl⟩, d, ?_⟩
  have HG : ∀ wx, (At w0 hh G (K3 K w.heap.size) wx (d) ∧ Kept K w wx) → (At w0 hh G K wx (d) ∧ Kept K w wx) := fun wx h => ⟨h.1.sub (fun b hb => .inl (.inl (.inl hb))), h.2⟩
  refine HG _ ?_
  repeat (first | with_reducible exact HF | with_reducible refine fin_set hKb hw0 ?_ _ _)
set_option maxRecDepth 100000 in
set_option maxHeartbeats 16000000 in
theorem play_9 {w0 w : World} {hh G : Nat} {K : Nat → Prop} {d : Hd} (A : At w0 hh G K w d) (c : Cl) (hW : HpW w0) (hk : c.kind < 256) (hkl : c.key.length ≤ 1000000) (hv : c.v.wf) (hit : VRead2 w c.iv c.items) (hwf : ∀ x ∈ c.items, x.wf) (hn : c.items.length ≤ 1000000) (h9 : c.kind % 10 = 9) :
    Calls Tryd.prog 26 #[.pointer (some ⟨hh, 0, none⟩), c.vv] w fun e w' => (∃ v, e = .returned v) ∧ ∃ d', At w0 hh G K w' d' ∧ Kept K w w' := by
  obtain ⟨ck, ci, cn, cs, ⟨vk, vn, vt, vr⟩, its, cv⟩ := c
  have hKb : ∀ b, K b → b < w.heap.size := fun b hb => by obtain ⟨s, -, -, -, -, h5⟩ := A.ex; exact (h5 b hb).1
  have hw0 := A.pur.size
  have p1 : Pur w (((w.alloc (.cells #[.int .u8 ck, .int .i64 ci, .int .i64 cn, .string ⟨cs.toArray⟩, .int .i64 vk, .float .f64 vn, .string ⟨vt.toArray⟩, .int .i64 vr, cv] 54)).alloc (.cells #[.int .i64 0, .int .i64 0, .int .i64 0, .int .i64 0, .float .f64 0, .string ⟨#[]⟩, .int .i64 0, .bool false, .int .i64 0, .slice none 0 0, .slice none 0 0] 56)).alloc (.cells #[.int .i64 0, .int .i64 0, .int .i64 0, .int .i64 0, .float .f64 0, .string ⟨#[]⟩, .int .i64 0, .bool false, .int .i64 0, .slice none 0 0, .slice none 0 0] 56)) := (((Pur.refl w).alloc _).alloc _).alloc _
  have A1 : At w0 hh G (K3 K w.heap.size) (((w.alloc (.cells #[.int .u8 ck, .int .i64 ci, .int .i64 cn, .string ⟨cs.toArray⟩, .int .i64 vk, .float .f64 vn, .string ⟨vt.toArray⟩, .int .i64 vr, cv] 54)).alloc (.cells #[.int .i64 0, .int .i64 0, .int .i64 0, .int .i64 0, .float .f64 0, .string ⟨#[]⟩, .int .i64 0, .bool false, .int .i64 0, .slice none 0 0, .slice none 0 0] 56)).alloc (.cells #[.int .i64 0, .int .i64 0, .int .i64 0, .int .i64 0, .float .f64 0, .string ⟨#[]⟩, .int .i64 0, .bool false, .int .i64 0, .slice none 0 0, .slice none 0 0] 56)) d := by
    have a1 := A.keep ((Pur.refl w).alloc (.cells #[.int .u8 ck, .int .i64 ci, .int .i64 cn, .string ⟨cs.toArray⟩, .int .i64 vk, .float .f64 vn, .string ⟨vt.toArray⟩, .int .i64 vr, cv] 54)) w.heap.size (Nat.le_refl _) (by simp)
    have a2 := a1.keep ((Pur.refl (w.alloc (.cells #[.int .u8 ck, .int .i64 ci, .int .i64 cn, .string ⟨cs.toArray⟩, .int .i64 vk, .float .f64 vn, .string ⟨vt.toArray⟩, .int .i64 vr, cv] 54))).alloc (.cells #[.int .i64 0, .int .i64 0, .int .i64 0, .int .i64 0, .float .f64 0, .string ⟨#[]⟩, .int .i64 0, .bool false, .int .i64 0, .slice none 0 0, .slice none 0 0] 56)) (w.heap.size + 1) (by simp) (by simp)
    have a3 := a2.keep ((Pur.refl ((w.alloc (.cells #[.int .u8 ck, .int .i64 ci, .int .i64 cn, .string ⟨cs.toArray⟩, .int .i64 vk, .float .f64 vn, .string ⟨vt.toArray⟩, .int .i64 vr, cv] 54)).alloc (.cells #[.int .i64 0, .int .i64 0, .int .i64 0, .int .i64 0, .float .f64 0, .string ⟨#[]⟩, .int .i64 0, .bool false, .int .i64 0, .slice none 0 0, .slice none 0 0] 56))).alloc (.cells #[.int .i64 0, .int .i64 0, .int .i64 0, .int .i64 0, .float .f64 0, .string ⟨#[]⟩, .int .i64 0, .bool false, .int .i64 0, .slice none 0 0, .slice none 0 0] 56)) (w.heap.size + 1 + 1) (by simp) (by simp)
    exact a3
  have P1 : PR w0 hh G K (.cells #[.int .u8 ck, .int .i64 ci, .int .i64 cn, .string ⟨cs.toArray⟩, .int .i64 vk, .float .f64 vn, .string ⟨vt.toArray⟩, .int .i64 vr, cv] 54) w (((w.alloc (.cells #[.int .u8 ck, .int .i64 ci, .int .i64 cn, .string ⟨cs.toArray⟩, .int .i64 vk, .float .f64 vn, .string ⟨vt.toArray⟩, .int .i64 vr, cv] 54)).alloc (.cells #[.int .i64 0, .int .i64 0, .int .i64 0, .int .i64 0, .float .f64 0, .string ⟨#[]⟩, .int .i64 0, .bool false, .int .i64 0, .slice none 0 0, .slice none 0 0] 56)).alloc (.cells #[.int .i64 0, .int .i64 0, .int .i64 0, .int .i64 0, .float .f64 0, .string ⟨#[]⟩, .int .i64 0, .bool false, .int .i64 0, .slice none 0 0, .slice none 0 0] 56)) d Rp.zero := by
    refine ⟨A1, fun b hb => p1.block b (hKb b hb), ?_, ?_, bk_alloc (bk_alloc (bk_new w (.cells #[.int .u8 ck, .int .i64 ci, .int .i64 cn, .string ⟨cs.toArray⟩, .int .i64 vk, .float .f64 vn, .string ⟨vt.toArray⟩, .int .i64 vr, cv] 54)) (.cells #[.int .i64 0, .int .i64 0, .int .i64 0, .int .i64 0, .float .f64 0, .string ⟨#[]⟩, .int .i64 0, .bool false, .int .i64 0, .slice none 0 0, .slice none 0 0] 56)) (.cells #[.int .i64 0, .int .i64 0, .int .i64 0, .int .i64 0, .float .f64 0, .string ⟨#[]⟩, .int .i64 0, .bool false, .int .i64 0, .slice none 0 0, .slice none 0 0] 56)⟩
    · have := bk_new ((w.alloc (.cells #[.int .u8 ck, .int .i64 ci, .int .i64 cn, .string ⟨cs.toArray⟩, .int .i64 vk, .float .f64 vn, .string ⟨vt.toArray⟩, .int .i64 vr, cv] 54)).alloc (.cells #[.int .i64 0, .int .i64 0, .int .i64 0, .int .i64 0, .float .f64 0, .string ⟨#[]⟩, .int .i64 0, .bool false, .int .i64 0, .slice none 0 0, .slice none 0 0] 56)) (.cells #[.int .i64 0, .int .i64 0, .int .i64 0, .int .i64 0, .float .f64 0, .string ⟨#[]⟩, .int .i64 0, .bool false, .int .i64 0, .slice none 0 0, .slice none 0 0] 56)
      rw [show ((w.alloc (.cells #[.int .u8 ck, .int .i64 ci, .int .i64 cn, .string ⟨cs.toArray⟩, .int .i64 vk, .float .f64 vn, .string ⟨vt.toArray⟩, .int .i64 vr, cv] 54)).alloc (.cells #[.int .i64 0, .int .i64 0, .int .i64 0, .int .i64 0, .float .f64 0, .string ⟨#[]⟩, .int .i64 0, .bool false, .int .i64 0, .slice none 0 0, .slice none 0 0] 56)).heap.size = w.heap.size + 1 + 1 by simp] at this
      exact this
    · have := bk_alloc (bk_new (w.alloc (.cells #[.int .u8 ck, .int .i64 ci, .int .i64 cn, .string ⟨cs.toArray⟩, .int .i64 vk, .float .f64 vn, .string ⟨vt.toArray⟩, .int .i64 vr, cv] 54)) (.cells #[.int .i64 0, .int .i64 0, .int .i64 0, .int .i64 0, .float .f64 0, .string ⟨#[]⟩, .int .i64 0, .bool false, .int .i64 0, .slice none 0 0, .slice none 0 0] 56)) (.cells #[.int .i64 0, .int .i64 0, .int .i64 0, .int .i64 0, .float .f64 0, .string ⟨#[]⟩, .int .i64 0, .bool false, .int .i64 0, .slice none 0 0, .slice none 0 0] 56)
      rw [show (w.alloc (.cells #[.int .u8 ck, .int .i64 ci, .int .i64 cn, .string ⟨cs.toArray⟩, .int .i64 vk, .float .f64 vn, .string ⟨vt.toArray⟩, .int .i64 vr, cv] 54)).heap.size = w.heap.size + 1 by simp] at this
      exact this
  have hit1 := hit.pur p1
  simp only at hk hkl hv hwf hn hit1 h9
  simp only [Cl.vv, Cl.cells]
  clear hit A A1
  have e9 : (ck : Int) % 10 = 9 := by omega
  clear h9 hk
  go_enter Tryd.func26, Tryd.ntmps26
  have R := items_st P1.hp ci
  go_wp2_with fail
  refine (R).mono ?_
  rintro e w2 ⟨iv, rfl, h2, hrow⟩
  obtain ⟨xa, xc, rfl⟩ := row_shape hrow
  generalize ((d.items ci).getD []).length = xn at *
  clear hrow
  have Q := P1.pur h2
  clear R h2 P1 hit1 hwf
  have ⟨f10, c10⟩ := Q.cell 10 (.slice none 0 0) rfl
  have Q0 := Q.set hKb hw0 10 (.slice xa xn xc) (r' := { Rp.zero with ia := xa, il := xn, ic := xc }) rfl
  have ⟨f7, c7⟩ := Q0.cell 7 (.bool false) rfl
  have Q1 := Q0.set hKb hw0 7 (.bool (d.items ci).isSome) (r' := { Rp.zero with ia := xa, il := xn, ic := xc, ok := (d.items ci).isSome }) rfl
  have j1 := bk_cell Q1.c3 1 (.int .i64 ci) rfl
  have R := code_st Q1.hp ci
  go_wp2_with fail
  refine (R).mono ?_
  rintro e w3 ⟨rfl, h3⟩
  have T := Q1.pur h3
  clear R h3
  have ⟨f0, c0⟩ := T.cell 0 (.int .i64 0) rfl
  have T0 := T.set hKb hw0 0 (.int .i64 (d.code ci).1.1) (r' := { Rp.zero with ia := xa, il := xn, ic := xc, ok := (d.items ci).isSome, n := (d.code ci).1.1 }) rfl
  have ⟨f1, c1⟩ := T0.cell 1 (.int .i64 0) rfl
  have T1 := T0.set hKb hw0 1 (.int .i64 (d.code ci).1.2.1) (r' := { Rp.zero with ia := xa, il := xn, ic := xc, ok := (d.items ci).isSome, n := (d.code ci).1.1, m := (d.code ci).1.2.1 }) rfl
  have ⟨f2, c2⟩ := T1.cell 2 (.int .i64 0) rfl
  have T2 := T1.set hKb hw0 2 (.int .i64 (d.code ci).1.2.2) (r' := { Rp.zero with ia := xa, il := xn, ic := xc, ok := (d.items ci).isSome, n := (d.code ci).1.1, m := (d.code ci).1.2.1, k := (d.code ci).1.2.2 }) rfl
  obtain ⟨⟨rn, rm, rk, ⟨ra, rb, rc, rd⟩, rok, rerr, ka, kn, kc, ia, il, ic⟩, PX⟩ : ∃ r, PR w0 hh G K (.cells #[.int .u8 ck, .int .i64 ci, .int .i64 cn, .string ⟨cs.toArray⟩, .int .i64 vk, .float .f64 vn, .string ⟨vt.toArray⟩, .int .i64 vr, cv] 54) w _ _ r := ⟨_, T2⟩
  obtain ⟨g8, k8⟩ := PX.cell 8 (.int .i64 rerr) rfl
  have Q := PX.set hKb hw0 8 (.int .i64 (0)) (r' := ⟨rn, rm, rk, ⟨ra, rb, rc, rd⟩, rok, 0, ka, kn, kc, ia, il, ic⟩) rfl
  have s0 := (Q.cell 0 (.int .i64 rn) rfl).2
  have s1 := (Q.cell 1 (.int .i64 rm) rfl).2
  have s2 := (Q.cell 2 (.int .i64 rk) rfl).2
  have s3 := (Q.cell 3 (.int .i64 ra) rfl).2
  have s4 := (Q.cell 4 (.float .f64 rb) rfl).2
  have s5 := (Q.cell 5 (.string ⟨rc.toArray⟩) rfl).2
  have s6 := (Q.cell 6 (.int .i64 rd) rfl).2
  have s7 := (Q.cell 7 (.bool rok) rfl).2
  have s8 := (Q.cell 8 (.int .i64 (0)) rfl).2
  have s9 := (Q.cell 9 (.slice ka kn kc) rfl).2
  have s10 := (Q.cell 10 (.slice ia il ic) rfl).2
  have u0 := bk_free Q.c4 0
  have v0 := bk_cell Q.c4 0 (.int .i64 0) rfl
  have u1 := bk_free Q.c4 1
  have v1 := bk_cell Q.c4 1 (.int .i64 0) rfl
  have u2 := bk_free Q.c4 2
  have v2 := bk_cell Q.c4 2 (.int .i64 0) rfl
  have u3 := bk_free Q.c4 3
  have v3 := bk_cell Q.c4 3 (.int .i64 0) rfl
  have u4 := bk_free Q.c4 4
  have v4 := bk_cell Q.c4 4 (.float .f64 0) rfl
  have u5 := bk_free Q.c4 5
  have v5 := bk_cell Q.c4 5 (.string ⟨#[]⟩) rfl
  have u6 := bk_free Q.c4 6
  have v6 := bk_cell Q.c4 6 (.int .i64 0) rfl
  have u7 := bk_free Q.c4 7
  have v7 := bk_cell Q.c4 7 (.bool false) rfl
  have u8 := bk_free Q.c4 8
  have v8 := bk_cell Q.c4 8 (.int .i64 0) rfl
  have u9 := bk_free Q.c4 9
  have v9 := bk_cell Q.c4 9 (.slice none 0 0) rfl
  have u10 := bk_free Q.c4 10
  have v10 := bk_cell Q.c4 10 (.slice none 0 0) rfl
  have HF := And.intro Q.hp Q.kept
  clear Q PX
  go_wp2_with fail
  refine bodyPost_ret (v := .agg #[.int .i64 rn, .int .i64 rm, .int .i64 rk, .int .i64 ra, .float .f64 rb, .string ⟨rc.toArray⟩, .int .i64 rd, .bool rok, .int .i64 (0), .slice ka kn kc, .slice ia il ic]) (by simp [results, Tryd.results26, go_sem, v0, v1, v2, v3, v4, v5, v6, v7, v8, v9, v10]) rfl ?_
  refine ⟨⟨_, rfl⟩, d, ?_⟩
  have HG : ∀ wx, (At w0 hh G (K3 K w.heap.size) wx (d) ∧ Kept K w wx) → (At w0 hh G K wx (d) ∧ Kept K w wx) := fun wx h => ⟨h.1.sub (fun b hb => .inl (.inl (.inl hb))), h.2⟩
  refine HG _ ?_
  repeat (first | with_reducible exact HF | with_reducible refine fin_set hKb hw0 ?_ _ _)
theorem play_st {w0 w : World} {hh G : Nat} {K : Nat → Prop} {d : Hd} (A : At w0 hh G K w d) (c : Cl) (hW : HpW w0) (hk : c.kind < 256) (hkl : c.key.length ≤ 1000000) (hv : c.v.wf) (hit : VRead2 w c.iv c.items) (hwf : ∀ x ∈ c.items, x.wf) (hn : c.items.length ≤ 1000000) :
    Calls Tryd.prog 26 #[.pointer (some ⟨hh, 0, none⟩), c.vv] w fun e w' => (∃ v, e = .returned v) ∧ ∃ d', At w0 hh G K w' d' ∧ Kept K w w' := by
  have ways : c.kind % 10 = 0 ∨ c.kind % 10 = 1 ∨ c.kind % 10 = 2 ∨ c.kind % 10 = 3 ∨ c.kind % 10 = 4 ∨ c.kind % 10 = 5 ∨ c.kind % 10 = 6 ∨ c.kind % 10 = 7 ∨ c.kind % 10 = 8 ∨ c.kind % 10 = 9 := by omega
  rcases ways with h | h | h | h | h | h | h | h | h | h
  · exact play_0 A c hW hk hkl hv hit hwf hn h
  · exact play_1 A c hW hk hkl hv hit hwf hn h
  · exact play_2 A c hW hk hkl hv hit hwf hn h
  · exact play_3 A c hW hk hkl hv hit hwf hn h
  · exact play_4 A c hW hk hkl hv hit hwf hn h
  · exact play_5 A c hW hk hkl hv hit hwf hn h
  · exact play_6 A c hW hk hkl hv hit hwf hn h
  · exact play_7 A c hW hk hkl hv hit hwf hn h
  · exact play_8 A c hW hk hkl hv hit hwf hn h
  · exact play_9 A c hW hk hkl hv hit hwf hn h
end Go.Proofs.YtfophnmnehpenaaDoor
