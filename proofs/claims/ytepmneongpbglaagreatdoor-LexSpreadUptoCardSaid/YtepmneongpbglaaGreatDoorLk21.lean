/- Layer 5: blanks, line ends and remarks ahead of each lexeme change nothing but places and lines. -/
import Derived.Test.YtepmneongpbglaaGreatDoorLk20
import Derived.Test.YtepmneongpbglaaGreatDoorLxQ
import Derived.Test.YtepmneongpbglaaGreatDoorEarly
namespace Go.Proofs.YtepmneongpbglaaGreatDoor
open Go Go.RowKit
set_option linter.all false
section
variable {P : Program} {ops : Array Oper} {Q : Exit → Act → World → Prop} {md : Region.Mode} {T : World → Prop} {d : Nat}
/-- two come up now -/
theorem wpAnyU_two {i j : Nat} {o o2 : Oper} {f : Nat} {s : Array Bool} {a : Act} {w : World} (hr : Region.ready md ops s = [i, j]) (ho : ops[i]? = some o) (ho2 : ops[j]? = some o2)
    (h : ∀ K' : Act → World → Prop, Shut (∀ a w, T w → (T w → wpAnyU P md ops Q T d f (s.setIfInBounds i true) a w) → K' a w) → if Region.wanted o (yielded ops a.tmps) = true then Oper.wp P o a w K' Q else K' (a.put o.dst undef) w)
    (h2 : ∀ K' : Act → World → Prop, Shut (∀ a w, T w → (T w → wpAnyU P md ops Q T d f (s.setIfInBounds j true) a w) → K' a w) → if Region.wanted o2 (yielded ops a.tmps) = true then Oper.wp P o2 a w K' Q else K' (a.put o2.dst undef) w) :
    wpAnyU P md ops Q T d (f + 1) s a w := by
  refine ⟨fun h0 => (by rw [hr] at h0; cases h0), fun k hk => ?_⟩
  rw [hr] at hk
  rcases List.mem_cons.1 hk with e | e
  · subst e
    exact wpOp_step ho (fun K' hK => h K' (fun a w hT hW => hK a w ⟨fun _ => hT, hW hT⟩))
  · have : k = j := by simpa using e
    subst this
    exact wpOp_step ho2 (fun K' hK => h2 K' (fun a w hT hW => hK a w ⟨fun _ => hT, hW hT⟩))
end
namespace Lx
set_option maxRecDepth 100000 in
theorem same04 (y : Nat) (w : World) : Calls Tryz.prog 25 #[.float .f64 y, .float .f64 y] w fun e w' => e = .returned (.bool true) ∧ w = w' := by
  have h6 := @run_callFunc_extern Tryz.prog 40 _ Go.Extern.MathFloatBits.float64bits Tryz.func40 (by kernel_rfl) (by kernel_rfl) (by kernel_rfl) (by kernel_rfl)
  have fb : ∀ (n : Nat) (w : World), (Go.Extern.MathFloatBits.float64bits #[.float .f64 n]).run Tryz.prog w = .ok (.int .u64 (n : Int)) w := fun n w => rfl
  rcases ho : (FloatKind.f64.format.order y y != some Ordering.eq) with _ | _
  all_goals
    go_enter Tryz.func25, Tryz.ntmps25
    go_wp2
    go_ret
    exact ⟨rfl, rfl⟩
theorem bk_new2 (w : World) (x y : Obj) : ((w.alloc x).alloc y).heap[w.heap.size + 1]? = some y := by
  have h := bk_new (w.alloc x) y
  rwa [show (w.alloc x).heap.size = w.heap.size + 1 from Array.size_push _] at h
/-- two rows that agree lexeme by lexeme in kind, text and number -/
def Rows2 (w : World) (a b : Option Addr) (n : Nat) : Prop := ∀ i : Nat, i < n → ∃ (g g2 kd y at1 at2 : Nat) (tx : List UInt8) (l1 l2 : Bool), a = some ⟨g, 0, none⟩ ∧ b = some ⟨g2, 0, none⟩ ∧
  w.cell? ⟨g, i * 5, none⟩ = some (.int .i64 (kd : Int)) ∧ w.cell? ⟨g, i * 5 + 1, none⟩ = some (.string ⟨tx.toArray⟩) ∧ w.cell? ⟨g, i * 5 + 2, none⟩ = some (.float .f64 y) ∧
  w.cell? ⟨g, i * 5 + 3, none⟩ = some (.int .i64 (at1 : Int)) ∧ w.cell? ⟨g, i * 5 + 4, none⟩ = some (.bool l1) ∧
  w.cell? ⟨g2, i * 5, none⟩ = some (.int .i64 (kd : Int)) ∧ w.cell? ⟨g2, i * 5 + 1, none⟩ = some (.string ⟨tx.toArray⟩) ∧ w.cell? ⟨g2, i * 5 + 2, none⟩ = some (.float .f64 y) ∧
  w.cell? ⟨g2, i * 5 + 3, none⟩ = some (.int .i64 (at2 : Int)) ∧ w.cell? ⟨g2, i * 5 + 4, none⟩ = some (.bool l2)
set_option maxRecDepth 100000 in
set_option maxHeartbeats 16000000 in
theorem same_rows (a b : Option Addr) (n c1 c2 : Nat) (w : World) (hn : n ≤ 1000000) (h : Rows2 w a b n) :
    Calls Tryz.prog 16 #[.slice a n c1, .slice b n c2, .bool false] w fun e w' => e = .returned (.bool true) ∧ Pur w w' := by
  go_enter Tryz.func16, Tryz.ntmps16
  go_wp2
  go_loopw [7] (fun k wr => ∃ j : Nat, j ≤ n ∧ k = .int .i64 j ∧ Pur w wr) (fun k _ => n + 1 - (intOf k).toNat)
  case atStart => exact ⟨0, by omega, rfl, Pur.refl w⟩
  case round =>
    obtain ⟨j, hj, rfl, hp⟩ := hrel
    by_cases hlt : j < n
    · have hlt' : (j : Int) < (n : Int) := by omega
      have j0 : (0 : Int) ≤ (j : Int) := by omega
      have wj : IntKind.i64.wrap ((j : Int) + 1) = (j : Int) + 1 := IntWalk.i64_in _ (by omega)
      obtain ⟨g, g2, kd, y, at1, at2, tx, l1, l2, rfl, rfl, k0, k1, k2, k3, k4, m0, m1, m2, m3, m4⟩ := h j hlt
      have hd : Pur w wr.drew := hp.trans ((Pur.refl wr).drew)
      have k0 := Us.cellp k0 hd
      have k1 := Us.cellp k1 hd
      have k2 := Us.cellp k2 hd
      have k3 := Us.cellp k3 hd
      have k4 := Us.cellp k4 hd
      have m0 := Us.cellp m0 hd
      have m1 := Us.cellp m1 hd
      have m2 := Us.cellp m2 hd
      have m3 := Us.cellp m3 hd
      have m4 := Us.cellp m4 hd
      clear h
      go_upto_region 6 with (fail)
      go_cut [8, 9] from 15 to 65 (fun p q wx => ∃ b8 b9 : Nat, p = .pointer (some ⟨b8, 0, none⟩) ∧ q = .pointer (some ⟨b9, 0, none⟩) ∧ Pur wr wx ∧
        wx.heap[b8]? = some (.cells #[.int .i64 (kd : Int), .string ⟨tx.toArray⟩, .float .f64 y, .int .i64 (at1 : Int), .bool l1] 31 (0, 0)) ∧
        wx.heap[b9]? = some (.cells #[.int .i64 (kd : Int), .string ⟨tx.toArray⟩, .float .f64 y, .int .i64 (at2 : Int), .bool l2] 31 (0, 0)))
      case first =>
        refine wp_region_until (T := fun w' => w'.cell? ⟨g, j * 5, none⟩ = some (.int .i64 (kd : Int)) ∧ w'.cell? ⟨g, j * 5 + 1, none⟩ = some (.string ⟨tx.toArray⟩) ∧ w'.cell? ⟨g, j * 5 + 2, none⟩ = some (.float .f64 y) ∧ w'.cell? ⟨g, j * 5 + 3, none⟩ = some (.int .i64 (at1 : Int)) ∧ w'.cell? ⟨g, j * 5 + 4, none⟩ = some (.bool l1) ∧ w'.cell? ⟨g2, j * 5, none⟩ = some (.int .i64 (kd : Int)) ∧ w'.cell? ⟨g2, j * 5 + 1, none⟩ = some (.string ⟨tx.toArray⟩) ∧ w'.cell? ⟨g2, j * 5 + 2, none⟩ = some (.float .f64 y) ∧ w'.cell? ⟨g2, j * 5 + 3, none⟩ = some (.int .i64 (at2 : Int)) ∧ w'.cell? ⟨g2, j * 5 + 4, none⟩ = some (.bool l2)) 11 (by kernel_rfl) ⟨k0, k1, k2, k3, k4, m0, m1, m2, m3, m4⟩ (fun hT => ?_)
        have HT : ∀ w', Pur wr.drew w' → w'.cell? ⟨g, j * 5, none⟩ = some (.int .i64 (kd : Int)) ∧ w'.cell? ⟨g, j * 5 + 1, none⟩ = some (.string ⟨tx.toArray⟩) ∧ w'.cell? ⟨g, j * 5 + 2, none⟩ = some (.float .f64 y) ∧ w'.cell? ⟨g, j * 5 + 3, none⟩ = some (.int .i64 (at1 : Int)) ∧ w'.cell? ⟨g, j * 5 + 4, none⟩ = some (.bool l1) ∧ w'.cell? ⟨g2, j * 5, none⟩ = some (.int .i64 (kd : Int)) ∧ w'.cell? ⟨g2, j * 5 + 1, none⟩ = some (.string ⟨tx.toArray⟩) ∧ w'.cell? ⟨g2, j * 5 + 2, none⟩ = some (.float .f64 y) ∧ w'.cell? ⟨g2, j * 5 + 3, none⟩ = some (.int .i64 (at2 : Int)) ∧ w'.cell? ⟨g2, j * 5 + 4, none⟩ = some (.bool l2) :=
          fun w' p => ⟨Us.cellp k0 p, Us.cellp k1 p, Us.cellp k2 p, Us.cellp k3 p, Us.cellp k4 p, Us.cellp m0 p, Us.cellp m1 p, Us.cellp m2 p, Us.cellp m3 p, Us.cellp m4 p⟩
        have HT := Lib.hid HT
        clear k0 k1 k2 k3 k4 m0 m1 m2 m3 m4
        refine wpAnyU_take (i := 0) (v := ?vu1) rfl (by kernel_rfl) (by kernel_rfl) (by kernel_rfl) (by kernel_rfl) (by kernel_rfl) (fun _ _ _ h => h) (Or.inl ⟨by rfl, ?hu1⟩) (by assumption) ?ru1
        case hu1 => (intro w9 hSw; (try dsimp only at hSw); go_simp; (try with_reducible rfl))
        simp only [Act.put, List.setIfInBounds_toArray, List.set_cons_zero, List.set_cons_succ]
        refine wpAnyU_take (i := 1) (v := ?vu2) rfl (by kernel_rfl) (by kernel_rfl) (by kernel_rfl) (by kernel_rfl) (by kernel_rfl) (fun _ _ _ h => h) (Or.inl ⟨by rfl, ?hu2⟩) (by assumption) ?ru2
        case hu2 => (intro w9 hSw; (try dsimp only at hSw); go_simp; (try with_reducible rfl))
        simp only [Act.put, List.setIfInBounds_toArray, List.set_cons_zero, List.set_cons_succ]
        refine wpAnyU_take (i := 2) (v := ?vu3) rfl (by kernel_rfl) (by kernel_rfl) (by kernel_rfl) (by kernel_rfl) (by kernel_rfl) (fun _ _ _ h => h) (Or.inl ⟨by rfl, ?hu3⟩) (by assumption) ?ru3
        case hu3 => (intro w9 hSw; (try dsimp only at hSw); go_simp; (try with_reducible rfl))
        simp only [Act.put, List.setIfInBounds_toArray, List.set_cons_zero, List.set_cons_succ]
        refine wpAnyU_take (i := 3) (v := ?vu4) rfl (by kernel_rfl) (by kernel_rfl) (by kernel_rfl) (by kernel_rfl) (by kernel_rfl) (fun _ _ _ h => h) (Or.inl ⟨by rfl, ?hu4⟩) (by assumption) ?ru4
        case hu4 => (intro w9 hSw; (try dsimp only at hSw); go_simp; (try with_reducible rfl))
        simp only [Act.put, List.setIfInBounds_toArray, List.set_cons_zero, List.set_cons_succ]
        refine wpAnyU_take (i := 4) (v := ?vu5) rfl (by kernel_rfl) (by kernel_rfl) (by kernel_rfl) (by kernel_rfl) (by kernel_rfl) (fun _ _ _ h => h) (Or.inl ⟨by rfl, ?hu5⟩) (by assumption) ?ru5
        case hu5 => (intro w9 hSw; (try dsimp only at hSw); go_simp; (try with_reducible rfl))
        simp only [Act.put, List.setIfInBounds_toArray, List.set_cons_zero, List.set_cons_succ]
        refine wpAnyU_take (i := 5) (v := ?vu6) rfl (by kernel_rfl) (by kernel_rfl) (by kernel_rfl) (by kernel_rfl) (by kernel_rfl) (fun _ _ _ h => h) (Or.inl ⟨by rfl, ?hu6⟩) (by assumption) ?ru6
        case hu6 => (intro w9 hSw; (try dsimp only at hSw); go_simp; (try with_reducible rfl))
        simp only [Act.put, List.setIfInBounds_toArray, List.set_cons_zero, List.set_cons_succ]
        refine wpAnyU_take (i := 6) (v := ?vu7) rfl (by kernel_rfl) (by kernel_rfl) (by kernel_rfl) (by kernel_rfl) (by kernel_rfl) (fun _ _ _ h => h) (Or.inl ⟨by rfl, ?hu7⟩) (by assumption) ?ru7
        case hu7 => (intro w9 hSw; (try dsimp only at hSw); go_simp; (try with_reducible rfl))
        simp only [Act.put, List.setIfInBounds_toArray, List.set_cons_zero, List.set_cons_succ]
        refine wpAnyU_take (i := 7) (v := ?vu8) rfl (by kernel_rfl) (by kernel_rfl) (by kernel_rfl) (by kernel_rfl) (by kernel_rfl) (fun _ _ _ h => h) (Or.inl ⟨by rfl, ?hu8⟩) (by assumption) ?ru8
        case hu8 => (intro w9 hSw; (try dsimp only at hSw); go_simp; (try with_reducible rfl))
        simp only [Act.put, List.setIfInBounds_toArray, List.set_cons_zero, List.set_cons_succ]
        refine wpAnyU_two (i := 8) (j := 9) (by kernel_rfl) rfl rfl (fun K hK => ?_) (fun K hK => ?_)
        · go_simp
          refine hK.out _ _ ?_ (fun hT => ?_)
          clear hK K
          try simp only [Act.put, List.setIfInBounds_toArray, List.set_cons_zero, List.set_cons_succ]
          · exact HT.out _ ((Pur.refl _).alloc _)
          refine wpAnyU_next (i := 9) (by kernel_rfl) rfl (fun K hK => ?_)
          go_simp
          refine hK.out _ _ ?_ (fun hT => ?_)
          clear hK K
          try simp only [Act.put, List.setIfInBounds_toArray, List.set_cons_zero, List.set_cons_succ]
          · exact HT.out _ (((Pur.refl _).alloc _).alloc _)
          refine wpAnyU_next (i := 10) (by kernel_rfl) rfl (fun K hK => ?_)
          go_simp
          refine hK.out _ _ ?_ (fun hT => ?_)
          clear hK K
          try simp only [Act.put, List.setIfInBounds_toArray, List.set_cons_zero, List.set_cons_succ]
          · exact HT.out _ (((Pur.refl _).alloc _).alloc _)
          refine wpAnyU_tail 11 (by kernel_rfl) ?_
          simp only [List.drop_succ_cons, List.drop_zero]
          go_wp2
          go_meet
          exact ⟨_, _, rfl, rfl, (((Pur.refl wr).alloc _).alloc _).drew, bk_pur (bk_new _ _) (((Pur.refl _).alloc _).drew), bk_pur (bk_new2 _ _ _) ((Pur.refl _).drew)⟩
        · go_simp
          refine hK.out _ _ ?_ (fun hT => ?_)
          clear hK K
          try simp only [Act.put, List.setIfInBounds_toArray, List.set_cons_zero, List.set_cons_succ]
          · exact HT.out _ ((Pur.refl _).alloc _)
          refine wpAnyU_next (i := 8) (by kernel_rfl) rfl (fun K hK => ?_)
          go_simp
          refine hK.out _ _ ?_ (fun hT => ?_)
          clear hK K
          try simp only [Act.put, List.setIfInBounds_toArray, List.set_cons_zero, List.set_cons_succ]
          · exact HT.out _ (((Pur.refl _).alloc _).alloc _)
          refine wpAnyU_next (i := 10) (by kernel_rfl) rfl (fun K hK => ?_)
          go_simp
          refine hK.out _ _ ?_ (fun hT => ?_)
          clear hK K
          try simp only [Act.put, List.setIfInBounds_toArray, List.set_cons_zero, List.set_cons_succ]
          · exact HT.out _ (((Pur.refl _).alloc _).alloc _)
          refine wpAnyU_tail 11 (by kernel_rfl) ?_
          simp only [List.drop_succ_cons, List.drop_zero]
          go_wp2
          go_meet
          exact ⟨_, _, rfl, rfl, (((Pur.refl wr).alloc _).alloc _).drew, bk_pur (bk_new2 _ _ _) ((Pur.refl _).drew), bk_pur (bk_new _ _) (((Pur.refl _).alloc _).drew)⟩
      case rest =>
        obtain ⟨b8, b9, rfl, rfl, hq, B8, B9⟩ := hcut
        have x0 := bk_cell B8 0 _ rfl
        have y0 := bk_cell B9 0 _ rfl
        have x1 := bk_cell B8 1 _ rfl
        have y1 := bk_cell B9 1 _ rfl
        have x2 := bk_cell B8 2 _ rfl
        have y2 := bk_cell B9 2 _ rfl
        have x3 := bk_cell B8 3 _ rfl
        have y3 := bk_cell B9 3 _ rfl
        have x4 := bk_cell B8 4 _ rfl
        have y4 := bk_cell B9 4 _ rfl
        have SF := same04 y wc
        clear k0 k1 k2 k3 k4 m0 m1 m2 m3 m4 B8 B9
        go_wp2_with fail
        refine SF.mono ?_
        rintro e w1 ⟨rfl, rfl⟩
        go_wp2
        go_roundw
        case rel => exact ⟨j + 1, by omega, by go_num, hp.trans hq⟩
        case measure => simp [intOf]; omega
    · obtain rfl : j = n := by omega
      clear h
      go_wp2
      go_ret
      exact ⟨rfl, hp⟩
theorem spr_step {s O : List UInt8} {F j : Nat} {xs : List Lx} {x : Lx} (h : O ++ spr s F (xs.drop j) = spr s 0 xs) (hx : xs[j]? = some x) : O ++ (Go.Proofs.YtepmneongpbglaaGreatDoor.sub s F x.at_ ++ pad) ++ spr s x.at_ (xs.drop (j + 1)) = spr s 0 xs := by
  obtain ⟨hj, rfl⟩ := List.getElem?_eq_some_iff.1 hx
  rw [← h, List.drop_eq_getElem_cons hj, spr]
  simp only [List.append_assoc]
theorem nums_eq {Hi Lo T : Nat → Nat} {zs zt : List (Lx × Nat)} (h1 : NumOk (fun t x => x = Nm.nv Hi Lo T t) zs) (h2 : NumOk (fun t x => x = Nm.nv Hi Lo T t) zt) (hk : (zt.map Prod.fst).map key = (zs.map Prod.fst).map key) (i : Nat) (z : Lx × Nat) (hz : zs[i]? = some z) :
    ∃ u, zt[i]? = some u ∧ u.1.kind = z.1.kind ∧ u.1.text = z.1.text ∧ u.2 = z.2 := by
  have h3 : ((zs.map Prod.fst).map key)[i]? = some (key z.1) := by rw [List.getElem?_map, List.getElem?_map, hz]; rfl
  rw [← hk, List.getElem?_map, List.getElem?_map] at h3
  obtain ⟨u1, a1, a2⟩ := Option.map_eq_some_iff.1 h3
  obtain ⟨u, b1, rfl⟩ := Option.map_eq_some_iff.1 a1
  simp only [key, Prod.mk.injEq] at a2
  obtain ⟨k1, k2, k3⟩ := a2
  refine ⟨u, b1, k1, k2, ?_⟩
  have n1 := h1 z (List.mem_of_getElem? hz)
  have n2 := h2 u (List.mem_of_getElem? b1)
  by_cases h : z.1.kind = 3
  · rw [n1.1 h, n2.1 (k1.trans h), k3]
  · rw [n1.2 h, n2.2 (fun e => h (k1.symm.trans e))]
set_option maxRecDepth 100000 in
set_option maxHeartbeats 32000000 in
theorem spread_law {Hi Lo T : Nat → Nat} (s : List UInt8) (w : World) (hW : LA Hi Lo T w) (hs : s.length ≤ 1000000000) : Calls Tryz.prog 7 #[.string ⟨s.toArray⟩] w fun e w' => e = .returned (.bool true) ∧ Pur w w' := by
  have AW := awake_any w hW.lw hW.f
  by_cases hbig : 1000 < s.length
  · have t2 : decide ((1000 : Int) < (s.length : Int)) = true := by rw [decide_eq_true_eq]; omega
    clear hbig hW
    go_enter Tryz.func7, Tryz.ntmps7
    go_wp2_with fail
    refine AW.mono ?_
    rintro e w1 ⟨rfl, p1⟩
    go_wp2
    go_ret
    exact ⟨rfl, p1⟩
  · have t2 : decide ((1000 : Int) < (s.length : Int)) = false := by rw [decide_eq_false_iff_not]; omega
    have LA1 := fun (w' : World) (h : Pur w w') => lex_all s (hW.pur h) (by omega)
    have LB1 := fun (l : List UInt8) (hl : l.length ≤ 8192) (w' : World) (h : Pur w w') => lex_all l (hW.pur h) hl
    have hne := Nm.lex_ne (l := s) (by omega)
    have hke : ∀ k, lex Nm.CN s = some (.error k) → k ≤ s.length := fun k h => lexGo_err _ _ _ _ _ h (Nat.zero_le _)
    have hcv0 : ∀ xs, lex Nm.CN s = some (.ok xs) → Cov s 0 xs := fun xs h => lexGo_cov _ _ _ _ _ h (Nat.zero_le _)
    have hsp0 : ∀ xs, lex Nm.CN s = some (.ok xs) → ∃ ys, lex Nm.CN (spr s 0 xs) = some (.ok ys) ∧ ys.map key = xs.map key ∧ ∀ y ∈ ys, y.line = true := fun xs h => lex_spread h
    have hsl : s.length ≤ 1000 := by omega
    clear hbig hW hs
    rcases hlx : lex Nm.CN s with _ | r
    · exact absurd hlx hne
    rw [hlx] at LA1 hcv0 hke hsp0
    clear hne hlx
    rcases r with k | xs
    · have hk := hke k rfl
      unfold LexPost at LA1
      simp only at LA1
      clear hcv0 hke hsp0 LB1
      have hk' : decide ((k : Int) ≤ (s.length : Int)) = true := by rw [decide_eq_true_eq]; omega
      go_enter Tryz.func7, Tryz.ntmps7
      go_wp2_with fail
      refine AW.mono ?_
      rintro e w1 ⟨rfl, p1⟩
      go_wp2_with fail
      refine (LA1 w1 p1).mono ?_
      rintro e w2 ⟨p2, rfl⟩
      go_wp2
      go_ret
      exact ⟨rfl, p1.trans p2⟩
    · have hcov := hcv0 xs rfl
      obtain ⟨ys, hy1, hy2, hy3⟩ := hsp0 xs rfl
      have hcl := cov_len hcov
      have hcg := cov_get hcov
      unfold LexPost at LA1
      simp only at LA1
      clear hcv0 hke hsp0
      go_enter Tryz.func7, Tryz.ntmps7
      go_wp2_with fail
      refine AW.mono ?_
      rintro e w1 ⟨rfl, p1⟩
      go_wp2_with fail
      refine (LA1 w1 p1).mono ?_
      rintro e w2 ⟨p2, v, zs, hz, hno, rfl, hown⟩
      obtain ⟨a, c, rfl, hrow⟩ := lexRow hown
      obtain ⟨n, hn⟩ : ∃ n, zs.length = n := ⟨_, rfl⟩
      rw [hn]
      have hxl : xs.length = n := by
        have := congrArg List.length hz
        rw [List.length_map] at this
        omega
      have hnl : n ≤ 1000 := by omega
      have hzx : ∀ (i : Nat) (z : Lx × Nat), zs[i]? = some z → xs[i]? = some z.1 := fun i z h => by rw [← hz, List.getElem?_map, h]; rfl
      have HR : ∀ i : Nat, i < n → ∃ z : Lx × Nat, zs[i]? = some z := fun i hi => ⟨_, List.getElem?_eq_getElem (by omega)⟩
      have PP := p1.trans p2
      have HZ := Lib.hid (And.intro hno (And.intro hz (And.intro hy1 (And.intro hy2 hy3))))
      clear AW LA1 hown hz hcov p1 p2 hno hy1 hy2 hy3
      have HB := Lib.hid LB1
      clear LB1
      go_wp2
      go_loopw [6, 7, 39] (fun o f i wr => ∃ (j F : Nat) (O : List UInt8), o = .string ⟨O.toArray⟩ ∧ f = .int .i64 (F : Int) ∧ i = .int .i64 (j : Int) ∧ j ≤ n ∧ Pur w2 wr ∧ F ≤ s.length ∧ O.length = F + 31 * j ∧ Hid (O ++ spr s F (xs.drop j) = spr s 0 xs) ∧ Hid (∀ z, zs[j]? = some z → F ≤ z.1.at_)) (fun _ _ i _ => n + 1 - (intOf i).toNat)
      case atStart => exact ⟨0, 0, [], rfl, rfl, rfl, Nat.zero_le _, Pur.refl _, Nat.zero_le _, rfl, Lib.hid rfl, Lib.hid (fun _ _ => Nat.zero_le _)⟩
      case round =>
        obtain ⟨j, F, O, rfl, rfl, rfl, hj, hp, hF, hO, HO, HF⟩ := hrel
        by_cases hlt : j < n
        · obtain ⟨z, hzj⟩ := HR j hlt
          have hF2 := HF.out z hzj
          obtain ⟨g, rfl, -, -, r0, r1, r2, r3, r4⟩ := hrow j z hzj
          obtain ⟨x, y⟩ := z
          obtain ⟨g1, g2, -, g4⟩ := hcg j x (hzx j _ hzj)
          have HS := Lib.hid (spr_step HO.out (hzx j _ hzj))
          have HN : Hid (∀ z, zs[j + 1]? = some z → x.at_ ≤ z.1.at_) := Lib.hid (fun z hz => by have := g4 _ (hzx (j + 1) _ hz); omega)
          obtain ⟨kd, tx, nu, at0, ln⟩ := x
          simp only at r0 r1 r2 r3 r4 g1 g2 HS HN hF2
          have hlt' : (j : Int) < (n : Int) := by omega
          have j0 : (0 : Int) ≤ (j : Int) := by omega
          have wj : IntKind.i64.wrap ((j : Int) + 1) = (j : Int) + 1 := IntWalk.i64_in _ (by omega)
          have r0 := Us.cellp r0 hp
          have r1 := Us.cellp r1 hp
          have r2 := Us.cellp r2 hp
          have r3 := Us.cellp r3 hp
          have r4 := Us.cellp r4 hp
          obtain ⟨W1, hW1⟩ : ∃ W1, W1 = wr.alloc (.cells #[.int .i64 (kd : Int), .string ⟨tx.toArray⟩, .float .f64 y, .int .i64 (at0 : Int), .bool ln] 31 (0, 0)) := ⟨_, rfl⟩
          have P1 : Pur wr W1 := by rw [hW1]; exact (Pur.refl wr).alloc _
          have B0 : W1.heap[wr.heap.size]? = some (.cells #[.int .i64 (kd : Int), .string ⟨tx.toArray⟩, .float .f64 y, .int .i64 (at0 : Int), .bool ln] 31 (0, 0)) := by rw [hW1]; exact bk_new _ _
          have c3 := bk_cell B0 3 _ rfl
          have d1 : ¬ at0 < F := by omega
          have d1' : decide ((at0 : Int) < (F : Int)) = false := by rw [decide_eq_false_iff_not]; omega
          have d2 : ¬ s.length < at0 := by omega
          have d2' : decide ((s.length : Int) < (at0 : Int)) = false := by rw [decide_eq_false_iff_not]; omega
          have e2 : (F : Int) ≤ (at0 : Int) := by omega
          have e3 : (at0 : Int) ≤ (s.length : Int) := by omega
          have e4 : (0 : Int) ≤ (F : Int) := by omega
          clear HR hcg hrow hzx hzj HO HF g4 hF2
          go_upto_region 13 with (fail)
          rw [← hW1]
          clear hW1
          go_wp2
          go_roundw
          case rel => exact ⟨j + 1, at0, O ++ (Go.Proofs.YtepmneongpbglaaGreatDoor.sub s F at0 ++ pad), rfl, rfl, by go_num, by omega, hp.trans P1, by omega, by rw [List.length_append, List.length_append, sub_len' s (by omega) (by omega), show pad.length = 31 from rfl]; omega, HS, HN⟩
          case measure => simp [intOf]; omega
        · have hlt' : ¬ (j : Int) < (n : Int) := by omega
          obtain rfl : j = n := by omega
          have hS := HO.out
          rw [List.drop_eq_nil_of_le (by omega), spr] at hS
          have hSl := congrArg List.length hS
          rw [List.length_append, List.length_append, sub_len' s hF (Nat.le_refl _), show tail.length = 7 from rfl] at hSl
          obtain ⟨L1, hL1⟩ : ∃ L1, L1 = O.length + s.length := ⟨_, rfl⟩
          obtain ⟨L2, hL2⟩ : ∃ L2, L2 = L1 - F := ⟨_, rfl⟩
          obtain ⟨L3, hL3⟩ : ∃ L3, L3 = L2 + 7 := ⟨_, rfl⟩
          have wA : IntKind.i64.wrap ((O.length : Int) + (s.length : Int)) = (L1 : Int) := by rw [show (O.length : Int) + (s.length : Int) = (L1 : Int) by omega]; exact IntWalk.i64_in _ (by omega)
          have wB : IntKind.i64.wrap ((L1 : Int) - (F : Int)) = (L2 : Int) := by rw [show (L1 : Int) - (F : Int) = (L2 : Int) by omega]; exact IntWalk.i64_in _ (by omega)
          have wC : IntKind.i64.wrap ((L2 : Int) + 7) = (L3 : Int) := by rw [show (L2 : Int) + 7 = (L3 : Int) by omega]; exact IntWalk.i64_in _ (by omega)
          have hS3 : (spr s 0 xs).length = L3 := by omega
          have eF : (F : Int) ≤ (s.length : Int) := by omega
          have eF0 : (0 : Int) ≤ (F : Int) := by omega
          have ez1 : ¬ 9223372036854775807 < O.length + (s.length - F) := by omega
          have ez2 : ¬ 9223372036854775807 < O.length + (s.length - F) + 7 := by omega
          have hSE := Lib.hid hS
          clear HO HF hF hO hL1 hL2 hL3 hSl hS HR hcg hcl
          by_cases hbig : 8192 < L3
          · have d1 : decide ((8192 : Int) < (L3 : Int)) = true := by rw [decide_eq_true_eq]; omega
            clear hrow hzx
            go_wp2
            go_ret
            exact ⟨rfl, PP.trans hp⟩
          · have d1 : decide ((8192 : Int) < (L3 : Int)) = false := by rw [decide_eq_false_iff_not]; omega
            go_upto_region 20 with (fail)
            go_wp2_with fail
            obtain ⟨hno, hz, hy1, hy2, hy3⟩ := HZ.out
            obtain ⟨B, hB⟩ : ∃ B, B = O ++ (Go.Proofs.YtepmneongpbglaaGreatDoor.sub s F s.length ++ [10, 47, 47, 32, 101, 110, 100]) := ⟨_, rfl⟩
            have hB' : B = spr s 0 xs := hB.trans hSE.out
            have LB := HB.out B (by rw [hB', hS3]; omega) wr (PP.trans hp)
            rw [show lex Nm.CN B = some (.ok ys) by rw [hB']; exact hy1] at LB
            unfold LexPost at LB
            simp only at LB
            clear hB' HB
            subst hB
            refine LB.mono ?_
            rintro e w3 ⟨p3, v2, zt, hzt, hno2, rfl, hown2⟩
            obtain ⟨a2, c2, rfl, hrow2⟩ := lexRow hown2
            have hyl : zt.length = j := by
              have e1 := congrArg List.length hzt
              have e2 := congrArg List.length hy2
              rw [List.length_map] at e1
              rw [List.length_map, List.length_map] at e2
              omega
            have NE := nums_eq hno hno2 (by rw [hz, hzt]; exact hy2)
            have hln : ∀ (i : Nat) (u : Lx × Nat), zt[i]? = some u → u.1.line = true := fun i u hu => hy3 _ (by rw [← hzt]; exact List.mem_map_of_mem (List.mem_of_getElem? hu))
            have HR2 : Rows2 w3 a a2 j := fun i hi => by
              obtain ⟨z, hzi⟩ : ∃ z, zs[i]? = some z := ⟨_, List.getElem?_eq_getElem (by omega)⟩
              obtain ⟨u, hui, e1, e2, e3⟩ := NE i z hzi
              obtain ⟨g, q0, -, -, r0, r1, r2, r3, r4⟩ := hrow i z hzi
              obtain ⟨g2, q1, -, -, t0, t1, t2', t3, t4⟩ := hrow2 i u hui
              rw [e1] at t0
              rw [e2] at t1
              rw [e3] at t2'
              exact ⟨g, g2, z.1.kind, z.2, z.1.at_, u.1.at_, z.1.text, z.1.line, u.1.line, q0, q1, Us.cellp r0 (hp.trans p3), Us.cellp r1 (hp.trans p3), Us.cellp r2 (hp.trans p3), Us.cellp r3 (hp.trans p3), Us.cellp r4 (hp.trans p3), t0, t1, t2', t3, t4⟩
            have SM := same_rows a a2 j c c2 w3 (by omega) HR2
            rw [hyl]
            have HU : ∀ i : Nat, i < j → ∃ u : Lx × Nat, zt[i]? = some u := fun i hi => ⟨_, List.getElem?_eq_getElem (by omega)⟩
            have PQ := (PP.trans hp).trans p3
            clear LB hrow hzx HZ hno hz hy1 hy2 hy3 hSE hS3 hown2 hyl NE HR2 hzt hno2 PP hp p3 hn hxl wA wB wC d1 ez1 ez2 eF eF0 hlt hlt'
            go_wp2_with fail
            refine SM.mono ?_
            rintro e w4 ⟨rfl, p4⟩
            go_wp2
            go_loopw [95] (fun i wr => ∃ m : Nat, i = .int .i64 (m : Int) ∧ m ≤ j ∧ Pur w4 wr) (fun i _ => j + 1 - (intOf i).toNat)
            case atStart => exact ⟨0, rfl, Nat.zero_le _, Pur.refl _⟩
            case round =>
              obtain ⟨m, rfl, hm, hp⟩ := hrel
              by_cases hlt : m < j
              · obtain ⟨u, hum⟩ := HU m hlt
                obtain ⟨g, rfl, -, -, r0, r1, r2, r3, r4⟩ := hrow2 m u hum
                have hl := hln m u hum
                obtain ⟨⟨kd, tx, nu, at0, ln⟩, y⟩ := u
                simp only at r0 r1 r2 r3 r4 hl
                subst hl
                have hlt' : (m : Int) < (j : Int) := by omega
                have j0 : (0 : Int) ≤ (m : Int) := by omega
                have wj : IntKind.i64.wrap ((m : Int) + 1) = (m : Int) + 1 := IntWalk.i64_in _ (by omega)
                have r0 := Us.cellp r0 (p4.trans hp)
                have r1 := Us.cellp r1 (p4.trans hp)
                have r2 := Us.cellp r2 (p4.trans hp)
                have r3 := Us.cellp r3 (p4.trans hp)
                have r4 := Us.cellp r4 (p4.trans hp)
                obtain ⟨W1, hW1⟩ : ∃ W1, W1 = wr.alloc (.cells #[.int .i64 (kd : Int), .string ⟨tx.toArray⟩, .float .f64 y, .int .i64 (at0 : Int), .bool true] 31 (0, 0)) := ⟨_, rfl⟩
                have P1 : Pur wr W1 := by rw [hW1]; exact (Pur.refl wr).alloc _
                have B0 : W1.heap[wr.heap.size]? = some (.cells #[.int .i64 (kd : Int), .string ⟨tx.toArray⟩, .float .f64 y, .int .i64 (at0 : Int), .bool true] 31 (0, 0)) := by rw [hW1]; exact bk_new _ _
                have c4 := bk_cell B0 4 _ rfl
                clear HU hrow2 hln hum
                go_upto_region 26 with (fail)
                rw [← hW1]
                clear hW1
                go_wp2
                go_roundw
                case rel => exact ⟨m + 1, by go_num, by omega, hp.trans P1⟩
                case measure => simp [intOf]; omega
              · have hlt' : ¬ (m : Int) < (j : Int) := by omega
                clear HU hrow2 hln
                go_wp2
                go_ret
                exact ⟨rfl, (PQ.trans p4).trans hp⟩
end Lx
end Go.Proofs.YtepmneongpbglaaGreatDoor
