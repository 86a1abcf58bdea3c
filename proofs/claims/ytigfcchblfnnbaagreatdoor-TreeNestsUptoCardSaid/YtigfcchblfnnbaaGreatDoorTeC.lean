/- Layer 3: attributes are put in order: cmp.Compare at texts, cmp.Or, the closure that compares, slices.SortFunc. Layer 3: slices.SortFunc of attributes. Layer 3: a tag's scope and its attributes. -/
import Derived.Test.YtigfcchblfnnbaaGreatDoorTeA
import Derived.Test.YtigfcchblfnnbaaGreatDoorTeP
import Derived.Test.YtigfcchblfnnbaaGreatDoorTeB
import Derived.Test.YtigfcchblfnnbaaGreatDoorTbE
import Derived.Test.YtigfcchblfnnbaaGreatDoorShelf4
import Derived.Sort.Walk0
import Derived.Shelf.SlSortCmp.QuietGrown
import Derived.Test.YtigfcchblfnnbaaGreatDoorTeR
import Derived.Test.YtigfcchblfnnbaaGreatDoorTkD
namespace Go.Proofs.YtigfcchblfnnbaaGreatDoor
open Go Go.RowKit Go.Sort
set_option linter.all false
namespace Te
open Tk (AttrV TokV)
def cmpS (x y : Bs) : Int := if x < y then -1 else if y < x then 1 else 0
theorem nan_any (x : Bs) (w : World) : Calls Tryz.prog 101 #[.string ⟨x.toArray⟩] w fun e w' => e = .returned (.bool false) ∧ w = w' := by
  go_enter Tryz.func101, Tryz.ntmps101
  go_wp2
  go_ret
  exact ⟨by simp, rfl⟩
set_option maxRecDepth 100000 in
theorem compare_any (x y : Bs) (w : World) : Calls Tryz.prog 72 #[.string ⟨x.toArray⟩, .string ⟨y.toArray⟩] w fun e w' => e = .returned (.int .i64 (cmpS x y)) ∧ w = w' := by
  have N1 := fun w => nan_any x w
  have N2 := fun w => nan_any y w
  by_cases h1 : x < y
  · have d1 : Op.bytesLess x y = true := by rw [bytesLess_eq]; simp [h1]
    have e : cmpS x y = -1 := by unfold cmpS; rw [if_pos h1]
    rw [e]
    clear h1 e
    go_enter Tryz.func72, Tryz.ntmps72
    go_wp2_with (go_at_call 101; first | (refine (N1 _).mono ?_; rintro e w1 ⟨rfl, rfl⟩) | (refine (N2 _).mono ?_; rintro e w1 ⟨rfl, rfl⟩))
    go_ret
    exact ⟨rfl, rfl⟩
  · have d1 : Op.bytesLess x y = false := by rw [bytesLess_eq]; simp [h1]
    by_cases h2 : y < x
    · have d2 : Op.bytesLess y x = true := by rw [bytesLess_eq]; simp [h2]
      have d3 : (x == y) = false := by rw [beq_eq_false_iff_ne]; rintro rfl; exact h1 h2
      have e : cmpS x y = 1 := by unfold cmpS; rw [if_neg h1, if_pos h2]
      rw [e]
      clear h1 h2 e
      go_enter Tryz.func72, Tryz.ntmps72
      go_wp2_with (go_at_call 101; first | (refine (N1 _).mono ?_; rintro e w1 ⟨rfl, rfl⟩) | (refine (N2 _).mono ?_; rintro e w1 ⟨rfl, rfl⟩))
      go_ret
      exact ⟨rfl, rfl⟩
    · have d2 : Op.bytesLess y x = false := by rw [bytesLess_eq]; simp [h2]
      have d3 : (x == y) = true := by rw [beq_iff_eq]; exact List.le_antisymm (List.not_lt.1 h2) (List.not_lt.1 h1)
      have e : cmpS x y = 0 := by unfold cmpS; rw [if_neg h1, if_neg h2]
      rw [e]
      clear h1 h2 e
      go_enter Tryz.func72, Tryz.ntmps72
      go_wp2_with (go_at_call 101; first | (refine (N1 _).mono ?_; rintro e w1 ⟨rfl, rfl⟩) | (refine (N2 _).mono ?_; rintro e w1 ⟨rfl, rfl⟩))
      go_ret
      exact ⟨rfl, rfl⟩
def or2 (a b : Int) : Int := if a = 0 then b else a
set_option maxRecDepth 100000 in
theorem or_any (a b : Int) (g : Nat) (w : World) (c0 : w.cell? ⟨g, 0, none⟩ = some (.int .i64 a)) (c1 : w.cell? ⟨g, 1, none⟩ = some (.int .i64 b)) :
    Calls Tryz.prog 71 #[.slice (some ⟨g, 0, none⟩) 2 2] w fun e w' => e = .returned (.int .i64 (or2 a b)) ∧ w = w' := by
  by_cases h1 : a = 0
  · have d1 : (a != 0) = false := by simp [h1]
    have e : or2 a b = b := by unfold or2; rw [if_pos h1]
    rw [e]
    clear h1 e
    by_cases h2 : b = 0
    · have d2 : (b != 0) = false := by simp [h2]
      go_enter Tryz.func71, Tryz.ntmps71
      go_wp2
      go_loopg [8] 2 (fun g k wx => ∃ i : Nat, i + g = 2 ∧ k = .int .i64 i ∧ w = wx)
      case atStart => exact ⟨0, rfl, rfl, rfl⟩
      case round =>
        obtain ⟨i, hi, rfl, rfl⟩ := hrel
        match gk, hi with
        | 0, hi =>
          obtain rfl : i = 2 := by omega
          go_wp2
          go_ret
          exact ⟨rfl, rfl⟩
        | 1, hi =>
          obtain rfl : i = 1 := by omega
          clear h2
          go_wp2
          go_roundg 0
          case measure => omega
          case rel => exact ⟨2, rfl, rfl, rfl⟩
        | 2, hi =>
          obtain rfl : i = 0 := by omega
          clear h2
          go_wp2
          go_roundg 1
          case measure => omega
          case rel => exact ⟨1, rfl, rfl, rfl⟩
        | g + 3, hi => omega
    · have d2 : (b != 0) = true := by simp [h2]
      clear h2
      go_enter Tryz.func71, Tryz.ntmps71
      go_wp2
      go_loopg [8] 2 (fun g k wx => ∃ i : Nat, i + g = 2 ∧ 1 ≤ g ∧ k = .int .i64 i ∧ w = wx)
      case atStart => exact ⟨0, rfl, by omega, rfl, rfl⟩
      case round =>
        obtain ⟨i, hi, hg, rfl, rfl⟩ := hrel
        match gk, hi, hg with
        | 1, hi, _ =>
          obtain rfl : i = 1 := by omega
          go_wp2
          go_ret
          exact ⟨rfl, rfl⟩
        | 2, hi, _ =>
          obtain rfl : i = 0 := by omega
          go_wp2
          go_roundg 1
          case measure => omega
          case rel => exact ⟨1, rfl, by omega, rfl, rfl⟩
        | g + 3, hi, _ => omega
  · have d1 : (a != 0) = true := by simp [h1]
    have e : or2 a b = a := by unfold or2; rw [if_neg h1]
    rw [e]
    clear h1 e
    go_enter Tryz.func71, Tryz.ntmps71
    go_wp2
    go_loopg [8] 2 (fun g k wx => g = 2 ∧ k = .int .i64 0 ∧ w = wx)
    case atStart => exact ⟨rfl, rfl, rfl⟩
    case round =>
      obtain ⟨rfl, rfl, rfl⟩ := hrel
      go_wp2
      go_ret
      exact ⟨rfl, rfl⟩
/-- how two attributes stand -/
def cfE (a b : ExV) : Int := or2 (cmpS a.sp b.sp) (cmpS a.lo b.lo)
set_option maxRecDepth 100000 in
set_option maxHeartbeats 4000000 in
theorem closure3 (x y : ExV) (W : World) : Calls Tryz.prog 93 #[.agg x.cells.toArray, .agg y.cells.toArray] W fun e w' => e = .returned (.int .i64 (cfE x y)) ∧ ∃ q os', w' = grow (W.drewN q) os' := by
  obtain ⟨xs, xn, xv, xl, xc⟩ := x
  obtain ⟨ys, yn, yv, yl, yc⟩ := y
  unfold cfE
  dsimp only
  have C1 := fun w => compare_any xs ys w
  have C2 := fun w => compare_any xn yn w
  generalize cmpS xs ys = a at *
  generalize cmpS xn yn = b at *
  have OR := fun g w => or_any a b g w
  have oz : ∀ (o : Obj), (W.alloc o).heap.size = W.heap.size + 1 := fun o => Array.size_push _
  obtain ⟨o1, ho1⟩ : ∃ o1, Obj.cells #[.string ⟨xs.toArray⟩, .string ⟨xn.toArray⟩, .string ⟨xv.toArray⟩, .int .i64 (xl : Int), .int .i64 (xc : Int)] 81 = o1 := ⟨_, rfl⟩
  show Calls Tryz.prog 93 #[.agg #[.string ⟨xs.toArray⟩, .string ⟨xn.toArray⟩, .string ⟨xv.toArray⟩, .int .i64 (xl : Int), .int .i64 (xc : Int)], .agg #[.string ⟨ys.toArray⟩, .string ⟨yn.toArray⟩, .string ⟨yv.toArray⟩, .int .i64 (yl : Int), .int .i64 (yc : Int)]] W _
  go_enter Tryz.func93, Tryz.ntmps93
  go_upto_region 1 with (fail)
  obtain ⟨o2, ho2⟩ : ∃ o2, Obj.cells #[.string ⟨ys.toArray⟩, .string ⟨yn.toArray⟩, .string ⟨yv.toArray⟩, .int .i64 (yl : Int), .int .i64 (yc : Int)] 81 = o2 := ⟨_, rfl⟩
  rw [ho2]
  have b1 : ((W.alloc o1).alloc o2).heap[W.heap.size]? = some o1 := bk_alloc (bk_new W o1) o2
  have b2 : ((W.alloc o1).alloc o2).heap[W.heap.size + 1]? = some o2 := by have := bk_new (W.alloc o1) o2; rwa [oz] at this
  have b1 := b1.trans (congrArg some ho1.symm)
  have b2 := b2.trans (congrArg some ho2.symm)
  have hgr : (W.alloc o1).alloc o2 = grow W #[o1, o2] := by rw [alloc_eq_grow, alloc_eq_grow, grow_grow]; rfl
  clear ho1 ho2
  have HG := Lib.hid hgr
  clear hgr
  generalize (W.alloc o1).alloc o2 = w0 at *
  have l1 := bk_lt b1
  have l2 := bk_lt b2
  have c0 : ∀ p : GrownBy, (grow (w0.drewN p.n) p.os).cell? ⟨W.heap.size, 0, none⟩ = some (.string ⟨xs.toArray⟩) := fun p => cell_grown l1 (bk_cell b1 0 _ rfl) p.n p.os
  have c1 : ∀ p : GrownBy, (grow (w0.drewN p.n) p.os).cell? ⟨W.heap.size, 1, none⟩ = some (.string ⟨xn.toArray⟩) := fun p => cell_grown l1 (bk_cell b1 1 _ rfl) p.n p.os
  have c2 : ∀ p : GrownBy, (grow (w0.drewN p.n) p.os).cell? ⟨W.heap.size + 1, 0, none⟩ = some (.string ⟨ys.toArray⟩) := fun p => cell_grown l2 (bk_cell b2 0 _ rfl) p.n p.os
  have c3 : ∀ p : GrownBy, (grow (w0.drewN p.n) p.os).cell? ⟨W.heap.size + 1, 1, none⟩ = some (.string ⟨yn.toArray⟩) := fun p => cell_grown l2 (bk_cell b2 1 _ rfl) p.n p.os
  have G1 : ∀ p : GrownBy, Calls Tryz.prog 72 #[.string ⟨xs.toArray⟩, .string ⟨ys.toArray⟩] (grow (w0.drewN p.n) p.os) fun e w'' => e = .returned (.int .i64 a) ∧ ∃ q : GrownBy, w'' = grow (w0.drewN q.n) q.os := fun p => (C1 _).mono fun _ _ ⟨h1, h2⟩ => ⟨h1, p, h2.symm⟩
  have G2 : ∀ p : GrownBy, Calls Tryz.prog 72 #[.string ⟨xn.toArray⟩, .string ⟨yn.toArray⟩] (grow (w0.drewN p.n) p.os) fun e w'' => e = .returned (.int .i64 b) ∧ ∃ q : GrownBy, w'' = grow (w0.drewN q.n) q.os := fun p => (C2 _).mono fun _ _ ⟨h1, h2⟩ => ⟨h1, p, h2.symm⟩
  clear C1 C2 b1 b2 l1 l2
  refine wp_region_quiet_tail (C := fun w' => ∃ p : GrownBy, w' = grow (w0.drewN p.n) p.os) 10 (by kernel_rfl) (by kernel_rfl) ⟨⟨1, #[]⟩, by rw [grow_empty]; rfl⟩ ?_
  simp only [List.take_succ_cons, List.take_zero, List.drop_succ_cons, List.drop_zero]
  repeat (quiet_step (first | with_reducible exact G1 _ | with_reducible exact G2 _))
  refine wpQuiet_nil ?_
  rintro wq ⟨⟨n, os⟩, rfl⟩
  generalize hX : grow (w0.drewN n) os = X
  have HX := Lib.hid hX
  clear hX c0 c1 c2 c3 G1 G2
  go_wp2_with (go_at_call 71; refine (OR _ _ (bk_cell (bk_new X _) 0 _ rfl) (bk_cell (bk_new X _) 1 _ rfl)).mono ?_; rintro e w1 ⟨rfl, rfl⟩)
  go_ret
  refine ⟨rfl, n, #[o1, o2] ++ os ++ #[Obj.cells #[.int .i64 a, .int .i64 b] 3], ?_⟩
  rw [alloc_eq_grow, ← HX.out, HG.out]
  show grow (grow (grow (W.drewN n) #[o1, o2]) os) _ = _
  rw [grow_grow, grow_grow, Array.append_assoc]
end Te
end Go.Proofs.YtigfcchblfnnbaaGreatDoor
namespace Go.Proofs.YtigfcchblfnnbaaGreatDoor
open Go Go.RowKit Go.Sort Go.Lib
set_option linter.all false
namespace Te
open Tk (AttrV TokV)
theorem cfE_lt (a b : ExV) : ltOf cfE a b = exLt a b := by
  unfold ltOf
  rw [Bool.eq_iff_iff, exLt_iff, decide_eq_true_eq]
  unfold cfE or2 cmpS
  by_cases h1 : a.sp < b.sp
  · simp [h1]
  · rw [if_neg h1]
    by_cases h2 : b.sp < a.sp
    · rw [if_pos h2]
      have : ¬ a.sp = b.sp := fun e => by rw [e] at h2; exact List.lt_irrefl _ h2
      simp [h1, this]
    · rw [if_neg h2]
      have e : a.sp = b.sp := List.le_antisymm (List.not_lt.1 h2) (List.not_lt.1 h1)
      simp only [h1, e, true_and, false_or, if_true]
      by_cases h3 : a.lo < b.lo
      · simp [h3]
      · rw [if_neg h3]
        by_cases h4 : b.lo < a.lo
        · simp [h3, h4]
        · simp [h3, h4]
theorem cfE_swo : SWO (ltOf cfE) where
  irrefl x := by rw [cfE_lt]; exact exLt_irrefl x
  trans x y z h1 h2 := by rw [cfE_lt] at *; exact exLt_trans x y z h1 h2
  ntrans x y z h1 h2 := by rw [cfE_lt] at *; exact exLt_ntrans x y z h1 h2
theorem ex_one : ∀ x : ExV, ∀ v ∈ x.cells, v.oneCell' = true := by
  intro x v hv
  simp only [ExV.cells, List.mem_cons, List.not_mem_nil, or_false] at hv
  rcases hv with rfl | rfl | rfl | rfl | rfl <;> rfl
theorem sorted_is {l : List ExV} {d' : Array ExV} (hp : PermIn 0 l.toArray.size l.toArray d') (hs : SortedIn (ltOf cfE) 0 l.toArray.size d') (hd : firstDup sameEx [] l = none) : d' = (sortEx l).toArray := by
  obtain ⟨hsz, _, hperm⟩ := hp
  have e1 : d'.extract 0 l.toArray.size = d' := by rw [← hsz]; exact Array.extract_size
  rw [e1, Array.extract_size] at hperm
  have : d'.toList = sortEx l := by
    refine sort_unique (by simpa using hperm) ?_ hd
    rw [List.pairwise_iff_getElem]
    intro i j hi hj hij
    have hi' : i < d'.size := by simpa using hi
    have hj' : j < d'.size := by simpa using hj
    have := hs i j (Nat.zero_le _) hij (by rw [← hsz]; exact hj')
    rw [cfE_lt, getElem!_pos d' j hj', getElem!_pos d' i hi'] at this
    simpa [exLe] using this
  rw [← this]
set_option maxHeartbeats 2000000 in
theorem sort_none (p : Option Addr) (c : Nat) (fv : Value) (w : World) : Calls Tryz.prog 92 #[.slice p 0 c, fv] w fun e w' => e = .returned (.tuple #[]) ∧ w' = w := by
  have BL : ∀ w, Calls Tryz.prog 116 #[.int .u64 0] w fun e w' => e = .returned (.int .i64 (Lib.bitLen 0 : Nat)) ∧ w' = w := fun w => Tryz.bits_Len 0 w (by decide) (by decide)
  have IS : ∀ w, Calls Tryz.prog 134 #[.slice p 0 c, .int .i64 0, .int .i64 0, fv] w fun e w' => e = .returned (.tuple #[]) ∧ w' = w := fun w => by
    go_enter Tryz.func134, Tryz.ntmps134
    go_wp2
    refine wp_loop_rounds 1 ?_
    rw [rounds_succ]
    go_wp2
    go_end0
    exact ⟨rfl, rfl⟩
  have PD : ∀ l w, Calls Tryz.prog 115 #[.slice p 0 c, .int .i64 0, .int .i64 0, .int .i64 l, fv] w fun e w' => e = .returned (.tuple #[]) ∧ w' = w := fun l w => by
    clear BL
    go_enter Tryz.func115, Tryz.ntmps115
    go_wp2
    refine wp_loop_rounds 1 ?_
    rw [rounds_succ]
    go_wp2_with (go_at_call 134; refine (IS _).mono ?_; rintro e w' ⟨rfl, rfl⟩)
    (try simp only [Exit.inBlock, Exit.then]); refine bodyPost_ret (results_none rfl _ _ _) rfl ?_
    exact ⟨rfl, rfl⟩
  go_enter Tryz.func92, Tryz.ntmps92
  go_wp2_with (first | (go_at_call 116; refine (BL _).mono ?_; rintro e w' ⟨rfl, rfl⟩) | (go_at_call 115; refine (PD _ _).mono ?_; rintro e w' ⟨rfl, rfl⟩))
  go_end0
  exact ⟨rfl, rfl⟩
theorem flat_list (l : List ExV) : (flatK ExV.cells 5 l.toArray).toList = l.flatMap ExV.cells := by
  have hlen : (l.flatMap ExV.cells).length = l.length * 5 := by
    induction l with
    | nil => rfl
    | cons x l ih => rw [List.flatMap_cons, List.length_append, ih, ex_len, List.length_cons]; omega
  apply List.ext_getElem?
  intro t
  by_cases ht : t < l.length * 5
  · have hs : t < (flatK ExV.cells 5 l.toArray).size := by simpa using ht
    have hq : t / 5 < l.length := by omega
    rw [Array.getElem?_toList, Array.getElem?_eq_getElem hs]
    have h1 := get_flatK ExV.cells 5 l.toArray t (by simpa using ht)
    rw [getElem!_pos _ t hs] at h1
    rw [h1]
    have h2 := flat_cells ExV.cells 5 ex_len l (t / 5) (t % 5) l[t / 5] (List.getElem?_eq_getElem hq) (Nat.mod_lt _ (by decide))
    rw [Nat.div_add_mod] at h2
    rw [h2]
    have h3 : (l.toArray)[t / 5]! = l[t / 5] := by rw [getElem!_pos l.toArray (t / 5) (by simpa using hq)]; simp
    rw [h3]
    have h4 : t % 5 < (ExV.cells l[t / 5]).length := by rw [ex_len]; exact Nat.mod_lt _ (by decide)
    rw [List.getElem?_eq_getElem h4, getElem!_pos (ExV.cells l[t / 5]) (t % 5) h4]
  · have hs : (flatK ExV.cells 5 l.toArray).size ≤ t := by rw [size_flatK, List.size_toArray]; omega
    rw [Array.getElem?_toList, Array.getElem?_eq_none hs, List.getElem?_eq_none (by omega)]
theorem put_own {w : World} {g n cap : Nat} {cur : Array Value} {e : TypeId} (hg : w.heap[g]? = some (.cells cur e (0, 0))) (hs : cur.size = cap * 5) (hn : n ≤ cap) (F : Array Value) (hF : F.size = n * 5) (m : Nat) (os : Array Obj) :
    ∃ cur', (grow (putRow id (Sort.ahead w m) g 0 F) os).heap[g]? = some (.cells cur' e (0, 0)) ∧ cur'.size = cap * 5 ∧ cur'.toList.take (n * 5) = F.toList := by
  have hlt := bk_lt hg
  refine ⟨putCells id 0 F cur, ?_, by simp [putCells, hs], ?_⟩
  · show ((w.heap.modify g (onCells (putCells id 0 F))) ++ os)[g]? = _
    rw [Array.getElem?_append_left (by simpa using hlt), Array.getElem?_modify, if_pos rfl, hg]
    rfl
  · apply List.ext_getElem?
    intro t
    by_cases ht : t < n * 5
    · have h5 : n * 5 ≤ cap * 5 := Nat.mul_le_mul_right 5 hn
      have hc : t < cur.size := by omega
      rw [List.getElem?_take_of_lt ht, Array.getElem?_toList, Array.getElem?_toList]
      unfold putCells
      rw [Array.getElem?_mapIdx, Array.getElem?_eq_getElem hc, Array.getElem?_eq_getElem (by omega)]
      simp [hF, ht]
    · rw [List.getElem?_eq_none (by rw [List.length_take]; omega), List.getElem?_eq_none (by simp [hF]; omega)]
theorem put_chg (w : World) (g : Nat) (F : Array Value) (m : Nat) (os : Array Obj) : Chg [g] w (grow (putRow id (Sort.ahead w m) g 0 F) os) := by
  refine ⟨rfl, rfl, rfl, by simp, fun k hk hn => ?_⟩
  have hne : ¬ g = k := fun e => hn (by simp [e])
  show ((w.heap.modify g (onCells (putCells id 0 F))) ++ os)[k]? = _
  rw [Array.getElem?_append_left (by simpa using hk), Array.getElem?_modify, if_neg hne]
set_option maxHeartbeats 2000000 in
/-- THE SORT -/
theorem sort_any {w : World} {v : Value} {l : List ExV} (h : w.ownsRow 0 81 5 v l.length (l.flatMap ExV.cells)) (hd : firstDup sameEx [] l = none) (hl : l.length ≤ 1000000) :
    Calls Tryz.prog 92 #[v, .func (.func 93) #[] #[]] w fun e w' => e = .returned (.tuple #[]) ∧ w'.ownsRow 0 81 5 v (sortEx l).length ((sortEx l).flatMap ExV.cells) ∧ Chg v.ownBlock.toList w w' := by
  have hlen := sort_len l
  rcases h.2 with ⟨rfl, h0⟩ | ⟨g, cap, cur, rfl, hb, hg, hn, hcm, hsz, hx⟩
  · obtain rfl : l = [] := List.length_eq_zero_iff.1 h0
    refine (sort_none _ _ _ _).mono ?_
    rintro e w' ⟨rfl, rfl⟩
    exact ⟨rfl, h, Chg.refl _ _⟩
  · have eg : ∀ args w, (callFunc 93 args).run Tryz.prog w = .ok (.enter 93 args) w := enters_of Tryz.func93 (by kernel_rfl) rfl
    have hH : HoldsK ExV.cells 5 w g 0 l.toArray := by
      intro j hj
      have hj' : j < (l.flatMap ExV.cells).length := by rw [← flat_list]; simpa using hj
      have e1 : (flatK ExV.cells 5 l.toArray)[j]! = (l.flatMap ExV.cells)[j] := by
        rw [getElem!_pos _ j hj]
        have := congrArg (·[j]?) (flat_list l)
        simp only [Array.getElem?_toList] at this
        rw [Array.getElem?_eq_getElem hj, List.getElem?_eq_getElem hj'] at this
        exact Option.some.inj this
      have hx' : cur[j]? = some ((l.flatMap ExV.cells)[j]) := by
        have h2 : j < l.length * 5 := by rw [← h.1]; exact hj'
        have := congrArg (·[j]?) hx
        simp only [List.getElem?_take_of_lt h2, Array.getElem?_toList, List.getElem?_eq_getElem hj'] at this
        exact this
      refine ⟨?_, bk_free hg _⟩
      rw [e1, Nat.zero_add]
      exact bk_cell hg j _ hx'
    have hcmp : CmpLays Tryz.prog 93 #[] ExV.cells 5 cfE g 0 l.toArray.size w := fun _ _ _ _ x y => closure3 x y _
    have hcon := AnyQ.slices_SortFunc Tryz.lso 5 Tryz.isAgg81 Tryz.sizeOf81 ExV.cells ex_len ex_one cfE cfE_swo 93 #[] g 0 cap l.toArray w eg hcmp hH (bk_lt hg) (by simp; omega)
    simp only [List.size_toArray] at hcon
    refine Calls.mono hcon ?_
    rintro e w' ⟨rfl, d', n, os, hp, hs, rfl⟩
    have hd' := sorted_is (l := l) (by simpa using hp) (by simpa using hs) hd
    subst hd'
    obtain ⟨cur', k1, k2, k3⟩ := put_own hg hsz hn (flatK ExV.cells 5 (sortEx l).toArray) (by simp [hlen]) n os
    refine ⟨rfl, ⟨?_, .inr ⟨g, cap, cur', by rw [hlen], hb, k1, by rw [hlen]; exact hn, hcm, k2, ?_⟩⟩, put_chg w g _ n os⟩
    · rw [← flat_list]; simp
    · rw [hlen, k3, flat_list]
end Te
end Go.Proofs.YtigfcchblfnnbaaGreatDoor
namespace Go.Proofs.YtigfcchblfnnbaaGreatDoor
open Go Go.RowKit
set_option linter.all false
namespace Te
open Tk (AttrV TokV ARead append_new)
theorem ex_info : (Tryz.prog.info? 81).map (fun i => (i.zero.map (·.cells.size), i.size, i.bytes)) = some (some 5, 5, 64) := by kernel_rfl
theorem dup_step {α : Type} (same : α → α → Bool) (l : List α) (i : Nat) (a : α) (h : l[i]? = some a) : firstDup same (l.take i) (l.drop i) = if (l.take i).any (fun o => same o a) then some a else firstDup same (l.take (i + 1)) (l.drop (i + 1)) := by
  have hi := (List.getElem?_eq_some_iff.1 h).1
  have ha := (List.getElem?_eq_some_iff.1 h).2
  rw [List.drop_eq_getElem_cons hi, ha, firstDup]
  split
  · rfl
  · rw [List.take_succ, h]; rfl
theorem dup_end {α : Type} (same : α → α → Bool) (l : List α) : firstDup same (l.take l.length) (l.drop l.length) = none := by
  rw [List.drop_length, firstDup]
theorem decls_step (l : List AttrV) (i : Nat) (a : AttrV) (h : l[i]? = some a) (s : Sc) : declsGo (l.drop i) s = if isDecl a.nm then (if declOk a.nm a.val then declsGo (l.drop (i + 1)) ((declPfx a.nm, a.val) :: s) else .error a.at_) else declsGo (l.drop (i + 1)) s := by
  have hi := (List.getElem?_eq_some_iff.1 h).1
  have ha := (List.getElem?_eq_some_iff.1 h).2
  rw [List.drop_eq_getElem_cons hi, ha, declsGo]
/-- more ahead -/
def pre (acc : List ExV) (r : Except (Ps × Nat) (List ExV)) : Except (Ps × Nat) (List ExV) := match r with | .ok l => .ok (acc ++ l) | .error e => .error e
theorem extras_step (s : Sc) (acc : List ExV) (l : List AttrV) (i : Nat) (a : AttrV) (h : l[i]? = some a) : pre acc (extrasGo s (l.drop i)) = if isDecl a.nm then pre acc (extrasGo s (l.drop (i + 1))) else match expand s a.nm false with
    | .error e => .error (a.at_, e)
    | .ok x => pre (acc ++ [⟨x.1, x.2, a.val, a.at_⟩]) (extrasGo s (l.drop (i + 1))) := by
  have hi := (List.getElem?_eq_some_iff.1 h).1
  have ha := (List.getElem?_eq_some_iff.1 h).2
  rw [List.drop_eq_getElem_cons hi, ha, extrasGo]
  split
  · rfl
  · rcases expand s a.nm false with e | x
    · rfl
    · dsimp only
      rcases extrasGo s (l.drop (i + 1)) with e | l'
      · rfl
      · simp [pre]
/-- how attrs ends -/
def Atts (w : World) (r : Except (Ps × Nat) (Sc × (Bs × Bs) × List ExV)) (e : Ending) (w' : World) : Prop := Pur w w' ∧ match r with
  | .ok (s, _, l) => ∃ pv ev, e = .returned (.tuple #[pv, ev, .nilIface]) ∧ ScRead w' pv s ∧ w'.ownsRow w.heap.size 81 5 ev l.length (l.flatMap ExV.cells)
  | .error r => ∃ fv, e = .returned (.tuple #[.pointer none, .slice none 0 0, fv]) ∧ Fa w.heap.size w' fv r
theorem Fa.mono {B B' : Nat} {w : World} {v : Value} {r : Ps × Nat} (h : Fa B w v r) (hB : B' ≤ B) : Fa B' w v r := by
  obtain ⟨b, h1, h2⟩ := h; exact ⟨b, Nat.le_trans hB h1, h2⟩
theorem expand_err {s : Sc} {nm : Bs} {el : Bool} {k : Nat} (h : expand s nm el = .error k) : k = 32 ∨ k = 2 := by
  unfold expand at h
  split at h
  · cases h; exact .inl rfl
  split at h
  · cases h; exact .inr rfl
  · cases h
theorem ScRead.ptr {w : World} {v : Value} {s : Sc} (h : ScRead w v s) : ∃ o, v = .pointer o := by
  cases s with
  | nil => exact ⟨none, h⟩
  | cons x r => obtain ⟨g, o, e, _⟩ := h; exact ⟨_, e⟩
set_option maxRecDepth 100000 in
set_option maxHeartbeats 8000000 in
theorem attrs_any (t : TokV) (av sv : Value) (s : Sc) (w : World) (hW : XW w) (ha : ARead w av t.attrs) (hs : ScRead w sv s) (hl : t.attrs.length ≤ 1000000) (hn : t.nm.length ≤ 1000000000) (hln : ∀ a ∈ t.attrs, a.nm.length ≤ 1000000000) :
    Calls Tryz.prog 56 #[.agg #[.int .i64 (t.kind : Int), .string ⟨t.nm.toArray⟩, av, .string ⟨t.text.toArray⟩, .int .i64 (t.at_.1 : Int), .int .i64 (t.at_.2 : Int), .bool t.empty], sv] w (Atts w (tagOf t s)) := by
  obtain ⟨a, c, rfl, ⟨hc, hlm⟩, hA⟩ := ha
  obtain ⟨kd, nm, A, tx, ⟨tl, tc⟩, em⟩ := t
  dsimp only at *
  obtain ⟨w0, hw0⟩ : ∃ w0, w0 = w.alloc (.cells #[.int .i64 (kd : Int), .string ⟨nm.toArray⟩, .slice a A.length c, .string ⟨tx.toArray⟩, .int .i64 (tl : Int), .int .i64 (tc : Int), .bool em] 60) := ⟨_, rfl⟩
  have hb0 : w0.heap[w.heap.size]? = some (.cells #[.int .i64 (kd : Int), .string ⟨nm.toArray⟩, .slice a A.length c, .string ⟨tx.toArray⟩, .int .i64 (tl : Int), .int .i64 (tc : Int), .bool em] 60 (0, 0)) := by rw [hw0]; exact bk_new w _
  have hp0 : Pur w w0 := by rw [hw0]; exact (Pur.refl w).alloc _
  have T2 : ∀ W, Pur w0 W → W.cell? ⟨w.heap.size, 2, none⟩ = some (.slice a A.length c) := fun W hp => bk_cell (bk_pur hb0 hp) 2 _ rfl
  have T1 : ∀ W, Pur w0 W → W.cell? ⟨w.heap.size, 1, none⟩ = some (.string ⟨nm.toArray⟩) := fun W hp => bk_cell (bk_pur hb0 hp) 1 _ rfl
  have T4 : ∀ W, Pur w0 W → W.cell? ⟨w.heap.size, 4, none⟩ = some (.int .i64 (tl : Int)) := fun W hp => bk_cell (bk_pur hb0 hp) 4 _ rfl
  have T5 : ∀ W, Pur w0 W → W.cell? ⟨w.heap.size, 5, none⟩ = some (.int .i64 (tc : Int)) := fun W hp => bk_cell (bk_pur hb0 hp) 5 _ rfl
  have HA : ∀ (i : Nat) x, A[i]? = some x → ∃ g, a = some ⟨g, 0, none⟩ ∧ g < w.heap.size ∧ ∀ W, Pur w W → W.cell? ⟨g, i * 4, none⟩ = some (.string ⟨x.nm.toArray⟩) ∧ W.cell? ⟨g, i * 4 + 1, none⟩ = some (.string ⟨x.val.toArray⟩) ∧ W.cell? ⟨g, i * 4 + 2, none⟩ = some (.int .i64 (x.at_.1 : Int)) ∧ W.cell? ⟨g, i * 4 + 3, none⟩ = some (.int .i64 (x.at_.2 : Int)) := fun i x hx => by
    obtain ⟨g, e, hg, k0, k1, k2, k3⟩ := hA i x hx
    exact ⟨g, e, hg, fun W hp => ⟨(hp.cell hg).trans k0, (hp.cell hg).trans k1, (hp.cell hg).trans k2, (hp.cell hg).trans k3⟩⟩
  have c2 := T2 w0 (Pur.refl _)
  have FA := fun p n w => fault_any p n w
  have hmf : ∀ (fn : Fn) (first cap : Array Value) (w : World), (Instr.makeFunc fn first cap).run Tryz.prog w = .ok (.func fn first cap) w := fun _ _ _ _ => rfl
  have hsz0 : w0.heap.size = w.heap.size + 1 := by rw [hw0]; exact Array.size_push _
  obtain ⟨R, hR⟩ : ∃ R, tagOf ⟨kd, nm, A, tx, (tl, tc), em⟩ s = R := ⟨_, rfl⟩
  rw [hR]
  have HR := Lib.hid hR
  clear hR
  go_enter Tryz.func56, Tryz.ntmps56
  go_upto_region 1 with (fail)
  rw [← hw0]
  have HW0 := Lib.hid hw0
  clear hw0
  go_wp2
  go_loopw [31] (fun k wr => ∃ i : Nat, i ≤ A.length ∧ k = .int .i64 i ∧ Pur w0 wr ∧ Hid (firstDup sameName [] A = firstDup sameName (A.take i) (A.drop i))) (fun k _ => A.length + 1 - (intOf k).toNat)
  case atStart => exact ⟨0, by omega, rfl, Pur.refl _, Lib.hid (by simp)⟩
  case round =>
    obtain ⟨i, hi, rfl, hpr, H⟩ := hrel
    have P1 : Pur w wr := hp0.trans hpr
    have hsz1 : w.heap.size < wr.heap.size := Nat.lt_of_lt_of_le (by omega) hpr.size
    by_cases hlt : i < A.length
    · obtain ⟨x, hx⟩ : ∃ x, A[i]? = some x := ⟨_, List.getElem?_eq_getElem hlt⟩
      obtain ⟨g, rfl, hg, HC⟩ := HA i x hx
      obtain ⟨k0, k1, k2, k3⟩ := HC wr P1
      have hlt' : (i : Int) < A.length := by omega
      have HS := Lib.hid (dup_step sameName A i x hx)
      obtain ⟨xn, xv, ⟨xl, xc⟩⟩ := x
      dsimp only at k0 k1 k2 k3
      obtain ⟨w1, hw1⟩ : ∃ w1, w1 = wr.alloc (.cells #[.string ⟨xn.toArray⟩, .string ⟨xv.toArray⟩, .int .i64 (xl : Int), .int .i64 (xc : Int)] 156) := ⟨_, rfl⟩
      have hb1 : w1.heap[wr.heap.size]? = some (.cells #[.string ⟨xn.toArray⟩, .string ⟨xv.toArray⟩, .int .i64 (xl : Int), .int .i64 (xc : Int)] 156 (0, 0)) := by rw [hw1]; exact bk_new wr _
      have p1 : Pur wr w1 := by rw [hw1]; exact (Pur.refl wr).alloc _
      have c2 := T2 w1 (hpr.trans p1)
      have DU := dup1_any A g i c ⟨xn, xv, (xl, xc)⟩ wr.heap.size w1 hi hl (Nat.lt_of_lt_of_le hg (P1.trans p1).size) (bk_lt hb1) (bk_cell hb1 0 _ rfl) (fun j y hy => by
        obtain ⟨g', e, _, HC'⟩ := HA j y hy
        cases e
        exact HC' w1 (P1.trans p1))
      obtain ⟨bd, hbd⟩ : ∃ bd, (A.take i).any (fun o => sameName o ⟨xn, xv, (xl, xc)⟩) = bd := ⟨_, rfl⟩
      rw [hbd] at DU
      have HB := Lib.hid hbd
      clear hbd hx HC hA HA
      go_upto_region 4 with (fail)
      rw [← hw1]
      clear hw1 c2
      have c2 := T2 w1 (hpr.trans p1)
      rcases bd with _ | _
      · go_wp2_with (go_at_call 87; refine DU.mono ?_; rintro e w2 ⟨rfl, p2⟩)
        go_roundw
        case rel => exact ⟨i + 1, by omega, by go_num, hpr.trans (p1.trans p2), Lib.hid (by rw [H.out, HS.out, HB.out]; rfl)⟩
        case measure => simp [intOf]; omega
      · go_wp2_with fail
        refine DU.mono ?_
        rintro e w2 ⟨rfl, p2⟩
        have y2 := bk_cell (bk_pur hb1 p2) 2 _ rfl
        have y3 := bk_cell (bk_pur hb1 p2) 3 _ rfl
        clear DU
        go_wp2_with (go_at_call 19; refine (FA (xl, xc) 31 _).mono ?_; rintro e w3 ⟨fv, rfl, hfa, p3⟩)
        go_ret3
        have e1 : R = .error ((xl, xc), 31) := by
          rw [← HR.out]; unfold tagOf; dsimp only; rw [H.out, HS.out, HB.out]; rfl
        rw [e1]
        exact ⟨P1.trans (p1.trans (p2.trans p3)), fv, rfl, hfa.mono (Nat.le_trans P1.size (p1.trans p2).size)⟩
    · have hi2 : i = A.length := by omega
      subst hi2
      have D1 := Lib.hid (show firstDup sameName [] A = none by rw [H.out]; exact dup_end _ _)
      have hlt' : ¬ ((A.length : Nat) : Int) < A.length := by omega
      clear H hlt hi
      have c2 := T2 wr hpr
      have hs1 := hs.pur P1
      go_upto_region 8 with (fail)
      clear hs c2
      have PW1 := hpr
      go_loopw [1, 49] (fun k1 k wx => ∃ (i : Nat) (s' : Sc), i ≤ A.length ∧ k = .int .i64 i ∧ ScRead wx k1 s' ∧ Pur w0 wx ∧ Hid (declsGo A s = declsGo (A.drop i) s')) (fun _ k _ => A.length + 1 - (intOf k).toNat)
      case atStart => exact ⟨0, s, by omega, rfl, hs1, hpr, Lib.hid (by simp)⟩
      case round =>
        clear hpr P1 hsz1 hs1 PW1
        obtain ⟨i, s', hi, rfl, hsr, hpr, H⟩ := hrel
        obtain ⟨po, rfl⟩ := hsr.ptr
        have P1 : Pur w wr := hp0.trans hpr
        have hsz1 : w.heap.size < wr.heap.size := Nat.lt_of_lt_of_le (by omega) hpr.size
        by_cases hlt : i < A.length
        · obtain ⟨x, hx⟩ : ∃ x, A[i]? = some x := ⟨_, List.getElem?_eq_getElem hlt⟩
          have hxn := hln x (List.mem_of_getElem? hx)
          obtain ⟨g, rfl, hg, HC⟩ := HA i x hx
          obtain ⟨k0, k1, k2, k3⟩ := HC wr P1
          have hlt' : (i : Int) < A.length := by omega
          have HS := Lib.hid (decls_step A i x hx s')
          obtain ⟨xn, xv, ⟨xl, xc⟩⟩ := x
          dsimp only at k0 k1 k2 k3 hxn
          obtain ⟨w1, hw1⟩ : ∃ w1, w1 = wr.alloc (.cells #[.string ⟨xn.toArray⟩, .string ⟨xv.toArray⟩, .int .i64 (xl : Int), .int .i64 (xc : Int)] 156) := ⟨_, rfl⟩
          have hb1 : w1.heap[wr.heap.size]? = some (.cells #[.string ⟨xn.toArray⟩, .string ⟨xv.toArray⟩, .int .i64 (xl : Int), .int .i64 (xc : Int)] 156 (0, 0)) := by rw [hw1]; exact bk_new wr _
          have p1 : Pur wr w1 := by rw [hw1]; exact (Pur.refl wr).alloc _
          have DE := declares_any xn xv xl xc w1 (hW.pur (P1.trans p1)) hxn
          clear hx HC hA HA T1 T2 T4 T5
          go_upto_region 10 with (fail)
          rw [← hw1]
          have y0 := bk_cell hb1 0 _ rfl
          have y1 := bk_cell hb1 1 _ rfl
          have y2 := bk_cell hb1 2 _ rfl
          have y3 := bk_cell hb1 3 _ rfl
          clear hw1 k0 k1 k2 k3
          unfold declR at DE
          obtain ⟨b1, hb1'⟩ : ∃ b, isDecl xn = b := ⟨_, rfl⟩
          obtain ⟨b2, hb2⟩ : ∃ b, declOk xn xv = b := ⟨_, rfl⟩
          rw [hb1', hb2] at DE
          have H1 := Lib.hid hb1'
          have H2 := Lib.hid hb2
          clear hb1' hb2
          generalize hdp : declPfx xn = dp at *
          have H3 := Lib.hid hdp
          clear hdp
          rcases b1 with _ | _
          · simp only [Bool.false_eq_true, if_false] at DE
            go_wp2_with (go_at_call 89; refine DE.mono ?_; rintro e w2 ⟨rfl, p2⟩)
            go_roundw
            case rel => exact ⟨i + 1, s', by omega, by go_num, hsr.pur (p1.trans p2), hpr.trans (p1.trans p2), Lib.hid (by rw [H.out, HS.out, H1.out]; rfl)⟩
            case measure => simp [intOf]; omega
          · simp only [if_true] at DE
            rcases b2 with _ | _
            · go_wp2_with fail
              refine DE.mono ?_
              rintro e w2 ⟨rfl, p2⟩
              have z2 := bk_cell (bk_pur hb1 p2) 2 _ rfl
              have z3 := bk_cell (bk_pur hb1 p2) 3 _ rfl
              clear DE y0 y1 y2 y3
              go_wp2_with (go_at_call 19; refine (FA (xl, xc) 32 _).mono ?_; rintro e w3 ⟨fv, rfl, hfa, p3⟩)
              go_ret3
              have e1 : R = .error ((xl, xc), 32) := by
                rw [← HR.out]; unfold tagOf; dsimp only; rw [D1.out]; dsimp only; rw [H.out, HS.out, H1.out, H2.out]; rfl
              rw [e1]
              exact ⟨P1.trans (p1.trans (p2.trans p3)), fv, rfl, hfa.mono (Nat.le_trans P1.size (p1.trans p2).size)⟩
            · go_wp2_with fail
              refine DE.mono ?_
              rintro e w2 ⟨rfl, p2⟩
              have z1 := bk_cell (bk_pur hb1 p2) 1 _ rfl
              have hsr2 := Lib.hid (hsr.pur (p1.trans p2))
              clear DE y0 y1 y2 y3 hsr
              go_wp2
              go_roundw
              case rel =>
                refine ⟨i + 1, (dp, xv) :: s', by omega, by go_num, ?_, hpr.trans (p1.trans (p2.trans ((Pur.refl w2).alloc _))), Lib.hid (by rw [H.out, HS.out, H1.out, H2.out]; rfl)⟩
                exact ⟨_, _, rfl, bk_new w2 _, hsr2.out.pur ((Pur.refl w2).alloc _)⟩
              case measure => simp [intOf]; omega
        · have hi2 : i = A.length := by omega
          subst hi2
          have D2 := Lib.hid (show declsGo A s = .ok s' by rw [H.out, List.drop_length, declsGo])
          have hlt' : ¬ ((A.length : Nat) : Int) < A.length := by omega
          clear H hlt hi
          have c1 := T1 wr hpr
          have EX := expand_any nm true wr (hW.pur P1) hsr hn
          rcases hex : expand s' nm true with k | ⟨xs, xn⟩
          · rw [hex] at EX
            simp only [expR] at EX
            have hk : ((k : Int) != 0) = true := by have := expand_err hex; simp; omega
            have HX := Lib.hid hex
            clear hex hA HA T2
            go_wp2_with fail
            refine EX.mono ?_
            rintro e w1 ⟨rfl, p1⟩
            have z4 := T4 w1 (hpr.trans p1)
            have z5 := T5 w1 (hpr.trans p1)
            clear EX c1 T1 T4 T5
            go_wp2_with (go_at_call 19; refine (FA (tl, tc) k _).mono ?_; rintro e w3 ⟨fv, rfl, hfa, p3⟩)
            go_ret3
            have e1 : R = .error ((tl, tc), k) := by
              rw [← HR.out]; unfold tagOf; dsimp only; rw [D1.out]; dsimp only; rw [D2.out]; dsimp only; rw [HX.out]
            rw [e1]
            exact ⟨P1.trans (p1.trans p3), fv, rfl, hfa.mono (Nat.le_trans P1.size p1.size)⟩
          · rw [hex] at EX
            simp only [expR] at EX
            have HX := Lib.hid hex
            clear hex T4 T5
            go_wp2_with fail
            refine EX.mono ?_
            rintro e w1 ⟨rfl, p1⟩
            have c2 := T2 w1 (hpr.trans p1)
            have hpr2 := hpr.trans p1
            have hsr2 := hsr.pur p1
            clear EX c1 T1
            go_upto_region 20 with (fail)
            go_wp2
            go_loopw [17, 89] (fun lv k wx => ∃ (i : Nat) (acc : List ExV), i ≤ A.length ∧ k = .int .i64 i ∧ wx.ownsRow w0.heap.size 81 5 lv acc.length (acc.flatMap ExV.cells) ∧ Pur w0 wx ∧ ScRead wx (.pointer po) s' ∧ acc.length ≤ i ∧ Hid (extrasGo s' A = pre acc (extrasGo s' (A.drop i)))) (fun _ k _ => A.length + 1 - (intOf k).toNat)
            case atStart => exact ⟨0, [], by omega, rfl, World.ownsRow_nil _ _ _ _, hpr2, hsr2, Nat.le_refl _, Lib.hid (by rw [List.drop_zero]; unfold pre; rcases extrasGo s' A with e | l <;> simp)⟩
            case round =>
              clear hpr P1 hsz1 hsr hpr2 hsr2 p1 c2
              obtain ⟨i, acc, hi, rfl, hown, hpr, hsr, hacc, H⟩ := hrel
              obtain ⟨la, lc, rfl⟩ := row_shape hown
              have P1 : Pur w wr := hp0.trans hpr
              have hsz1 : w.heap.size < wr.heap.size := Nat.lt_of_lt_of_le (by omega) hpr.size
              by_cases hlt : i < A.length
              · obtain ⟨x, hx⟩ : ∃ x, A[i]? = some x := ⟨_, List.getElem?_eq_getElem hlt⟩
                have hxn := hln x (List.mem_of_getElem? hx)
                obtain ⟨g, rfl, hg, HC⟩ := HA i x hx
                obtain ⟨k0, k1, k2, k3⟩ := HC wr P1
                have hlt' : (i : Int) < A.length := by omega
                have HS := Lib.hid (extras_step s' acc A i x hx)
                obtain ⟨yn, yv, ⟨yl, yc⟩⟩ := x
                dsimp only at k0 k1 k2 k3 hxn
                obtain ⟨w1, hw1⟩ : ∃ w1, w1 = wr.alloc (.cells #[.string ⟨yn.toArray⟩, .string ⟨yv.toArray⟩, .int .i64 (yl : Int), .int .i64 (yc : Int)] 156) := ⟨_, rfl⟩
                have hb1 : w1.heap[wr.heap.size]? = some (.cells #[.string ⟨yn.toArray⟩, .string ⟨yv.toArray⟩, .int .i64 (yl : Int), .int .i64 (yc : Int)] 156 (0, 0)) := by rw [hw1]; exact bk_new wr _
                have p1 : Pur wr w1 := by rw [hw1]; exact (Pur.refl wr).alloc _
                have DE := declares_any yn yv yl yc w1 (hW.pur (P1.trans p1)) hxn
                clear hx HC hA HA T2
                go_upto_region 23 with (fail)
                rw [← hw1]
                have y0 := bk_cell hb1 0 _ rfl
                have y1 := bk_cell hb1 1 _ rfl
                have y2 := bk_cell hb1 2 _ rfl
                have y3 := bk_cell hb1 3 _ rfl
                clear hw1 k0 k1 k2 k3
                unfold declR at DE
                obtain ⟨b1, hb1'⟩ : ∃ b, isDecl yn = b := ⟨_, rfl⟩
                rw [hb1'] at DE
                have H1 := Lib.hid hb1'
                clear hb1'
                rcases b1 with _ | _
                · simp only [Bool.false_eq_true, if_false] at DE
                  go_wp2_with fail
                  refine DE.mono ?_
                  rintro e w2 ⟨rfl, p2⟩
                  have z0 := bk_cell (bk_pur hb1 p2) 0 _ rfl
                  have hsr2 := hsr.pur (p1.trans p2)
                  have EX := expand_any yn false w2 (hW.pur (P1.trans (p1.trans p2))) hsr2 hxn
                  rcases hex : expand s' yn false with k | ⟨ys, yo⟩
                  · rw [hex] at EX
                    simp only [expR] at EX
                    have hk : ((k : Int) != 0) = true := by have := expand_err hex; simp; omega
                    have HX2 := Lib.hid hex
                    clear hex DE y0 y1 y2 y3
                    go_wp2_with fail
                    refine EX.mono ?_
                    rintro e w3 ⟨rfl, p3⟩
                    have z2 := bk_cell (bk_pur hb1 (p2.trans p3)) 2 _ rfl
                    have z3 := bk_cell (bk_pur hb1 (p2.trans p3)) 3 _ rfl
                    clear EX z0
                    go_wp2_with (go_at_call 19; refine (FA (yl, yc) k _).mono ?_; rintro e w4 ⟨fv, rfl, hfa, p4⟩)
                    go_ret3
                    have e1 : R = .error ((yl, yc), k) := by
                      rw [← HR.out]; unfold tagOf; dsimp only; rw [D1.out]; dsimp only; rw [D2.out]; dsimp only; rw [HX.out]; dsimp only
                      rw [H.out, HS.out, H1.out]; simp only [Bool.false_eq_true, if_false]; rw [HX2.out]
                    rw [e1]
                    exact ⟨P1.trans (p1.trans (p2.trans (p3.trans p4))), fv, rfl, hfa.mono (Nat.le_trans P1.size (p1.trans (p2.trans p3)).size)⟩
                  · rw [hex] at EX
                    simp only [expR] at EX
                    have HX2 := Lib.hid hex
                    clear hex DE y0 y1 y2 y3
                    go_wp2_with fail
                    refine EX.mono ?_
                    rintro e w3 ⟨rfl, p3⟩
                    have z1 := bk_cell (bk_pur hb1 (p2.trans p3)) 1 _ rfl
                    have z2 := bk_cell (bk_pur hb1 (p2.trans p3)) 2 _ rfl
                    have z3 := bk_cell (bk_pur hb1 (p2.trans p3)) 3 _ rfl
                    have p13 := p1.trans (p2.trans p3)
                    have hown3 := row_pur hown p13
                    have HSR := Lib.hid (hsr.pur p13)
                    have hB3 : w0.heap.size ≤ w3.heap.size := (hpr.trans p13).size
                    have hacc1 : ((acc ++ [(⟨ys, yo, yv, (yl, yc)⟩ : ExV)]).flatMap ExV.cells) = acc.flatMap ExV.cells ++ [.string ⟨ys.toArray⟩, .string ⟨yo.toArray⟩, .string ⟨yv.toArray⟩, .int .i64 (yl : Int), .int .i64 (yc : Int)] := by simp [ExV.cells]
                    have HA1 := Lib.hid hacc1
                    clear EX z0 hsr hsr2 hown hacc1
                    go_wp2_with (at_builtin; refine append_new w3 rfl _ _ 34 81 5 64 ex_info Tryz.underlying34 (by decide) (by decide) (by rfl) w0.heap.size _ acc.length _ _ _ [.string ⟨ys.toArray⟩, .string ⟨yo.toArray⟩, .string ⟨yv.toArray⟩, .int .i64 (yl : Int), .int .i64 (yc : Int)] rfl ?c1 (by rfl) w3.heap.size rfl (by rfl) hown3 (by omega) hB3 ?_)
                    case c1 => exact fun u hu => by simp at hu; rcases hu with rfl | rfl | rfl | rfl | rfl <;> rfl
                    intro v4 w4 hown4 hg4 _
                    have hc4 : Chg (Value.ownBlock (.slice la acc.length lc)).toList w3 w4 := ((Chg.refl _ w3).alloc _).grown hg4 (fun b hb => .inl (by simp [hb]))
                    have hlow : ∀ b ∈ (Value.ownBlock (.slice la acc.length lc)).toList, w0.heap.size ≤ b := fun b hb => (hown3.lt b (by simpa using hb)).1
                    have P4 : Pur w0 w4 := pur_chgS (hpr.trans p13) hc4 hlow
                    have SR4 : ScRead w4 (.pointer po) s' := HSR.out.same (ScSame.chg hc4 fun b hb C e => by
                      obtain ⟨C', h1⟩ := own_type hown3 (by simpa using hb)
                      rw [h1] at e; simp at e)
                    have HSR4 := Lib.hid SR4
                    clear SR4
                    go_wp2
                    go_roundw
                    case rel => exact ⟨i + 1, acc ++ [⟨ys, yo, yv, (yl, yc)⟩], by omega, by go_num, by rw [List.length_append, HA1.out, hsz0]; exact hown4, P4, HSR4.out, by simp; omega, Lib.hid (by rw [H.out, HS.out, H1.out]; simp only [Bool.false_eq_true, if_false]; rw [HX2.out])⟩
                    case measure => simp [intOf]; omega
                · simp only [if_true] at DE
                  have HSR := Lib.hid hsr
                  clear hsr
                  go_wp2_with (go_at_call 89; refine DE.mono ?_; rintro e w2 ⟨rfl, p2⟩)
                  go_roundw
                  case rel => exact ⟨i + 1, acc, by omega, by go_num, row_pur hown (p1.trans p2), hpr.trans (p1.trans p2), HSR.out.pur (p1.trans p2), by omega, Lib.hid (by rw [H.out, HS.out, H1.out]; rfl)⟩
                  case measure => simp [intOf]; omega
              · have hi2 : i = A.length := by omega
                subst hi2
                have D3 := Lib.hid (show extrasGo s' A = .ok acc by rw [H.out, List.drop_length, extrasGo]; simp [pre])
                have hlt' : ¬ ((A.length : Nat) : Int) < A.length := by omega
                clear H hlt hi hA HA T2
                have hm : acc.length ≤ 1000000 := by omega
                clear hacc hl hln hlm hc
                go_upto_region 30 with (fail)
                go_wp2
                rename World => wA
                go_loopw [127] (fun k wx => ∃ i : Nat, i ≤ acc.length ∧ k = .int .i64 i ∧ Pur wA wx ∧ Hid (firstDup sameEx [] acc = firstDup sameEx (acc.take i) (acc.drop i))) (fun k _ => acc.length + 1 - (intOf k).toNat)
                case atStart => exact ⟨0, by omega, rfl, Pur.refl _, Lib.hid (by simp)⟩
                case round =>
                  obtain ⟨i, hi, rfl, hpr4, H⟩ := hrel
                  have hprW : Pur w0 wr := hpr.trans hpr4
                  have P4 : Pur w wr := P1.trans hpr4
                  by_cases hlt : i < acc.length
                  · obtain ⟨x, hx⟩ : ∃ x, acc[i]? = some x := ⟨_, List.getElem?_eq_getElem hlt⟩
                    obtain ⟨g, lc', he, hgl, hg, hcc, hcell⟩ := row_at (row_pur hown hpr4) (by omega)
                    cases he
                    have KC : ∀ (W : World), Pur wr W → ∀ (i j : Nat) y u, acc[i]? = some y → y.cells[j]? = some u → W.cell? ⟨g, i * 5 + j, none⟩ = some u := fun W hp i j y u hy hu => by
                      have hj := (List.getElem?_eq_some_iff.1 hu).1
                      rw [ex_len] at hj
                      exact cell_pur (hcell (i * 5 + j) u (by rw [Nat.mul_comm i 5, flat_cells ExV.cells 5 ex_len acc i j y hy hj]; exact hu)).1 hp
                    have k0 := KC wr (Pur.refl _) i 0 x _ hx rfl
                    have k1 := KC wr (Pur.refl _) i 1 x _ hx rfl
                    have k2 := KC wr (Pur.refl _) i 2 x _ hx rfl
                    have k3 := KC wr (Pur.refl _) i 3 x _ hx rfl
                    have k4 := KC wr (Pur.refl _) i 4 x _ hx rfl
                    have hlt' : (i : Int) < acc.length := by omega
                    have hcc' : (acc.length : Int) ≤ lc := by omega
                    have HS := Lib.hid (dup_step sameEx acc i x hx)
                    obtain ⟨ys, yo, yv, ⟨yl, yc⟩⟩ := x
                    dsimp only [ExV.cells, Nat.add_zero] at k0 k1 k2 k3 k4
                    obtain ⟨w1, hw1⟩ : ∃ w1, w1 = wr.alloc (.cells #[.string ⟨ys.toArray⟩, .string ⟨yo.toArray⟩, .string ⟨yv.toArray⟩, .int .i64 (yl : Int), .int .i64 (yc : Int)] 81) := ⟨_, rfl⟩
                    have hb1 : w1.heap[wr.heap.size]? = some (.cells #[.string ⟨ys.toArray⟩, .string ⟨yo.toArray⟩, .string ⟨yv.toArray⟩, .int .i64 (yl : Int), .int .i64 (yc : Int)] 81 (0, 0)) := by rw [hw1]; exact bk_new wr _
                    have p1 : Pur wr w1 := by rw [hw1]; exact (Pur.refl wr).alloc _
                    have DU := dup2_any acc g i lc ⟨ys, yo, yv, (yl, yc)⟩ wr.heap.size w1 hi hm (Nat.lt_of_lt_of_le hg p1.size) (bk_lt hb1) (bk_cell hb1 0 _ rfl) (bk_cell hb1 1 _ rfl) (KC w1 p1)
                    obtain ⟨bd, hbd⟩ : ∃ bd, (acc.take i).any (fun o => sameEx o ⟨ys, yo, yv, (yl, yc)⟩) = bd := ⟨_, rfl⟩
                    rw [hbd] at DU
                    have HB := Lib.hid hbd
                    clear hbd hx KC hcell
                    go_upto_region 33 with (fail)
                    rw [← hw1]
                    clear hw1 k0 k1 k2 k3 k4
                    rcases bd with _ | _
                    · go_wp2_with (go_at_call 90; refine DU.mono ?_; rintro e w2 ⟨rfl, p2⟩)
                      go_roundw
                      case rel => exact ⟨i + 1, by omega, by go_num, hpr4.trans (p1.trans p2), Lib.hid (by rw [H.out, HS.out, HB.out]; rfl)⟩
                      case measure => simp [intOf]; omega
                    · go_wp2_with fail
                      refine DU.mono ?_
                      rintro e w2 ⟨rfl, p2⟩
                      have y3 := bk_cell (bk_pur hb1 p2) 3 _ rfl
                      have y4 := bk_cell (bk_pur hb1 p2) 4 _ rfl
                      clear DU
                      go_wp2_with (go_at_call 19; refine (FA (yl, yc) 31 _).mono ?_; rintro e w3 ⟨fv, rfl, hfa, p3⟩)
                      go_ret3
                      have e1 : R = .error ((yl, yc), 31) := by
                        rw [← HR.out]; unfold tagOf; dsimp only; rw [D1.out]; dsimp only; rw [D2.out]; dsimp only; rw [HX.out]; dsimp only; rw [D3.out]; dsimp only; rw [H.out, HS.out, HB.out]; rfl
                      rw [e1]
                      exact ⟨P4.trans (p1.trans (p2.trans p3)), fv, rfl, hfa.mono (Nat.le_trans P4.size (p1.trans p2).size)⟩
                  · have hi2 : i = acc.length := by omega
                    subst hi2
                    have D4 : firstDup sameEx [] acc = none := by rw [H.out]; exact dup_end _ _
                    have hlt' : ¬ ((acc.length : Nat) : Int) < acc.length := by omega
                    have e1 : R = .ok (s', (xs, xn), sortEx acc) := by
                      rw [← HR.out]; unfold tagOf; dsimp only; rw [D1.out]; dsimp only; rw [D2.out]; dsimp only; rw [HX.out]; dsimp only; rw [D3.out]; dsimp only; rw [D4]
                    have SO := sort_any (row_up (row_pur hown hpr4) fun _ _ => Nat.zero_le _) D4 hm
                    have hown4 := row_pur hown hpr4
                    have hsr4 := hsr.pur hpr4
                    have HSR := Lib.hid hsr4
                    have HE := Lib.hid e1
                    clear H hlt hi e1 D4 hsr hsr4
                    go_wp2_with (go_at_call 92; refine SO.mono ?_; rintro e w5 ⟨rfl, hrow5, hc5⟩)
                    go_ret3
                    rw [HE.out]
                    have hlow : ∀ b ∈ (Value.ownBlock (.slice la acc.length lc)).toList, w0.heap.size ≤ b := fun b hb => (hown4.lt b (by simpa using hb)).1
                    refine ⟨hp0.trans (pur_chgS hprW hc5 hlow), _, _, rfl, HSR.out.same (ScSame.chg hc5 fun b hb C e => ?_), ?_⟩
                    · obtain ⟨C', h1⟩ := own_type hown4 (by simpa using hb)
                      rw [h1] at e; simp at e
                    · exact row_up hrow5 fun g hg => Nat.le_trans (by omega) (hown4.lt g hg).1
end Te
end Go.Proofs.YtigfcchblfnnbaaGreatDoor
