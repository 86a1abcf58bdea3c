/- Write: the layer's. -/
import Derived.Test.YthfoidodcfdpnaaDoorFld10
import Derived.Test.YthfoidodcfdpnaaDoorTail
import Derived.Deep.AppendLies
namespace Go.Proofs.YthfoidodcfdpnaaDoor
open Go Go.RowKit
def strV (s : Bytes) : Value := .string ⟨s.toArray⟩
theorem str_info : (Tryd.prog.info? 9).map (fun i => (i.zero, i.size, i.bytes)) = some (some (.string ⟨#[]⟩), 1, 16) := by kernel_rfl
/-- the fields' sizes -/
def FSmall (fs : List Fld) : Prop := ∀ f ∈ fs, f.1.length ≤ 10000000 ∧ f.2.length ≤ 10000000
theorem part_len (f : Fld) : (part f).length ≤ 3 * f.1.length + 1 + 3 * f.2.length := by
  have h1 := coded_len f.1
  have h2 := coded_len f.2
  unfold part
  simp only [List.length_append, List.length_cons, List.length_nil]
  omega
theorem tail_len : ∀ (r : List Bytes) (m : Nat), (∀ p ∈ r, p.length ≤ m) → (Lib.joinTail [38] r).length ≤ r.length * (m + 1)
  | [], m, _ => by simp [Lib.joinTail]
  | p :: r, m, h => by
    have h1 := h p (by simp)
    have h2 := tail_len r m (fun x hx => h x (List.mem_cons_of_mem _ hx))
    have e : (p :: r).length * (m + 1) = r.length * (m + 1) + (m + 1) := by rw [List.length_cons, Nat.succ_mul]
    have e2 : Lib.joinTail [38] (p :: r) = 38 :: p ++ Lib.joinTail [38] r := by simp [Lib.joinTail]
    rw [e, e2, List.length_append, List.length_cons]
    omega
theorem join_len (ps : List Bytes) (m : Nat) (h : ∀ p ∈ ps, p.length ≤ m) : (Lib.join ps [38]).length ≤ ps.length * (m + 1) := by
  cases ps with
  | nil => simp [Lib.join_nil]
  | cons p r =>
    have h1 := h p (by simp)
    have h2 := tail_len r m (fun x hx => h x (List.mem_cons_of_mem _ hx))
    have e : (p :: r).length * (m + 1) = r.length * (m + 1) + (m + 1) := by rw [List.length_cons, Nat.succ_mul]
    rw [Lib.join_cons, e, List.length_append]
    omega
theorem join_any (v : Value) (xs : List Bytes) (B : Nat) (w : World) (h : w.ownsRow B 9 1 v xs.length (xs.map strV)) (hlen : (Lib.join xs [38]).length ≤ 140737488355328) (hN : xs.length ≤ 100000) :
    Calls Tryd.prog 22 #[v, .string ⟨#[38]⟩] w fun e w' => e = .returned (.string ⟨(Lib.join xs [38]).toArray⟩) ∧ Pur w w' := by
  by_cases h0 : xs.length = 0
  · obtain rfl : xs = [] := List.length_eq_zero_iff.1 h0
    rcases h.2 with ⟨rfl, _⟩ | ⟨g, cap, cur, rfl, _⟩
    · refine (Tryd.strings_Join_none _ _ _ _).mono ?_
      rintro e w' ⟨rfl, rfl⟩
      exact ⟨rfl, Pur.refl _⟩
    · refine (Tryd.strings_Join_none _ _ _ _).mono ?_
      rintro e w' ⟨rfl, rfl⟩
      exact ⟨rfl, Pur.refl _⟩
  · obtain ⟨g, cap, rfl, hb, hlt⟩ := h.form (by omega)
    have hcap : xs.length ≤ cap := by
      rcases h.2 with ⟨he, _⟩ | ⟨g', cap', cur, he, _, _, hnc, _⟩
      · cases he
      · injection he with e1 e2 e3
        omega
    have hm : (xs.map (fun s : Bytes => (⟨s.toArray⟩ : ByteArray))).map (·.data.toList) = xs := by
      rw [List.map_map]
      conv => rhs; rw [← List.map_id xs]
      rfl
    have := Tryd.strings_Join g 0 cap (xs.map (fun s : Bytes => (⟨s.toArray⟩ : ByteArray))) ⟨#[38]⟩ w (fun j x hj => by
      have := h.cells (g := g) rfl j (.string x) (by
        rw [List.getElem?_map] at hj ⊢
        obtain ⟨s, hs, rfl⟩ := Option.map_eq_some_iff.1 hj
        rw [hs]
        rfl)
      rw [add_zero'] at this
      rw [Nat.zero_add]
      exact this) hlt (by simp; omega) (by simpa using hcap) (by rw [hm]; exact hlen)
    rw [hm, List.length_map] at this
    exact this
/-- the parts' cells -/
def pcells (fs : List Fld) (n : Nat) : List Value := ((fs.take n).map part).map strV
theorem pcells_succ {fs : List Fld} {n : Nat} {f : Fld} (hf : fs[n]? = some f) : pcells fs n ++ [strV (part f)] = pcells fs (n + 1) := by
  unfold pcells
  rw [List.take_add_one, hf]
  simp
theorem pcells_all (fs : List Fld) : pcells fs fs.length = (fs.map part).map strV := by unfold pcells; rw [List.take_length]
theorem write_long {fs : List Fld} (h : 32 < fs.length) : write fs = ([], 4) := by rw [write, if_pos h]
theorem write_big {fs : List Fld} (h : fs.length ≤ 32) (h2 : 4096 < (joined fs).length) : write fs = ([], 2) := by rw [write, if_neg (by omega), if_pos h2]
theorem write_ok {fs : List Fld} (h : fs.length ≤ 32) (h2 : (joined fs).length ≤ 4096) : write fs = (joined fs, 0) := by rw [write, if_neg (by omega), if_neg (by omega)]
set_option maxRecDepth 100000 in
set_option maxHeartbeats 2000000 in
theorem write_any (v : Value) (fs : List Fld) (w : World) (hR : FRead w v fs) (hs : fs.length ≤ 4611686018427387903) (hF : FSmall fs) :
    Calls Tryd.prog 15 #[v] w fun e w' => e = .returned (.tuple #[.string ⟨(write fs).1.toArray⟩, .int .i64 (write fs).2]) ∧ Pur w w' := by
  obtain ⟨a, c, rfl, hC⟩ := hR
  have HC := Lib.hid hC
  have HF := Lib.hid hF
  clear hC hF
  by_cases h32 : 32 < fs.length
  · have HP := Lib.hid (write_long h32)
    have d1 : decide ((32 : Int) < fs.length) = true := decide_eq_true (by omega)
    clear h32
    go_enter Tryd.func15, Tryd.ntmps15
    go_wp2
    go_ret2
    exact ⟨by rw [HP.out]; rfl, Pur.refl w⟩
  · have d1 : decide ((32 : Int) < fs.length) = false := decide_eq_false (by omega)
    obtain ⟨i0, hi, hz0, hz1, hz2⟩ := info_parts str_info
    go_enter Tryd.func15, Tryd.ntmps15
    go_wp2
    go_loopw [4, 13] (fun o k wr => ∃ n : Nat, n ≤ fs.length ∧ k = .int .i64 n ∧ wr.ownsRow w.heap.size 9 1 o n (pcells fs n) ∧ Pur w wr) (fun _ k _ => fs.length + 1 - (intOf k).toNat)
    case atStart => exact ⟨0, by omega, rfl, World.ownsRow_nil _ _ _ _, Pur.refl w⟩
    case round =>
      obtain ⟨n, hn, rfl, hown, hpr⟩ := hrel
      by_cases hlt : n < fs.length
      · have hlt' : (n : Int) < fs.length := by omega
        obtain ⟨f, hf⟩ : ∃ f, fs[n]? = some f := ⟨_, List.getElem?_eq_getElem hlt⟩
        obtain ⟨b, o, rfl, hb, c1, c2⟩ := HC.out n f hf
        rw [Nat.mul_comm 2 n] at c1 c2
        have c1 := (hpr.cell (p := ⟨b, o + n * 2, none⟩) hb).trans c1
        have c2 := (hpr.cell (p := ⟨b, o + n * 2 + 1, none⟩) hb).trans c2
        obtain ⟨f1, f2⟩ := f
        obtain ⟨l1, l2⟩ := HF.out _ (List.mem_of_getElem? hf)
        have HT := Lib.hid (pcells_succ hf)
        have k1 : ∀ x : PW (wr.alloc (.cells #[.string ⟨f1.toArray⟩, .string ⟨f2.toArray⟩] 34)), x.to.cell? ⟨wr.heap.size, 0, none⟩ = some (.string ⟨f1.toArray⟩) := fun x => by
          rw [x.pur.cell (by simp), World.cell?_alloc_mark]; rfl
        have k2 : ∀ x : PW (wr.alloc (.cells #[.string ⟨f1.toArray⟩, .string ⟨f2.toArray⟩] 34)), x.to.cell? ⟨wr.heap.size, 1, none⟩ = some (.string ⟨f2.toArray⟩) := fun x => by
          rw [x.pur.cell (by simp), World.cell?_alloc_mark]; rfl
        simp only at l1 l2
        have S1 := fun w => coded_any f1 w (by omega)
        have S2 := fun w => coded_any f2 w (by omega)
        have z0 := coded_len f1
        have z00 := coded_len f2
        have z1 : ¬ 9223372036854775807 < (coded f1).length + 1 := by omega
        have z2 : ¬ 9223372036854775807 < (coded f1).length + 1 + (coded f2).length := by omega
        clear hf
        go_wp2
        refine wp_region_pur_tail_m 9 [0] [1, 2, 3, 4, 5, 6, 7, 8] (by kernel_rfl) (by kernel_rfl) (fun d _ _ _ _ h => by cases d <;> exact h) ?_
        simp only [List.filterMap_cons, List.filterMap_nil, List.getElem?_cons_succ, List.getElem?_cons_zero, List.drop_succ_cons, List.drop_zero, putM, isMove, List.foldl_cons, List.foldl_nil]
        repeat (quiet_step (((go_at_call 21; first | with_reducible exact quiet_pur (S1 _) | with_reducible exact quiet_pur (S2 _)))))
        refine wpQuiet_nil ?_
        intro wq hq
        have hq' : Pur wr wq := ((Pur.refl wr).alloc _).trans hq
        have l3 := part_len (f1, f2)
        go_wp2_with (at_builtin; refine wpList_append_own _ rfl _ _ 42 rfl w.heap.size 9 i0 (.string ⟨#[]⟩) 1 16 Tryd.underlying42 hi hz0 hz1 hz2 rfl (by decide) _ _ _ rfl ((ownsRow_pur hown hq').alloc _) ⟨_, 0, none⟩ 1 1 [strV (part (f1, f2))] rfl rfl ?c1 ?c2 ?c3 ?c4 ?c5 ?_)
        case c1 =>
          intro j u hj
          simpa [strV, part] using hj
        case c2 => rfl
        case c3 => unfold maxLen; omega
        case c4 => omega
        case c5 => have := (hpr.trans hq').size; simp; omega
        intro v5 w5 hown5 hgrow _
        go_wp2
        go_roundw
        case rel =>
          refine ⟨n + 1, by omega, by go_num, ?_, (((hpr.trans hq').alloc _).grown hgrow (by have := (hpr.trans hq').size; simp; omega) (fun k hk => (hown.lt k hk).1))⟩
          rw [← HT.out]
          exact hown5
        case measure => simp [intOf]; omega
      · obtain rfl : n = fs.length := by omega
        rw [pcells_all] at hown
        have hjl := join_len (fs.map part) 60000001 (fun p hp => by
          obtain ⟨f, hf, rfl⟩ := List.mem_map.1 hp
          have := HF.out f hf
          have := part_len f
          omega)
        rw [List.length_map] at hjl
        have hjl2 : fs.length * (60000001 + 1) ≤ 32 * (60000001 + 1) := Nat.mul_le_mul_right _ (by omega)
        have hle : (fs.length : Int) ≤ fs.length := by omega
        have J := join_any _ (fs.map part) w.heap.size _ (by rw [List.length_map]; exact hown) (by omega) (by rw [List.length_map]; omega)
        rw [show Lib.join (fs.map part) [38] = joined fs from rfl] at J
        have h32' : fs.length ≤ 32 := by omega
        clear hjl hjl2 hown h32
        by_cases hbig : 4096 < (joined fs).length
        · have HP := Lib.hid (write_big h32' hbig)
          have d2 : decide ((4096 : Int) < ((joined fs).length : Int)) = true := decide_eq_true (by omega)
          go_wp2_with fail
          refine J.mono ?_
          rintro e w' ⟨rfl, hp⟩
          go_wp2
          go_ret2
          exact ⟨by rw [HP.out]; rfl, hpr.trans hp⟩
        · have HP := Lib.hid (write_ok h32' (Nat.le_of_not_lt hbig))
          have d2 : decide ((4096 : Int) < ((joined fs).length : Int)) = false := decide_eq_false (by omega)
          go_wp2_with fail
          refine J.mono ?_
          rintro e w' ⟨rfl, hp⟩
          go_wp2
          go_ret2
          exact ⟨by rw [HP.out]; rfl, hpr.trans hp⟩
end Go.Proofs.YthfoidodcfdpnaaDoor
