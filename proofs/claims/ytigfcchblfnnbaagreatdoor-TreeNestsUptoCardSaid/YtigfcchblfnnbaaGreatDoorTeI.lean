/- Layer 3: sync.Once, one goroutine. Layer 3: a replacer of single bytes is built. Layer 3: a replacer, built at its first use. Layer 3: NewReplacer. -/
import Derived.Test.YtigfcchblfnnbaaGreatDoorTeA
import Derived.Tactics2
import Derived.Defers
import Derived.Laws.Pointers
import Derived.Laws.LoneSync
import Derived.RegionCalls
import Derived.ChangeAlike
import Derived.Test.YtigfcchblfnnbaaGreatDoorTkD
import Derived.Deep.CutRange
import Derived.Deep.DeepCutAuto
import Derived.Lib.SliceRun
import Derived.Test.YtigfcchblfnnbaaGreatDoorAppRead
namespace Go.Proofs.YtigfcchblfnnbaaGreatDoor
open Go Go.RowKit
set_option linter.all false
namespace Te
theorem o_disable (w : World) : (callFunc 181 #[]).run Tryz.prog w = .ok (.value (.tuple #[])) w := run_call_mark0 Tryz.func181 (by kernel_rfl) (by kernel_rfl) (by kernel_rfl) .disable (by kernel_rfl) w
theorem o_enable (w : World) : (callFunc 183 #[]).run Tryz.prog w = .ok (.value (.tuple #[])) w := run_call_mark0 Tryz.func183 (by kernel_rfl) (by kernel_rfl) (by kernel_rfl) .enable (by kernel_rfl) w
theorem o_acquire (a : Addr) (w : World) : (callFunc 184 #[.pointer (some a)]).run Tryz.prog w = .ok (.value (.tuple #[])) w := run_call_marked Tryz.func184 (by kernel_rfl) (by kernel_rfl) (by kernel_rfl) .acquire (by kernel_rfl) a w
theorem o_release (a : Addr) (w : World) : (callFunc 186 #[.pointer (some a)]).run Tryz.prog w = .ok (.value (.tuple #[])) w := run_call_marked Tryz.func186 (by kernel_rfl) (by kernel_rfl) (by kernel_rfl) .releaseMerge (by kernel_rfl) a w
theorem o_store (a : Addr) (x : Value) (u : FrameMode) (w : World) (hc : w.cell? a = some x) (hz : w.frozen? a = false) :
    CallsD Tryz.prog 154 #[.pointer (some a), .bool true] u w fun e u' w' => u' = u ∧ (e = .returned (.tuple #[]) ∧ w' = w.drew.setCell a (.int .u32 1)) := by
  have hc' : w.drew.cell? a = some x := by go_simp
  have hz' : w.drew.frozen? a = false := by go_simp
  have hst := run_call_store (P := Tryz.prog) Tryz.func172 (by kernel_rfl) (by kernel_rfl) (by kernel_rfl) (by kernel_rfl) (k := .u32) (y := 1) hc' hz'
  go_enter_d Tryz.func154, Tryz.ntmps154
  go_wp2
  go_region_calls
  all_goals (go_end0; exact ⟨rfl, rfl⟩)
set_option maxRecDepth 100000 in
set_option maxHeartbeats 4000000 in
theorem o_unlock (a : Addr) (u : FrameMode) (w : World) (hc : w.cell? a = some (.int .i32 1)) (hz : w.frozen? a = false) :
    CallsD Tryz.prog 153 #[.pointer (some a)] u w fun e u' w' => u' = u ∧ (e = .returned (.tuple #[]) ∧ w' = w.setCell a (.int .i32 0)) := by
  have hd := o_disable
  have he := o_enable
  have hr := o_release
  have hadd := run_call_add (P := Tryz.prog) Tryz.func187 (by kernel_rfl) (by kernel_rfl) (by kernel_rfl) .i32 (by kernel_rfl) (y := -1) (s := 0) hc hz (by simp [go_sem]; rfl)
  have hcv := run_convert_to_unsafe (P := Tryz.prog) (src := 279) (dst := 91) Tryz.underlying279 Tryz.underlying91 (by kernel_rfl) hc
  go_enter_d Tryz.func153, Tryz.ntmps153
  go_wp2
  go_end0
  go_wp2
  go_end0
  exact ⟨rfl, rfl⟩
set_option maxRecDepth 100000 in
set_option maxHeartbeats 4000000 in
theorem o_lock (a : Addr) (w : World) (hc : w.cell? a = some (.int .i32 0)) (hz : w.frozen? a = false) :
    Calls Tryz.prog 152 #[.pointer (some a)] w fun e w' => e = .returned (.tuple #[]) ∧ w' = w.setCell a (.int .i32 1) := by
  have hd := o_disable
  have he := o_enable
  have ha := o_acquire
  have hcas := run_call_cas_hit (P := Tryz.prog) Tryz.func182 (by kernel_rfl) (by kernel_rfl) (by kernel_rfl) .i32 (by kernel_rfl) (y := 1) hc hz
  have hc' : (w.setCell a (.int .i32 1)).cell? a = some (.int .i32 1) := World.cell?_setCell_same w a _ hc
  have hcv := run_convert_to_unsafe (P := Tryz.prog) (src := 279) (dst := 91) Tryz.underlying279 Tryz.underlying91 (by kernel_rfl) hc'
  go_enter Tryz.func152, Tryz.ntmps152
  go_wp2
  first | go_end0 | (simp only [Exit.inBlock, Exit.then]; refine bodyPost_ret (results_none rfl _ _ _) rfl ?_) | refine bodyPost_ret (results_none rfl _ _ _) rfl ?_
  go_wp2
  go_end0
  exact ⟨rfl, rfl⟩
set_option maxRecDepth 100000 in
set_option maxHeartbeats 4000000 in
/-- the slow road: the lock is taken, the function called, done stored, the lock let go -/
theorem o_slow (b : Nat) (T : TypeId) (x2 x3 x4 : Value) (w : World) (hb : w.heap[b]? = some (.cells #[.int .u32 0, .int .i32 0, x2, x3, x4] T (0, 0))) (Q : Value → Value → World → Prop)
    (hf : Calls Tryz.prog 104 #[.pointer (some ⟨b, 0, none⟩)] (w.setCell ⟨b, 1, none⟩ (.int .i32 1)) fun e w' => e = .returned (.tuple #[]) ∧ ∃ y3 y4, w'.heap[b]? = some (.cells #[.int .u32 0, .int .i32 1, x2, y3, y4] T (0, 0)) ∧ Q y3 y4 w') :
    Calls Tryz.prog 124 #[.pointer (some ⟨b, 0, none⟩), .func (.func 104) #[.pointer (some ⟨b, 0, none⟩)] #[]] w fun e w' => e = .returned (.tuple #[]) ∧ ∃ w1 y3 y4, w1.heap[b]? = some (.cells #[.int .u32 0, .int .i32 1, x2, y3, y4] T (0, 0)) ∧ Q y3 y4 w1 ∧
      w' = (w1.drew.setCell ⟨b, 0, none⟩ (.int .u32 1)).setCell ⟨b, 1, none⟩ (.int .i32 0) := by
  have hb1 := bk_set hb 1 (.int .i32 1)
  have hl := run_call_load (P := Tryz.prog) Tryz.func151 (by kernel_rfl) (by kernel_rfl) (by kernel_rfl) .u32 (by kernel_rfl) (w := w.setCell ⟨b, 1, none⟩ (.int .i32 1)) (a := ⟨b, 0, none⟩) (x := 0) (bk_cell hb1 0 _ rfl)
  have LK := o_lock ⟨b, 1, none⟩ w (bk_cell hb 1 _ rfl) (bk_free hb 1)
  have hnot : ∀ (x : Bool) (w : World), (Op.unary .not (.bool x)).run Tryz.prog w = .ok (.bool (!x)) w := fun _ _ => rfl
  clear hb hb1
  go_enter_defers Tryz.func124, Tryz.ntmps124
  go_wp2_with (first | (go_at_call 152; refine LK.mono ?_; rintro e w' ⟨rfl, rfl⟩) | (go_at_call 123; go_in) | (go_at_call 104; refine hf.mono ?_; rintro e w1 ⟨rfl, y3, y4, h1, hQ⟩))
  refine leaves_cons (f := 154) (args := #[.pointer (some ⟨b, 0, none⟩), .bool true]) (by simp) (by simp [go_sem]) ?_
  refine (o_store ⟨b, 0, none⟩ (.int .u32 0) .returning _ (bk_cell h1 0 _ rfl) (bk_free h1 0)).mono ?_
  rintro e u' w'' ⟨rfl, rfl, rfl⟩
  have h2 := bk_set (bk_drew h1) 0 (.int .u32 1)
  refine leaves_cons (f := 153) (args := #[.pointer (some ⟨b, 1, none⟩)]) (by simp [settle]) (by simp [go_sem]) ?_
  refine (o_unlock ⟨b, 1, none⟩ _ _ (bk_cell h2 1 _ rfl) (bk_free h2 1)).mono ?_
  rintro e u' w'' ⟨rfl, rfl, rfl⟩
  simp [Leaves, settle, results, Tryz.results124]
  exact ⟨w1, y3, y4, h1, hQ, rfl⟩
set_option maxRecDepth 100000 in
set_option maxHeartbeats 4000000 in
theorem o_do (b : Nat) (T : TypeId) (x2 x3 x4 : Value) (w : World) (hb : w.heap[b]? = some (.cells #[.int .u32 0, .int .i32 0, x2, x3, x4] T (0, 0))) (Q : Value → Value → World → Prop)
    (hf : Calls Tryz.prog 104 #[.pointer (some ⟨b, 0, none⟩)] (w.setCell ⟨b, 1, none⟩ (.int .i32 1)) fun e w' => e = .returned (.tuple #[]) ∧ ∃ y3 y4, w'.heap[b]? = some (.cells #[.int .u32 0, .int .i32 1, x2, y3, y4] T (0, 0)) ∧ Q y3 y4 w') :
    Calls Tryz.prog 103 #[.pointer (some ⟨b, 0, none⟩), .func (.func 104) #[.pointer (some ⟨b, 0, none⟩)] #[]] w fun e w' => e = .returned (.tuple #[]) ∧ ∃ w1 y3 y4, w1.heap[b]? = some (.cells #[.int .u32 0, .int .i32 1, x2, y3, y4] T (0, 0)) ∧ Q y3 y4 w1 ∧
      w' = (w1.drew.setCell ⟨b, 0, none⟩ (.int .u32 1)).setCell ⟨b, 1, none⟩ (.int .i32 0) := by
  have hl := run_call_load (P := Tryz.prog) Tryz.func151 (by kernel_rfl) (by kernel_rfl) (by kernel_rfl) .u32 (by kernel_rfl) (bk_cell hb 0 _ rfl)
  have SL := o_slow b T x2 x3 x4 w hb Q hf
  have hnot : ∀ (x : Bool) (w : World), (Op.unary .not (.bool x)).run Tryz.prog w = .ok (.bool (!x)) w := fun _ _ => rfl
  clear hb hf
  go_enter Tryz.func103, Tryz.ntmps103
  go_wp2_with (first | (go_at_call 124; refine SL.mono ?_; rintro e w' ⟨rfl, hw'⟩) | (go_at_call 123; go_in))
  go_end0
  exact ⟨rfl, hw'⟩
end Te
end Go.Proofs.YtigfcchblfnnbaaGreatDoor
namespace Go.Proofs.YtigfcchblfnnbaaGreatDoor
open Go Go.RowKit
set_option linter.all false
namespace Te
open Tk (mem_own append_new)
/-- marks and what stands in for them -/
abbrev Mk := List (UInt8 × Bs)
def strs (ls : List Bs) : List Value := ls.map fun l => .string ⟨l.toArray⟩
def Mk.flat (ps : Mk) : List Bs := ps.flatMap fun p => [[p.1], p.2]
def look (ps : Mk) (c : UInt8) : Option Bs := (ps.find? fun p => p.1 == c).map (·.2)
/-- block rb is a table that says m -/
def Tab (w : World) (rb : Nat) (m : UInt8 → Option Bs) (tv : Value) : Prop := ∃ arr : Array Value, w.heap[rb]? = some (.cells arr 248 (0, 0)) ∧ arr.size = 257 ∧ arr[256]? = some tv ∧
  ∀ c : UInt8, (m c = none → arr[c.toNat]? = some (.slice none 0 0)) ∧ (∀ n, m c = some n → ∃ g cap, g ≠ rb ∧ arr[c.toNat]? = some (.slice (some ⟨g, 0, none⟩) n.length cap) ∧ n.length ≤ cap ∧ BRow w g 5 n)
/-- the marks as they are given -/
structure OldNew (w : World) (og : Nat) (ps : Mk) : Prop where
  lt : og < w.heap.size
  old : ∀ j p, ps[j]? = some p → w.cell? ⟨og, 2 * j, none⟩ = some (.string ⟨#[p.1]⟩)
  new : ∀ j p, ps[j]? = some p → w.cell? ⟨og, 2 * j + 1, none⟩ = some (.string ⟨p.2.toArray⟩)
theorem OldNew.pur {w w' : World} {og : Nat} {ps : Mk} (h : OldNew w og ps) (hp : Pur w w') : OldNew w' og ps :=
  ⟨Nat.lt_of_lt_of_le h.lt hp.size, fun j p e => cell_pur (h.old j p e) hp, fun j p e => cell_pur (h.new j p e) hp⟩
theorem zc_eq : Tryz.zeroCells248 = Array.replicate 257 (.slice none 0 0) := by kernel_rfl
theorem bsr_size : (Tryz.prog.info? 248).map (·.size) = some 257 := by kernel_rfl
theorem bsr_store (W : World) (p : Option Addr) (n c : Nat) : (storeCells ⟨W.heap.size, 0, none⟩ (Tryz.zeroCells248.toList.set 256 (.slice p n c))).run Tryz.prog (W.alloc (.cells Tryz.zeroCells248 248)) = .ok () (W.alloc (.cells (Tryz.zeroCells248.setIfInBounds 256 (.slice p n c)) 248)) := by
  have h := run_storeCells_new (P := Tryz.prog) W 248 Tryz.zeroCells248 (Tryz.zeroCells248.setIfInBounds 256 (.slice p n c)) (by rw [bsr_size, Array.size_setIfInBounds, zc_eq, Array.size_replicate]) (by rw [Array.size_setIfInBounds]) (by
    rw [zc_eq, Array.all_eq_true]
    intro i hi
    have hi2 : i < (Array.replicate 257 (Value.slice none 0 0)).size := by rw [Array.size_setIfInBounds] at hi; exact hi
    rw [Array.getElem_setIfInBounds hi2]
    split
    · rfl
    · rw [Array.getElem_replicate]; rfl)
  rw [Array.toList_setIfInBounds] at h
  exact h
theorem st_info : (Tryz.prog.info? 9).map (fun i => (i.zero, i.size, i.bytes)) = some (some (.string ⟨#[]⟩), 1, 16) := by kernel_rfl
theorem st_info1 : (Tryz.prog.info? 9).map (fun i => (i.zero.map (·.cells.size), i.size, i.bytes)) = some (some 1, 1, 16) := by kernel_rfl
theorem look_none {ps : Mk} {c : UInt8} (h : c ∉ ps.map Prod.fst) : look ps c = none := by
  unfold look
  rw [Option.map_eq_none_iff, List.find?_eq_none]
  intro p hp e
  exact h (List.mem_map.2 ⟨p, hp, by simpa using e⟩)
theorem look_cons (p : UInt8 × Bs) (ps : Mk) (c : UInt8) : look (p :: ps) c = if p.1 = c then some p.2 else look ps c := by
  unfold look
  rw [List.find?_cons]
  by_cases h : p.1 = c
  · simp [h]
  · rw [show (p.1 == c) = false by simpa using h, if_neg h]
theorem _root_.Go.Proofs.YtigfcchblfnnbaaGreatDoor.BRow.same {w w' : World} {g : Nat} {e : TypeId} {l : List UInt8} (h : BRow w g e l) (he : w'.heap[g]? = w.heap[g]?) : BRow w' g e l := by
  obtain ⟨C, f, h1, h2⟩ := h
  exact ⟨C, f, he.trans h1, h2⟩
set_option maxRecDepth 100000 in
set_option maxHeartbeats 16000000 in
theorem build_any (ps : Mk) (b og oc : Nat) (w : World) (ho : OldNew w og ps) (hb : w.cell? ⟨b, 4, none⟩ = some (.slice (some ⟨og, 0, none⟩) (2 * ps.length) oc)) (h2 : 2 ≤ ps.length) (hl : ps.length ≤ 100) (hoc : 2 * ps.length ≤ oc)
    (hd : (ps.map Prod.fst).Nodup) (hn : ∀ p ∈ ps, p.2.length ≠ 1 ∧ p.2.length ≤ 100) :
    Calls Tryz.prog 125 #[.pointer (some ⟨b, 0, none⟩)] w fun e w' => ∃ rb tv, e = .returned (.iface 249 (.pointer (some ⟨rb, 0, none⟩))) ∧ Pur w w' ∧ w.heap.size ≤ rb ∧ Tab w' rb (look ps) tv ∧
      w'.ownsRow w.heap.size 9 1 tv ps.length (strs (ps.reverse.map fun p => [p.1])) := by
  have FO : ∀ j p, ps[j]? = some p → ∀ W, Pur w W → W.cell? ⟨og, 2 * j, none⟩ = some (.string ⟨#[p.1]⟩) ∧ W.cell? ⟨og, 2 * j + 1, none⟩ = some (.string ⟨p.2.toArray⟩) := fun j p e W hp => ⟨(ho.pur hp).old j p e, (ho.pur hp).new j p e⟩
  have d2 : ((2 : Int) * ps.length == 2) = false := by simp; omega
  have hcb := hb
  go_enter Tryz.func125, Tryz.ntmps125
  go_wp2
  go_loopw [4, 5] (fun u k wx => ∃ j : Nat, j ≤ ps.length ∧ k = .int .i64 (2 * j : Nat) ∧ u = .bool (decide (j = 0)) ∧ wx = w) (fun _ k _ => 2 * ps.length + 1 - (intOf k).toNat)
  case atStart => exact ⟨0, by omega, rfl, rfl, rfl⟩
  case round =>
    obtain ⟨j, hj, rfl, rfl, e0⟩ := hrel
    subst wr
    by_cases hlt : j < ps.length
    · obtain ⟨p, hp⟩ : ∃ p, ps[j]? = some p := ⟨_, List.getElem?_eq_getElem hlt⟩
      obtain ⟨k0, k1⟩ := FO j p hp w (Pur.refl _)
      have hpn := (hn p (List.mem_of_getElem? hp)).1
      have hlt' : ((2 * j : Nat) : Int) < 2 * ps.length := by omega
      go_wp2
      go_roundw
      case rel => exact ⟨j + 1, by omega, by go_num, by simp, trivial⟩
      case measure => simp [intOf]; omega
    · have hj2 : j = ps.length := by omega
      subst hj2
      have hz : decide (ps.length = 0) = false := decide_eq_false (by omega)
      have hlt' : ¬ ((2 * ps.length : Nat) : Int) < 2 * ps.length := by omega
      have dq : ((2 : Int) * ps.length).tdiv 2 = (ps.length : Nat) := by rw [Int.tdiv_eq_ediv_of_nonneg (by omega)]; omega
      simp only [hz]
      clear hlt hj
      obtain ⟨i0, hi0, hq0⟩ := Option.map_eq_some_iff.1 st_info
      simp only [Prod.mk.injEq] at hq0
      obtain ⟨hz0, hz1, hz2⟩ := hq0
      go_upto_region 26 with (fail)
      have ST := bsr_store
      go_wp2_with (at_make; refine wpList_make_own _ rfl _ _ 26 rfl w.heap.size 9 i0 (.string ⟨#[]⟩) 1 Tryz.underlying26 hi0 hz0 hz1 .i64 .i64 _ ps.length rfl rfl (by first | omega | exact dq | simpa using dq) (by rw [hz2]; omega) (by unfold maxLen; omega) (Nat.le_refl _) ?_; intro w1 hown1 hgrow1)
      have P1 : Pur w w1 := ((Chg.refl [] w).grown hgrow1 (fun b hb => by cases hb)).to_pur (fun b hb => by cases hb)
      obtain ⟨w2, hw2⟩ : ∃ w2, w2 = w1.alloc (.cells (Tryz.zeroCells248.setIfInBounds 256 (.slice (some ⟨w.heap.size, 0, none⟩) 0 ps.length)) 248) := ⟨_, rfl⟩
      obtain ⟨rb, hrb⟩ : ∃ rb, w1.heap.size = rb := ⟨_, rfl⟩
      have P12 : Pur w1 w2 := by rw [hw2]; exact (Pur.refl w1).alloc _
      have hbk : w2.heap[rb]? = some (.cells (Tryz.zeroCells248.setIfInBounds 256 (.slice (some ⟨w.heap.size, 0, none⟩) 0 ps.length)) 248 (0, 0)) := by rw [hw2, ← hrb]; exact bk_new w1 _
      have P2 : Pur w w2 := P1.trans P12
      have T2 : Tab w2 rb (look []) (.slice (some ⟨w.heap.size, 0, none⟩) 0 ps.length) := by
        refine ⟨_, hbk, by rw [Array.size_setIfInBounds, zc_eq, Array.size_replicate], ?_, fun c => ⟨fun _ => ?_, fun n hn => by cases hn⟩⟩
        · rw [Array.getElem?_setIfInBounds_self_of_lt (by rw [zc_eq, Array.size_replicate]; decide)]
        · have hc := UInt8.toNat_lt c
          rw [Array.getElem?_setIfInBounds_ne (by omega), zc_eq, Array.getElem?_replicate, if_pos (by omega)]
      have O2 := row_pur hown1 P12
      have hrl : w.heap.size ≤ rb := by rw [← hrb]; exact P1.size
      have hne : (Value.slice (some ⟨w.heap.size, 0, none⟩) 0 ps.length).ownBlock ≠ some rb := by
        intro e
        have e : w.heap.size = rb := by simpa [Value.ownBlock] using e
        have := (hown1.lt w.heap.size rfl).2
        rw [hrb] at this
        omega
      clear ST P1 P12 hbk hown1 hgrow1
      go_upto_region 27 with (fail)
      rw [← hw2, hrb]
      clear hw2
      have T2' := Lib.hid T2
      have O2' := Lib.hid O2
      go_wp2
      go_loopw [12] (fun k wx => ∃ (j : Nat) (tv : Value), j ≤ ps.length ∧ k = .int .i64 (2 * (j : Int) - 2) ∧ Pur w wx ∧ Tab wx rb (look (ps.drop j)) tv ∧ wx.ownsRow w.heap.size 9 1 tv (ps.length - j) (strs ((ps.drop j).reverse.map fun p => [p.1])) ∧ tv.ownBlock ≠ some rb) (fun k _ => (intOf k + 2).toNat)
      case atStart => exact ⟨ps.length, _, Nat.le_refl _, by go_num, P2, by rw [List.drop_length]; exact T2'.out, by rw [List.drop_length, Nat.sub_self]; exact O2'.out, hne⟩
      case round =>
        obtain ⟨j, tv, hj, rfl, hpr, hTab, hown, htv⟩ := hrel
        rcases j with _ | m
        · have d0 : ¬ (0 : Int) ≤ 2 * ((0 : Nat) : Int) - 2 := by decide
          go_wp2
          go_ret
          exact ⟨rb, rfl, hpr, hrl, tv, hTab, by simpa using hown⟩
        · obtain ⟨p, hp⟩ : ∃ p, ps[m]? = some p := ⟨_, List.getElem?_eq_getElem (by omega)⟩
          obtain ⟨k0, k1⟩ := FO m p hp wr hpr
          obtain ⟨hpn, hpl⟩ := hn p (List.mem_of_getElem? hp)
          have hdr : ps.drop m = p :: ps.drop (m + 1) := by
            obtain ⟨hi, e⟩ := List.getElem?_eq_some_iff.1 hp
            rw [List.drop_eq_getElem_cons hi, e]
          have hnil : look (ps.drop (m + 1)) p.1 = none := look_none (by
            have : (ps.drop m).map Prod.fst |>.Nodup := by rw [List.map_drop]; exact hd.sublist (List.drop_sublist _ _)
            rw [hdr, List.map_cons, List.nodup_cons] at this
            exact this.1)
          obtain ⟨arr, ha, hsz, h256, hc⟩ := hTab
          obtain ⟨o, nw⟩ := p
          dsimp only at k0 k1 hpn hpl hnil hdr
          have ho256 := UInt8.toNat_lt o
          have c0 := bk_cell ha o.toNat _ ((hc o).1 hnil)
          have c256 := bk_cell ha 256 _ h256
          have e2m : (2 : Int) * ((m + 1 : Nat) : Int) - 2 = ((2 * m : Nat) : Int) := by omega
          have hw1 : IntKind.i64.wrap (((2 * m : Nat) : Int) + 1) = ((2 * m + 1 : Nat) : Int) := by rw [IntWalk.i64_in _ (by omega)]; rfl
          have hlt1 : ((2 * m : Nat) : Int) < 2 * ps.length := by omega
          have hby : by8 [o] 0 = o.toNat := rfl
          obtain ⟨ta, tc, rfl⟩ := row_shape hown
          have EQ0 : ∀ W : World, (binOp .eql 75 (.slice none 0 0) (.slice none 0 0)).run Tryz.prog W = .ok (.bool true) W := fun W => Lib.run_eql_slice_nil W 75 5 none 0 0 0 0 Tryz.underlying75
          rw [e2m]
          go_upto_region 33 with (fail)
          have p3 : Pur wr (wr.alloc (.cells #[.int .u8 (o.toNat : Int)] 5)) := (Pur.refl wr).alloc _
          have hown3 := row_pur hown p3
          have hB3 := (hpr.trans p3).size
          clear c0 EQ0
          go_wp2_with (at_builtin; refine append_new (wr.alloc (.cells #[.int .u8 (o.toNat : Int)] 5)) rfl _ _ 26 9 1 16 st_info1 Tryz.underlying26 (by decide) (by decide) (by rfl) w.heap.size _ (ps.length - (m + 1)) _ _ _ [.string ⟨#[B8 (o.toNat : Int)]⟩] rfl ?c1 (by rfl) (wr.heap.size + 1) (by show _ = (Array.push _ _).size; rw [Array.size_push]) (by rfl) hown3 (by omega) hB3 ?_)
          case c1 => exact fun u hu => by simp at hu; subst hu; rfl
          intro v4 w4 hown4 hg4 hl4
          have hstr : B8 (o.toNat : Int) = o := by simp [B8]
          rw [hstr] at hown4 hg4
          clear hstr
          obtain ⟨a4, c4, rfl⟩ := row_shape hown4
          have hc4 : Chg (Value.ownBlock (.slice ta (ps.length - (m + 1)) tc)).toList wr w4 := ((Chg.of_pur p3).alloc _).grown hg4 (fun b hb => .inl (by simp [hb]))
          have hrbn : rb ∉ (Value.ownBlock (.slice ta (ps.length - (m + 1)) tc)).toList := fun e => htv (mem_own.1 e)
          have ha4 := bk_chg ha hc4 hrbn
          have f4 := fun i => bk_free ha4 i
          have c256' := bk_cell ha4 256 _ h256
          have htv4 : (Value.slice a4 (ps.length - (m + 1) + 1) c4).ownBlock ≠ some rb := by
            rcases hl4 with e | e
            · rw [e]; exact htv
            · rw [e]
              intro e2
              have e2 := Option.some.inj e2
              have := bk_lt ha
              have := p3.size
              omega
          obtain ⟨w5, hw5⟩ : ∃ w5, w5 = w4.setCell ⟨rb, 256, none⟩ (.slice a4 (ps.length - (m + 1) + 1) c4) := ⟨_, rfl⟩
          have ha5 : w5.heap[rb]? = some (.cells (arr.setIfInBounds 256 (.slice a4 (ps.length - (m + 1) + 1) c4)) 248 (0, 0)) := by rw [hw5]; exact bk_set ha4 256 (.slice a4 (ps.length - (m + 1) + 1) c4)
          have hlow : ∀ x ∈ (Value.ownBlock (.slice ta (ps.length - (m + 1)) tc)).toList, w.heap.size ≤ x := fun x hx => (hown.lt x (mem_own.1 hx)).1
          have P4 : Pur w w4 := pur_chgS hpr hc4 hlow
          have P5 : Pur w w5 := by rw [hw5]; exact P4.setCell hrl _
          have o5 : w5.ownsRow w.heap.size 9 1 (.slice a4 (ps.length - (m + 1) + 1) c4) (ps.length - (m + 1) + 1) (strs ((ps.drop (m + 1)).reverse.map fun p => [p.1]) ++ [Value.string ⟨#[o]⟩]) := by
            have hown4' : w4.ownsRow w.heap.size 9 1 (.slice a4 (ps.length - (m + 1) + 1) c4) (ps.length - (m + 1) + 1) (strs ((ps.drop (m + 1)).reverse.map fun p => [p.1]) ++ [Value.string ⟨#[o]⟩]) := by first | exact hown4 | simpa [strs, List.map_drop, List.map_reverse] using hown4
            rw [hw5]; exact row_chg hown4' (S := [rb]) ((Chg.refl _ w4).setCell (.inl (by simp)) _) (fun g hg hm => htv4 (by rw [hg, List.mem_singleton.1 hm]))
          have B5 : ∀ g n, BRow wr g 5 n → g ≠ rb → BRow w5 g 5 n := fun g n hb hne => by
            have hgt : g ∉ (Value.ownBlock (.slice ta (ps.length - (m + 1)) tc)).toList := fun e => by
              obtain ⟨C, h1⟩ := own_type hown (mem_own.1 e)
              obtain ⟨C2, f2, h2, -⟩ := hb
              rw [h1] at h2; simp at h2
            refine BRow.same hb ?_
            rw [hw5, RowKit.Below.heap_setCell _ _ _ _ (fun e => hne e)]
            exact hc4.block g hb.lt hgt
          have HC6 : ∀ W, Pur w5 W → W.cell? ⟨rb, o.toNat, none⟩ = some (.slice none 0 0) := fun W hp => bk_cell (bk_pur ha5 hp) o.toNat (.slice none 0 0) (by rw [Array.getElem?_setIfInBounds_ne (by omega)]; exact (hc o).1 hnil)
          have HF6 : ∀ W, Pur w5 W → ∀ i, W.frozen? ⟨rb, i, none⟩ = false := fun W hp i => bk_free (bk_pur ha5 hp) i
          clear c256
          go_upto_region 34 with (fail)
          rw [← hw5]
          clear f4 c256'
          go_wp2_with (refine wpList_bytes rfl _ 9 75 5 rfl _ rfl Tryz.underlying9 Tryz.underlying75 Tryz.underlying5 ?_; intro cap w6 p6 hrow6 hcap6; have f6 := HF6 w6 p6; have c6 := HC6 w6 p6)
          have ha6 := bk_pur ha5 p6
          have hrb5 : rb < w5.heap.size := bk_lt ha5
          have hlen5 : ps.length - (m + 1) + 1 = ps.length - m := by omega
          have hst5 : strs ((ps.drop (m + 1)).reverse.map fun p => [p.1]) ++ [Value.string ⟨#[o]⟩] = strs ((ps.drop m).reverse.map fun p => [p.1]) := by rw [hdr]; simp [strs]
          have hno6 : (Value.slice a4 (ps.length - (m + 1) + 1) c4).ownBlock ≠ some rb := htv4
          have e2k : ((2 * m : Nat) : Int) - 2 = 2 * (m : Int) - 2 := by omega
          go_roundw
          case rel =>
            refine ⟨m, .slice a4 (ps.length - (m + 1) + 1) c4, by omega, by go_num, (P5.trans p6).setCell hrl _, ?_, ?_, hno6⟩
            · refine ⟨_, bk_set ha6 o.toNat _, by rw [Array.size_setIfInBounds, Array.size_setIfInBounds]; exact hsz, ?_, fun c => ?_⟩
              · rw [Array.getElem?_setIfInBounds_ne (by omega), Array.getElem?_setIfInBounds_self_of_lt (by omega)]
              · rw [hdr, look_cons]
                by_cases hoc' : o = c
                · subst hoc'
                  rw [if_pos rfl]
                  refine ⟨fun h => (by cases h), fun n hn' => ?_⟩
                  cases hn'
                  have h45 : w5.heap.size = w4.heap.size := by rw [hw5]; simp
                  rw [h45] at hrb5
                  have hrow6' : BRow w6 w4.heap.size 5 nw := by first | exact hrow6 | (rw [← h45]; exact hrow6)
                  refine ⟨w4.heap.size, cap, by omega, by rw [Array.getElem?_setIfInBounds_self_of_lt (by rw [Array.size_setIfInBounds]; omega)], hcap6, hrow6'.same ?_⟩
                  rw [RowKit.Below.heap_setCell _ _ _ _ (fun e => by have e : w4.heap.size = rb := e; omega)]
                · rw [if_neg hoc']
                  have hco : o.toNat ≠ c.toNat := fun e => hoc' (UInt8.toNat_inj.1 e)
                  have hcl := UInt8.toNat_lt c
                  rw [Array.getElem?_setIfInBounds_ne hco, Array.getElem?_setIfInBounds_ne (by omega)]
                  refine ⟨(hc c).1, fun n hn' => ?_⟩
                  obtain ⟨g, cp, h1, h2', h3, h4⟩ := (hc c).2 n hn'
                  refine ⟨g, cp, h1, h2', h3, ((B5 g n h4 h1).pur p6).same ?_⟩
                  rw [RowKit.Below.heap_setCell _ _ _ _ (fun e => h1 e)]
            · rw [← hst5, ← hlen5]
              exact row_chg (row_pur o5 p6) (S := [rb]) ((Chg.refl _ w6).setCell (.inl (by simp)) _) (fun g hg hm => htv4 (by rw [hg, List.mem_singleton.1 hm]))
          case measure => simp [intOf]; omega
end Te
end Go.Proofs.YtigfcchblfnnbaaGreatDoor
namespace Go.Proofs.YtigfcchblfnnbaaGreatDoor
open Go Go.RowKit
set_option linter.all false
namespace Te
open Tk (mem_own append_new)
theorem Tab.chg {S : List Nat} {w w' : World} {rb : Nat} {m : UInt8 → Option Bs} {tv : Value} (h : Tab w rb m tv) (hc : Chg S w w') (hr : rb ∉ S) (hS : ∀ b ∈ S, ∀ C f, w.heap[b]? ≠ some (.cells C 5 f)) : Tab w' rb m tv := by
  obtain ⟨arr, h1, h2, h3, h4⟩ := h
  refine ⟨arr, bk_chg h1 hc hr, h2, h3, fun c => ⟨(h4 c).1, fun n hn => ?_⟩⟩
  obtain ⟨g, cap, k1, k2, k3, k4⟩ := (h4 c).2 n hn
  refine ⟨g, cap, k1, k2, k3, k4.same (hc.block g k4.lt fun hm => ?_)⟩
  obtain ⟨C, f, e, -⟩ := k4
  exact hS g hm C f e
theorem Tab.pur {w w' : World} {rb : Nat} {m : UInt8 → Option Bs} {tv : Value} (h : Tab w rb m tv) (hp : Pur w w') : Tab w' rb m tv := h.chg (S := []) (Chg.of_pur hp) (by simp) (fun b hb => by cases hb)
set_option maxRecDepth 100000 in
set_option maxHeartbeats 8000000 in
theorem buildOnce_any (ps : Mk) (b og oc : Nat) (x2 x3 : Value) (w : World) (ho : OldNew w og ps) (hb : w.heap[b]? = some (.cells #[.int .u32 0, .int .i32 1, x2, x3, .slice (some ⟨og, 0, none⟩) (2 * ps.length) oc] 191 (0, 0)))
    (h2 : 2 ≤ ps.length) (hl : ps.length ≤ 100) (hoc : 2 * ps.length ≤ oc) (hd : (ps.map Prod.fst).Nodup) (hn : ∀ p ∈ ps, p.2.length ≠ 1 ∧ p.2.length ≤ 100) :
    Calls Tryz.prog 104 #[.pointer (some ⟨b, 0, none⟩)] w fun e w' => e = .returned (.tuple #[]) ∧ ∃ y3 y4, w'.heap[b]? = some (.cells #[.int .u32 0, .int .i32 1, x2, y3, y4] 191 (0, 0)) ∧
      (∃ rb tv, y3 = .iface 249 (.pointer (some ⟨rb, 0, none⟩)) ∧ Chg [b] w w' ∧ w.heap.size ≤ rb ∧ Tab w' rb (look ps) tv ∧ w'.ownsRow w.heap.size 9 1 tv ps.length (strs (ps.reverse.map fun p => [p.1]))) := by
  have BU := build_any ps b og oc w ho (bk_cell hb 4 _ rfl) h2 hl hoc hd hn
  have hbl := bk_lt hb
  clear hn hd ho
  go_enter Tryz.func104, Tryz.ntmps104
  go_wp2_with fail
  refine BU.mono ?_
  rintro e w1 ⟨rb, tv, rfl, p1, hrl, hT, hown⟩
  have hb1 := bk_pur hb p1
  have f1 := fun i => bk_free hb1 i
  have c3 := bk_cell hb1 3 _ rfl
  have hb2 := bk_set hb1 3 (.iface 249 (.pointer (some ⟨rb, 0, none⟩)))
  have f2 := fun i => bk_free hb2 i
  have c4 := bk_cell hb2 4 _ rfl
  have hb3 := bk_set hb2 4 (.slice none 0 0)
  have hc : Chg [b] w1 ((w1.setCell ⟨b, 3, none⟩ (.iface 249 (.pointer (some ⟨rb, 0, none⟩)))).setCell ⟨b, 4, none⟩ (.slice none 0 0)) := ((Chg.refl _ w1).setCell (.inl (by simp)) _).setCell (.inl (by simp)) _
  clear BU
  go_wp2
  go_end0
  refine ⟨rfl, _, _, hb3, rb, tv, rfl, (Chg.of_pur p1).trans hc, hrl, hT.chg hc (by simp; omega) (fun x hx C f e => ?_), row_chg hown hc (fun g hg hm => by have := (hown.lt g hg).1; have := List.mem_singleton.1 hm; omega)⟩
  obtain rfl := List.mem_singleton.1 hx
  rw [hb1] at e
  simp at e
end Te
end Go.Proofs.YtigfcchblfnnbaaGreatDoor
namespace Go.Proofs.YtigfcchblfnnbaaGreatDoor
open Go Go.RowKit
set_option linter.all false
namespace Te
open Tk (mem_own append_new)
theorem flat_at (ps : Mk) (j : Nat) : (Mk.flat ps)[2 * j]? = (ps[j]?).map (fun p => [p.1]) ∧ (Mk.flat ps)[2 * j + 1]? = (ps[j]?).map (fun p => p.2) := by
  induction ps generalizing j with
  | nil => simp [Mk.flat]
  | cons p ps ih =>
    cases j with
    | zero => simp [Mk.flat]
    | succ j =>
      have := ih j
      unfold Mk.flat at *
      rw [List.flatMap_cons, show 2 * (j + 1) = 2 * j + 2 by omega]
      simpa using this
theorem flat_len (ps : Mk) : (Mk.flat ps).length = 2 * ps.length := by
  induction ps with
  | nil => rfl
  | cons p ps ih => unfold Mk.flat at *; rw [List.flatMap_cons, List.length_append, ih]; simp; omega
set_option maxRecDepth 100000 in
set_option maxHeartbeats 8000000 in
theorem newReplacer_any (ps : Mk) (mg mc : Nat) (w : World) (ho : OldNew w mg ps) (h2 : 2 ≤ ps.length) (hl : ps.length ≤ 100) :
    Calls Tryz.prog 74 #[.slice (some ⟨mg, 0, none⟩) (2 * ps.length) mc] w fun e w' => ∃ b og oc, e = .returned (.pointer (some ⟨b, 0, none⟩)) ∧ Pur w w' ∧ w.heap.size ≤ b ∧
      w'.heap[b]? = some (.cells #[.int .u32 0, .int .i32 0, .int .u32 0, .nilIface, .slice (some ⟨og, 0, none⟩) (2 * ps.length) oc] 191 (0, 0)) ∧ OldNew w' og ps ∧ 2 * ps.length ≤ oc := by
  have d1 : (((2 : Int) * ps.length).tmod 2 == 1) = false := by
    rw [Int.tmod_eq_emod_of_nonneg (by omega)]; simp
  obtain ⟨i0, hi0, hq0⟩ := Option.map_eq_some_iff.1 st_info
  simp only [Prod.mk.injEq] at hq0
  obtain ⟨hz0, hz1, hz2⟩ := hq0
  have hfe : Feeds w 1 (some ⟨mg, 0, none⟩) (2 * ps.length) (strs (Mk.flat ps)) := by
    refine ⟨by unfold strs; rw [List.length_map, flat_len, Nat.mul_one], fun _ => ⟨_, rfl, fun j u hu => ?_⟩⟩
    have hadd : (⟨mg, 0, none⟩ : Addr).add j = ⟨mg, j, none⟩ := by unfold Addr.add; split <;> simp_all
    rw [hadd]
    unfold strs at hu
    rw [List.getElem?_map] at hu
    obtain ⟨l, hl1, rfl⟩ := Option.map_eq_some_iff.1 hu
    obtain ⟨k, rfl | rfl⟩ : ∃ k, j = 2 * k ∨ j = 2 * k + 1 := ⟨j / 2, by omega⟩
    · rw [(flat_at ps k).1] at hl1
      obtain ⟨p, hp, rfl⟩ := Option.map_eq_some_iff.1 hl1
      exact ho.old k p hp
    · rw [(flat_at ps k).2] at hl1
      obtain ⟨p, hp, rfl⟩ := Option.map_eq_some_iff.1 hl1
      exact ho.new k p hp
  go_enter Tryz.func74, Tryz.ntmps74
  go_wp2_with (at_builtin; refine wpList_append_feeds rfl _ _ 26 rfl w.heap.size 9 i0 (.string ⟨#[]⟩) 1 16 Tryz.underlying26 hi0 hz0 hz1 hz2 rfl (by decide) _ 0 [] rfl (World.ownsRow_nil _ _ _ _) _ _ _ (strs (Mk.flat ps)) rfl hfe (by intro u hu; unfold strs at hu; obtain ⟨l, -, rfl⟩ := List.mem_map.1 hu; rfl) (by unfold maxLen; omega) (by omega) (Nat.le_refl _) ?_)
  intro v' w1 hown1 hg1
  have P1 : Pur w w1 := ((Chg.refl [] w).grown hg1 (fun b hb => by cases hb)).to_pur (fun b hb => by cases hb)
  obtain ⟨a1, c1, rfl⟩ := row_shape hown1
  obtain ⟨og, oc, e1, hoc, hogl, hcm, hcell⟩ := row_at hown1 (by omega)
  cases e1
  have HO : ∀ W, Pur w1 W → OldNew W og ps := fun W hp => by
    have hs : ∀ j l, (Mk.flat ps)[j]? = some l → W.cell? ⟨og, j, none⟩ = some (.string ⟨l.toArray⟩) := fun j l e => cell_pur (hcell j _ (by unfold strs; rw [List.getElem?_map, e]; rfl)).1 hp
    exact ⟨Nat.lt_of_lt_of_le hogl hp.size, fun j p e => hs _ _ (by rw [(flat_at ps j).1, e]; rfl), fun j p e => hs _ _ (by rw [(flat_at ps j).2, e]; rfl)⟩
  clear hcell
  go_wp2
  go_ret
  exact ⟨_, og, _, rfl, P1.alloc _, P1.size, bk_new w1 _, HO _ ((Pur.refl w1).alloc _), by omega⟩
end Te
end Go.Proofs.YtigfcchblfnnbaaGreatDoor
