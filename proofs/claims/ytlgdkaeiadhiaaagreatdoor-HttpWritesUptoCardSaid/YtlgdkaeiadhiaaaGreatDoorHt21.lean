/- The law HttpBodies. -/
import Derived.Test.YtlgdkaeiadhiaaaGreatDoorHt19
import Derived.Laws.MakeOwn
namespace Go.Proofs.YtlgdkaeiadhiaaaGreatDoor
open Go Go.RowKit
set_option linter.all false
def bcells (l : Bytes) : Array Value := (l.map fun b => Value.int .u8 (b.toNat : Nat)).toArray
def Row8 (w : World) (B : Nat) (l : Bytes) : Prop := w.heap[B]? = some (.cells (bcells l) 5 (0, 0))
theorem Row8.cell {w : World} {B : Nat} {l : Bytes} (h : Row8 w B l) (j : Nat) (hj : j < l.length) : w.cell? ⟨B, j, none⟩ = some (.int .u8 (by8 l j)) := by
  unfold Row8 at h
  simp only [World.cell?, h, bcells, by8]
  simp [hj]
theorem Row8.free {w : World} {B : Nat} {l : Bytes} (h : Row8 w B l) (j : Nat) : w.frozen? ⟨B, j, none⟩ = false := by
  unfold Row8 at h
  simp [World.frozen?, h]
theorem Row8.store {w : World} {B : Nat} {l : Bytes} (h : Row8 w B l) (j : Nat) (b : UInt8) : Row8 (w.setCell ⟨B, j, none⟩ (.int .u8 (b.toNat : Nat))) B (l.set j b) := by
  unfold Row8 at h ⊢
  rw [heap_setCell_same w B j _ _ _ h]
  simp [bcells, List.map_set]
theorem str_of_row8 (w : World) (B cap n : Nat) (l : Bytes) (hn : l.length = n) (h : Row8 w B l) :
    (convert 49 9 (.slice (some ⟨B, 0, none⟩) n cap)).run Tryz.prog w = .ok (.string ⟨l.toArray⟩) w := by
  have hm : (l.map fun b => ((b.toNat : Nat) : Int)).map B8 = l := by
    rw [List.map_map]
    conv => rhs; rw [← List.map_id l]
    exact List.map_congr_left fun b _ => B8_toNat b
  rw [run_str_of_cells w 49 9 5 ⟨B, 0, none⟩ n cap (l.map fun b => ((b.toNat : Nat) : Int)) (by simpa using hn) Tryz.underlying49 Tryz.underlying5 Tryz.underlying9 fun j hj => ?_, hm]
  have ha : (Addr.mk B 0 none).add j = ⟨B, j, none⟩ := by unfold Addr.add; split <;> simp_all
  rw [ha, h.cell j (by omega), by8]
  subst hn
  simp [hj]
def part8 (b : UInt8) (N k : Nat) : Bytes := List.replicate k b ++ List.replicate (N - k) 0
theorem Row8.pur {w w' : World} {B : Nat} {l : Bytes} (h : Row8 w B l) (hp : Pur w w') : Row8 w' B l := bk_pur h hp
theorem part8_len (b : UInt8) (N k : Nat) (h : k ≤ N) : (part8 b N k).length = N := by simp [part8]; omega
theorem part8_set (b : UInt8) (N k : Nat) (h : k < N) : (part8 b N k).set k b = part8 b N (k + 1) := by
  unfold part8
  rw [List.set_append_right _ _ (by simp), List.length_replicate, Nat.sub_self, show N - k = (N - (k + 1)) + 1 by omega, List.replicate_succ, List.set_cons_zero, List.replicate_succ']
  simp
theorem part8_all (b : UInt8) (N : Nat) : part8 b N N = List.replicate N b := by simp [part8]
theorem respText_len' (q : Resp) (h0 : 100 ≤ q.status) (h1 : q.status ≤ 599) (h : q.body.length ≤ 4096) : (respText q).length ≤ 5000 := by
  have l1 := itoa_len q.status (by omega) (by omega)
  have l2 := itoa_len (q.body.length : Int) (by omega) (by omega)
  have l3 := reason_len q.status
  unfold respText
  have e1 : vHttp.length = 8 := rfl
  have e2 : crlf.length = 2 := rfl
  have e5 : tLength.length = 16 := rfl
  have e6 : crlf2.length = 4 := rfl
  simp only [List.length_append, List.length_cons, List.length_nil]
  omega
def bodyReq (body : Bytes) : Req := ⟨[80, 79, 83, 84], [47], [104], [], body⟩
theorem body_built (body : Bytes) (h : body.length ≤ 5000) : readReq (reqText (bodyReq body)) = if 4096 < body.length then (Req.zero, 0, 222) else (bodyReq body, (reqText (bodyReq body)).length, 0) := by
  refine readReq_built (r := bodyReq body) ⟨show okToken [80, 79, 83, 84] = true by decide, show okTarget [47] = true by decide, ⟨show okText [104] = true by decide, show trim [104] = [104] by decide⟩, ⟨show okText [] = true by decide, show trim [] = [] by decide⟩⟩ ?_ (by show body.length < _; omega)
  have l2 := itoa_len (body.length : Int) (by omega) (by omega)
  have e2 : crlf.length = 2 := rfl
  have e3 : tHost.length = 6 := rfl
  have e5 : tLength.length = 16 := rfl
  have e6 : vHttp.length = 8 := rfl
  unfold reqHead reqFirst reqLines bodyReq
  simp only [if_true, joinTail_len, List.nil_append, List.map_cons, List.map_nil, List.sum_cons, List.sum_nil, List.length_append, List.length_cons, List.length_nil]
  omega
theorem body_good (body : Bytes) (h : body.length ≤ 4096) : writeReq (bodyReq body) = (reqText (bodyReq body), 0) ∧ readReq (reqText (bodyReq body)) = (bodyReq body, (reqText (bodyReq body)).length, 0) := by
  have e := body_built body (by omega)
  rw [if_neg (by omega)] at e
  refine ⟨?_, e⟩
  unfold writeReq
  rw [if_pos e]
theorem body_bad (body : Bytes) (h : body.length ≤ 5000) (h' : 4096 < body.length) : writeReq (bodyReq body) = ([], 1) := by
  have e := body_built body h
  rw [if_pos h'] at e
  unfold writeReq
  rw [if_neg]
  rw [e]
  intro hh
  have := congrArg (fun x => x.2.2) hh
  simp at this
theorem u8_info : (Tryz.prog.info? 5).map (fun i => (i.zero.map (·.cells), i.size, i.bytes)) = some (some #[.int .u8 0], 1, 1) := by kernel_rfl
theorem made_zero (N : Nat) : madeCells #[.int .u8 0] N = bcells (List.replicate N 0) := by
  unfold madeCells bcells
  apply Array.ext
  · simp
  · intro i h1 h2
    simp [Nat.mod_one]
theorem make8 (w : World) (N : Nat) (hN : N ≤ 1000000) :
    (Instr.makeSlice 49 (.int .i64 N) (.int .i64 N)).run Tryz.prog w = .ok (.slice (some ⟨w.heap.size, 0, none⟩) N N) (w.alloc (.cells (bcells (List.replicate N 0)) 5)) := by
  obtain ⟨i, hi, h⟩ := Option.map_eq_some_iff.1 u8_info
  simp only [Prod.mk.injEq] at h
  obtain ⟨hz, hs, hb⟩ := h
  obtain ⟨z, hz, hzc⟩ := Option.map_eq_some_iff.1 hz
  have := run_makeSlice (P := Tryz.prog) w 49 5 i z Tryz.underlying49 hi hz .i64 .i64 N N (by omega) (by omega) (by rw [hs]; simp; omega) (by rw [hb]; omega) (by omega)
  rw [this, hzc, hs, ← made_zero]
  simp
set_option maxRecDepth 100000 in
set_option maxHeartbeats 4000000 in
theorem bodies_law (n : Int) (b : UInt8) (w : World) (hW : HW w) (hn0 : 0 ≤ n) (hn1 : n ≤ 255) :
    Calls Tryz.prog 8 #[.int .u8 n, .int .u8 (b.toNat : Nat)] w fun e w' => e = .returned (.bool true) ∧ Pur w w' := by
  obtain ⟨m, hm⟩ : ∃ m : Nat, n % 12 = m := ⟨(n % 12).toNat, by omega⟩
  have hm12 : m < 12 := by omega
  have hmt : n.tmod 12 = m := by rw [Int.tmod_eq_emod_of_nonneg hn0]; exact hm
  obtain ⟨N, hN⟩ : ∃ N : Nat, (4090 : Int) + m = N := ⟨4090 + m, by omega⟩
  have hN0 : 4090 ≤ N := by omega
  have hN1 : N ≤ 4101 := by omega
  have PZ := Lib.hid (show part8 b N 0 = List.replicate N 0 by simp [part8])
  go_enter Tryz.func8, Tryz.ntmps8
  go_wp2_with fail
  refine (awake_any _ hW).mono ?_
  rintro e w0 ⟨rfl, h0⟩
  have MK := make8 w0 N (by omega)
  go_wp2
  clear MK hm hmt hN hm12
  have hw1 := (Pur.refl w0).alloc (.cells (bcells (List.replicate N 0)) 5)
  go_loopw [6, 27] (fun _ i wr => ∃ k : Nat, k ≤ N ∧ i = .int .i64 k ∧ Row8 wr w0.heap.size (part8 b N k) ∧ Pur w0 wr) (fun _ i _ => N + 1 - (intOf i).toNat)
  case atStart => exact ⟨0, by omega, rfl, by rw [PZ.out]; exact bk_new _ _, hw1⟩
  case round =>
    obtain ⟨k, hk, rfl, hrow, hpr⟩ := hrel
    by_cases hlt : k < N
    · have hlen := part8_len b N k hk
      have c := hrow.cell k (by omega)
      have f := hrow.free k
      have hst := hrow.store k b
      rw [part8_set b N k hlt] at hst
      have HS := Lib.hid hst
      clear hst hrow
      go_wp2
      go_roundw
      case rel => exact ⟨k + 1, by omega, by go_num, HS.out, hpr.setCell (Nat.le_refl _) _⟩
      case measure => simp [intOf]; omega
    · obtain rfl : N = k := by omega
      rw [part8_all] at hrow
      clear hw1 PZ hlt
      obtain ⟨body, hbd⟩ : ∃ body : Bytes, List.replicate N b = body := ⟨_, rfl⟩
      have hbl : body.length = N := by rw [← hbd]; simp
      rw [hbd] at hrow
      clear hbd
      have c1 := str_of_row8 wr w0.heap.size N N body hbl hrow
      by_cases hbig : 4096 < N
      · have W1 := writereq_lit (bodyReq body) [] 1 (body_bad body (by omega) (by omega)) (by show 4 + 1 + 1 + 0 + body.length ≤ _; omega)
        have W2 := writeresp_lit ⟨200, body⟩ [] 1 (by unfold writeResp; rw [if_pos (by simp only; omega)]) (by show body.length ≤ _; omega) (by simp only; omega) (by simp only; omega)
        have d1 : decide ((4096 : Int) < N) = true := decide_eq_true (by omega)
        simp only [bodyReq] at W1
        clear hbig
        go_wp2_with fail
        refine (W1 _ (hW.pur ((h0.trans hpr).alloc _))).mono ?_
        rintro e w2 ⟨rfl, h2⟩
        have hp2 := ((h0.trans hpr).alloc _).trans h2
        have c2 := str_of_row8 w2 w0.heap.size N N body hbl ((hrow.pur ((Pur.refl _).alloc _)).pur h2)
        clear c1
        go_wp2_with fail
        refine (W2 _ (hW.pur hp2)).mono ?_
        rintro e w3 ⟨rfl, h3⟩
        clear c2
        go_wp2
        go_ret
        exact ⟨rfl, hp2.trans h3⟩
      · obtain ⟨g1, g2⟩ := body_good body (by omega)
        have W1 := writereq_lit (bodyReq body) _ 0 g1 (by show 4 + 1 + 1 + 0 + body.length ≤ _; omega)
        have g3 : writeResp ⟨200, body⟩ = (respText ⟨200, body⟩, 0) := by unfold writeResp; rw [if_neg (by simp only; omega)]
        have W2 := writeresp_lit ⟨200, body⟩ _ 0 g3 (by show body.length ≤ _; omega) (by simp only; omega) (by simp only; omega)
        have hl1 := reqText_len (bodyReq body) (by show 4 + 1 + 1 + 0 + body.length ≤ _; omega)
        have hl2 := respText_len' ⟨200, body⟩ (by simp only; omega) (by simp only; omega) (by show body.length ≤ _; omega)
        have R1 := readreq_lit _ _ _ _ g2 (by omega)
        have R2 := readresp_lit _ _ _ _ (readResp_built (r := ⟨200, body⟩) (by simp only; omega) (by simp only; omega) (by show body.length ≤ _; omega)).1 (by omega)
        have d1 : decide ((4096 : Int) < N) = false := decide_eq_false (by omega)
        have te1 : reqEq ⟨[80, 79, 83, 84], [47], [104], [], body⟩ ⟨[80, 79, 83, 84], [47], [104], [], body⟩ = true := by simp [reqEq]
        clear g1 g2 g3
        generalize reqText (bodyReq body) = s1 at *
        generalize respText ⟨200, body⟩ = s2 at *
        simp only [bodyReq] at W1 R1
        clear hbig
        go_wp2_with fail
        refine (W1 _ (hW.pur ((h0.trans hpr).alloc _))).mono ?_
        rintro e w2 ⟨rfl, h2⟩
        have hp2 := ((h0.trans hpr).alloc _).trans h2
        have c2 := str_of_row8 w2 w0.heap.size N N body hbl ((hrow.pur ((Pur.refl _).alloc _)).pur h2)
        have j2 := bk_pur (bk_new _ _) h2
        clear c1 h2 hrow W1
        go_wp2_with fail
        refine (W2 _ (hW.pur hp2)).mono ?_
        rintro e w3 ⟨rfl, h3⟩
        have j3 := bk_pur j2 h3
        have hp3 := hp2.trans h3
        clear c2 j2 h3 hp2 W2
        go_wp2_with fail
        refine (R1 _ (hW.pur hp3)).mono ?_
        rintro e w4 ⟨rfl, h4⟩
        have j4 := bk_pur j3 h4
        have hp4 := hp3.trans h4
        clear j3 hp3 h4 R1
        go_wp2_with fail
        refine (R2 _ (hW.pur (hp4.alloc _))).mono ?_
        rintro e w5 ⟨rfl, h5⟩
        have i5 := bk_pur (bk_new _ _) h5
        have j5 := bk_pur (bk_alloc j4 _) h5
        have z5 := bk_lt j5
        have z5' := bk_lt i5
        obtain ⟨c0, c1, c2, c3, c4, f0, f1, f2, f3, f4⟩ := blk5 j5
        obtain ⟨k0, k1, k2, k3, k4, l0, l1, l2, l3, l4⟩ := blk5 i5
        have K := Lib.hid (((hp4.alloc _).trans h5).alloc (.cells #[.int .i64 200, .string ⟨body.toArray⟩] 31))
        clear i5 j5 j4 hp4 h5 R2 hW h0 hpr
        go_wp2
        go_ret
        exact ⟨rfl, K.out⟩
theorem bodies_int (n c : Int) (w : World) (hW : HW w) (hn0 : 0 ≤ n) (hn1 : n ≤ 255) (hc0 : 0 ≤ c) (hc1 : c ≤ 255) :
    Calls Tryz.prog 8 #[.int .u8 n, .int .u8 c] w fun e w' => e = .returned (.bool true) ∧ Pur w w' := by
  have e : ((UInt8.ofNat c.toNat).toNat : Int) = c := by
    rw [UInt8.toNat_ofNat']
    omega
  have := bodies_law n (UInt8.ofNat c.toNat) w hW hn0 hn1
  rw [e] at this
  exact this
end Go.Proofs.YtlgdkaeiadhiaaaGreatDoor
