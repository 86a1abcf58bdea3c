/- Layer 3: Canon's writer. -/
import Derived.Test.YtigfcchblfnnbaaGreatDoorTeK
import Derived.Deep.CutRange
import Derived.Deep.DeepCutAuto
namespace Go.Proofs.YtigfcchblfnnbaaGreatDoor
open Go Go.RowKit
set_option linter.all false
namespace Te
open Tk (str_law key_lit ints mem_own)
theorem Bw.uniq {w : World} {B b : Nat} {v v' : Value} {a a' : Bs} (h : Bw w B b v a) (k : Bw w B b v' a') : v = v' := by
  obtain ⟨p, -, h1⟩ := h.own
  obtain ⟨p', -, h2⟩ := k.own
  rw [h1] at h2
  simp at h2
  exact h2.2
theorem Wr.went {w0 w wx w' : World} {B b : Nat} {v v1 : Value} {acc acc2 : Bs} {c4 c5 c8 : Nat} {tv : Value} {nc : Array Value} (h : Wr w0 w wx B b v acc c4 c5 c8 tv nc) (hB : w0.heap.size ≤ B) (h1 : Bw wx B b v1 acc) (k : Wrote wx B b v1 w' acc2) : Wr w0 w w' B b v acc2 c4 c5 c8 tv nc :=
  h.step hB fun v2 h2 => by rw [h2.uniq h1]; exact k
theorem Wr.name {w0 w wx : World} {B b : Nat} {v : Value} {acc : Bs} {c4 c5 c8 : Nat} {tv : Value} {nc : Array Value} (h : Wr w0 w wx B b v acc c4 c5 c8 tv nc) : ∃ x, x = wx ∧ Wr w0 w x B b v acc c4 c5 c8 tv nc := ⟨wx, rfl, h⟩
theorem int_wf (a : Int) (h : 0 ≤ a ∧ a ≤ 1000000000) : (Lit.int .i64 a).wf = true := by
  have h1 : IntKind.i64.min = -9223372036854775808 := rfl
  have h2 : IntKind.i64.max = 9223372036854775807 := rfl
  simp only [Lit.wf, h1, h2, Bool.and_eq_true, decide_eq_true_eq]
  omega
theorem alloc_sz (w : World) (o : Obj) : (w.alloc o).heap.size = w.heap.size + 1 := Array.size_push _
theorem putB_le (nm v : Bs) : (putB nm v).length ≤ nm.length + 6 * v.length + 4 := by
  have := escV_le v
  unfold putB
  simp only [List.length_append, List.length_cons, List.length_nil]
  omega
theorem digs_le (n : Nat) (h : n ≤ 1000000000) : (digs n).length ≤ 21 := Lib.itoa_length_le n (by omega) (by omega)
/-- how a node is written -/
theorem writeB_text (ns : List NodeV) (f i : Nat) (sp : Bs) (n : NodeV) (h : ns[i]? = some n) (hl : n.lo = []) : writeB ns (f + 1) i sp = escB markT n.text := by
  rw [writeB, h]; dsimp only; rw [if_pos hl]
theorem writeB_elem (ns : List NodeV) (f i : Nat) (sp : Bs) (n : NodeV) (h : ns[i]? = some n) (hl : n.lo ≠ []) : writeB ns (f + 1) i sp =
    ([60] ++ nameB n) ++ ((if n.sp ≠ sp ∧ n.sp ≠ xmlS then putB tXmlns n.sp else []) ++ (declB (pfxGo [] n.ex) 0 ++ (n.ex.flatMap (attrB (pfxGo [] n.ex)) ++
      (if kids ns i = [] then [47, 62] else [62] ++ ((kids ns i).flatMap (fun k => writeB ns f k (spaceB n sp)) ++ ([60, 47] ++ nameB n ++ [62])))))) := by
  rw [writeB, h]
  dsimp only
  rw [if_neg hl]
  unfold headB declB
  dsimp only
  split <;> split <;> simp [List.append_assoc]
theorem kids_in (ns : List NodeV) (i : Int) : ∀ (l : List NodeV) (k j : Nat), j ∈ kidsGo i l k → ∃ n, l[j - k]? = some n ∧ n.par = i ∧ k ≤ j
  | [], _, _, h => by simp [kidsGo] at h
  | n :: r, k, j, h => by
    rw [kidsGo] at h
    split at h
    · rename_i hp
      rcases List.mem_cons.1 h with rfl | h
      · exact ⟨n, by simp, hp, Nat.le_refl _⟩
      · obtain ⟨m, h1, h2, h3⟩ := kids_in ns i r (k + 1) j h
        exact ⟨m, by rw [show j - k = (j - (k + 1)) + 1 by omega, List.getElem?_cons_succ]; exact h1, h2, by omega⟩
    · obtain ⟨m, h1, h2, h3⟩ := kids_in ns i r (k + 1) j h
      exact ⟨m, by rw [show j - k = (j - (k + 1)) + 1 by omega, List.getElem?_cons_succ]; exact h1, h2, by omega⟩
theorem kids_len (i : Int) : ∀ (l : List NodeV) (k : Nat), (kidsGo i l k).length ≤ l.length
  | [], _ => by simp [kidsGo]
  | n :: r, k => by
    have := kids_len i r (k + 1)
    rw [kidsGo]
    split <;> simp <;> omega
theorem flat_take {α : Type} (g : α → Bs) (l : List α) (j : Nat) (x : α) (h : l[j]? = some x) : (l.take (j + 1)).flatMap g = (l.take j).flatMap g ++ g x ∧ ((l.take j).flatMap g).length + (g x).length ≤ (l.flatMap g).length := by
  have e : (l.take (j + 1)).flatMap g = (l.take j).flatMap g ++ g x := by rw [List.take_succ, h, List.flatMap_append]; simp
  refine ⟨e, ?_⟩
  have e2 : (l.flatMap g).length = ((l.take (j + 1)).flatMap g).length + ((l.drop (j + 1)).flatMap g).length := by
    conv => lhs; rw [← List.take_append_drop (j + 1) l]
    rw [List.flatMap_append, List.length_append]
  rw [e2, e, List.length_append]; omega
set_option maxRecDepth 100000 in
set_option maxHeartbeats 40000000 in
theorem write_any (ns : List NodeV) (v : Value) (w0 : World) (B b : Nat) (hN : NRead w0 v ns) (hX : XW w0) (hB0 : w0.heap.size = B) (hwf : ∀ (k : Nat) n, ns[k]? = some n → n.par < (k : Int)) (hb : ∀ n ∈ ns, NodeB n ∧ n.ex.length ≤ 100000) (hl : ns.length ≤ 1000000) :
    ∀ (f i : Nat) (sp acc : Bs) (w : World) (bv : Value), ns.length ≤ i + f → i < ns.length → Pur w0 w → Bw w B b bv acc → acc.length + (writeB ns f i sp).length ≤ 70368744177664 →
      Calls Tryz.prog 23 #[.pointer (some ⟨b, 0, none⟩), .agg #[v], .int .i64 (i : Int), .string ⟨sp.toArray⟩] w fun e w' => e = .returned (.tuple #[]) ∧ Wrote w B b bv w' (acc ++ writeB ns f i sp) := by
  intro f
  induction f with
  | zero => intro i sp acc w bv h1 h2; omega
  | succ f ih =>
  intro i sp acc w bv hf hi hp hbw hlen
  obtain ⟨a, c, rfl⟩ := hN.shape
  obtain ⟨-, hc, hm⟩ := hN.len
  obtain ⟨n, hn⟩ : ∃ n, ns[i]? = some n := ⟨_, List.getElem?_eq_getElem hi⟩
  obtain ⟨g, o, ea, ec, p, q, rfl, hg, HC⟩ := hN.node hn
  obtain ⟨k0, k1, k2, k3, k4, k5, k6, -⟩ := HC ((w.alloc (.cells #[.pointer (some ⟨b, 0, none⟩)] 74)).alloc (.cells #[.slice (some ⟨g, o, none⟩) ns.length c] 29)) ((hp.alloc _).alloc _)
  obtain ⟨-, -, -, -, -, -, -, hx⟩ := HC w0 (Pur.refl _)
  obtain ⟨-, hxc, hxm⟩ := hx.len
  obtain ⟨hnb, hexl⟩ := hb n (List.mem_of_getElem? hn)
  have hnsp := hnb.sp
  have hnlo := hnb.lo
  have hntx := hnb.text
  have hnex := hnb.ex
  have hi' : (i : Int) < ns.length := by omega
  have hsz := hp.size
  have hBw : B ≤ w.heap.size := by omega
  have hBB : w0.heap.size ≤ B := by omega
  have HT := Lib.hid (writeB_text ns f i sp n hn)
  have HE := Lib.hid (writeB_elem ns f i sp n hn)
  have HN := Lib.hid hn
  obtain ⟨TOT, hTOT⟩ : ∃ TOT, TOT = writeB ns (f + 1) i sp := ⟨_, rfl⟩
  rw [← hTOT] at hlen HT HE ⊢
  clear hTOT hn
  obtain ⟨nsp, lo, ex, tx, par, at_⟩ := n
  dsimp only at k0 k1 k2 k3 k4 hx hxc hxm hnsp hnlo hntx hnex hexl HT HE
  obtain ⟨wA, hwA⟩ : ∃ wA, wA = ((w.alloc (.cells #[.pointer (some ⟨b, 0, none⟩)] 74)).alloc (.cells #[.slice (some ⟨g, o, none⟩) ns.length c] 29)).alloc (.cells #[.string ⟨nsp.toArray⟩, .string ⟨lo.toArray⟩, .slice ea ex.length ec, .string ⟨tx.toArray⟩, .int .i64 par, .int .i64 p, .int .i64 q] 38) := ⟨_, rfl⟩
  obtain ⟨a, ha⟩ : ∃ a : Option Addr, a = some ⟨g, o, none⟩ := ⟨_, rfl⟩
  have hs1 : (w.alloc (.cells #[.pointer (some ⟨b, 0, none⟩)] 74)).heap.size = w.heap.size + 1 := Array.size_push _
  have hs2 : ((w.alloc (.cells #[.pointer (some ⟨b, 0, none⟩)] 74)).alloc (.cells #[.slice (some ⟨g, o, none⟩) ns.length c] 29)).heap.size = w.heap.size + 2 := by rw [alloc_sz, alloc_sz]
  have H0 : Wr w0 w wA B b bv acc w.heap.size (w.heap.size + 1) (w.heap.size + 2) (.slice a ns.length c) #[.string ⟨nsp.toArray⟩, .string ⟨lo.toArray⟩, .slice ea ex.length ec, .string ⟨tx.toArray⟩, .int .i64 par, .int .i64 p, .int .i64 q] := by
    have pA : Pur w wA := by rw [hwA]; exact (((Pur.refl w).alloc _).alloc _).alloc _
    refine ⟨Wrote.pur hbw.wrote pA, hp.trans pA, ⟨Nat.le_refl _, by omega, by omega⟩, ?_, ?_, ?_⟩
    · rw [hwA]; exact bk_alloc (bk_alloc (bk_new w _) _) _
    · rw [hwA, ha, ← hs1]; exact bk_alloc (bk_new _ _) _
    · rw [hwA, ← hs2]; exact bk_new _ _
  clear hs1 hs2
  have hszA : B ≤ wA.heap.size := by have := H0.pur.size; omega
  obtain ⟨bv0, hb0⟩ := H0.bw
  have z0 := bk_cell H0.h8 0 _ rfl
  have z1 := bk_cell H0.h8 1 _ rfl
  have z2 := bk_cell H0.h8 2 _ rfl
  have z3 := bk_cell H0.h8 3 _ rfl
  have y4 := bk_cell H0.h4 0 _ rfl
  by_cases hlo : lo = []
  · -- a text
    have hle : lo.isEmpty = true := by rw [hlo]; rfl
    have HTX := Lib.hid (HT.out hlo)
    have hel := escT_le tx
    clear HT HE hlo ih HC hnex hx
    have ES : ∀ x : PW wA, Calls Tryz.prog 39 #[.string ⟨tx.toArray⟩, .slice (some ⟨1, 0, none⟩) 8 8] x.to fun e w' => e = .returned (.string ⟨(escB markT tx).toArray⟩) ∧ Pur x.to w' := fun x => esc_T tx x.to (hX.pur (H0.pur.trans x.pur)) (by omega)
    rw [show TOT = escB markT tx from HTX.out] at hlen ⊢
    clear HTX
    generalize escB markT tx = E at *
    go_enter Tryz.func23, Tryz.ntmps23
    go_upto_region 2 with (fail)
    rw [← hwA]
    clear hwA k0 k1 k2 k3 k4 k5 k6
    have Z3 : ∀ x : PW wA, x.to.cell? ⟨w.heap.size + 2, 3, none⟩ = some (.string ⟨tx.toArray⟩) := fun x => cell_pur z3 x.pur
    have Y4 : ∀ x : PW wA, x.to.cell? ⟨w.heap.size, 0, none⟩ = some (.pointer (some ⟨b, 0, none⟩)) := fun x => cell_pur y4 x.pur
    go_upto_region 3 with (fail)
    clear z0 z1 z2 z3 y4
    refine wp_region_pur_tail 5 (by kernel_rfl) (by kernel_rfl) ?_
    simp only [List.take_succ_cons, List.take_zero, List.drop_succ_cons, List.drop_zero]
    repeat (quiet_step ((go_at_call 39; exact quiet_pur (ES _))))
    refine wpQuiet_nil ?_
    intro wq hq
    have hb1 := hb0.pur hq
    go_wp2_with fail
    refine (wstr hb1 E (by omega) (Nat.le_trans hszA hq.size)).mono ?_
    rintro e w2 ⟨rfl, hw⟩
    have HR := (H0.then hq).went hBB hb1 hw
    clear ES Z3 Y4
    go_wp2
    first | go_end0 | (simp only [Exit.inBlock, Exit.then]; refine bodyPost_ret (results_none rfl _ _ _) rfl ?_) | refine bodyPost_ret (results_none rfl _ _ _) rfl ?_ | skip
    first | exact ⟨rfl, HR.wrote⟩ | exact ⟨_, results_none rfl _ _ _, rfl, HR.wrote⟩
  · -- an element
    have hle : lo.isEmpty = false := by cases lo with | nil => exact absurd rfl hlo | cons x y => rfl
    have HEX := Lib.hid (HE.out hlo)
    clear HT HE hlo
    obtain ⟨NM, hNM⟩ : ∃ NM, NM = nameB ⟨nsp, lo, ex, tx, par, at_⟩ := ⟨_, rfl⟩
    have hNMl : NM.length ≤ 1000004 := by rw [hNM]; unfold nameB; dsimp only; split <;> first | omega | (simp; omega)
    obtain ⟨SPN, hSPN⟩ : ∃ SPN, SPN = spaceB ⟨nsp, lo, ex, tx, par, at_⟩ sp := ⟨_, rfl⟩
    obtain ⟨DX, hDX⟩ : ∃ DX, DX = (if nsp ≠ sp ∧ nsp ≠ xmlS then putB tXmlns nsp else []) := ⟨_, rfl⟩
    have hDXl : DX.length ≤ 6000009 := by
      have := putB_le tXmlns nsp
      have h5 : tXmlns.length = 5 := rfl
      rw [hDX]; split <;> first | omega | (simp; omega) | simp
    obtain ⟨SS, hSS⟩ : ∃ SS, SS = pfxGo [] ex := ⟨_, rfl⟩
    obtain ⟨KS, hKS⟩ : ∃ KS, KS = kids ns i := ⟨_, rfl⟩
    have hKl : KS.length ≤ 1000000 := by rw [hKS]; exact Nat.le_trans (kids_len i ns 0) hl
    have hKin : ∀ k ∈ KS, i < k ∧ k < ns.length := fun k hk => by
      rw [hKS] at hk
      obtain ⟨m, h1, h2, -⟩ := kids_in ns i ns 0 k hk
      rw [Nat.sub_zero] at h1
      have h3 := hwf k m h1
      have h4 := (List.getElem?_eq_some_iff.1 h1).1
      omega
    rw [← hNM, ← hDX, ← hSS, ← hKS, ← hSPN] at HEX
    replace hNM := Lib.hid hNM
    replace hSPN := Lib.hid hSPN
    replace hDX := Lib.hid hDX
    replace hSS := Lib.hid hSS
    replace hKS := Lib.hid hKS
    replace ih := Lib.hid ih
    replace hKin := Lib.hid hKin
    have hSl : SS.length ≤ 100000 := by have := pfxGo_len ex []; rw [hSS.out]; simp at this; omega
    go_enter Tryz.func23, Tryz.ntmps23
    go_upto_region 2 with (fail)
    rw [← hwA]
    have HNa : Hid (∀ W, Pur w0 W → NRead W (.slice a ns.length c) ns) := Lib.hid (fun W hp => by rw [ha]; exact hN.pur hp)
    rw [← ha] at *
    clear hwA k0 k1 k2 k3 k4 k5 k6 ha
    obtain ⟨qb, hqb⟩ : ∃ qb, (nsp == xmlS) = qb := ⟨_, rfl⟩
    have hqL := hqb
    unfold xmlS at hqL
    replace hqb := Lib.hid hqb
    go_upto_if 40 with (fail)
    clear hqL
    go_cut [10] from 41 to 42 (fun u wx => u = .string ⟨NM.toArray⟩ ∧ wA = wx)
    case first =>
      cases qb with
      | false =>
        have e : NM = lo := by rw [hNM.out]; unfold nameB; rw [if_neg (fun h => by have hq := hqb.out; rw [beq_eq_false_iff_ne] at hq; exact hq h)]
        replace e := Lib.hid e
        go_wp2
        go_meet
        exact ⟨by rw [e.out], rfl⟩
      | true =>
        have e : NM = 120 :: 109 :: 108 :: 58 :: lo := by rw [hNM.out]; unfold nameB; rw [if_pos (by have hq := hqb.out; rw [beq_iff_eq] at hq; exact hq)]; rfl
        replace e := Lib.hid e
        have hll : ¬ 9223372036854775807 < lo.length + 1 + 1 + 1 + 1 := by omega
        go_wp2
        go_meet
        exact ⟨by rw [e.out], rfl⟩
    case rest =>
      obtain ⟨rfl, e0⟩ := hcut
      subst e0
      go_wp2_with fail
      refine (wstr hb0 (60 :: NM) (by simp; omega) hszA).mono ?_
      rintro e w1 ⟨rfl, hw1⟩
      have H1 := H0.went hBB hb0 hw1
      have hsz1 : B ≤ w1.heap.size := by have := H1.pur.size; omega
      clear z0 z1 z2 z3 y4 hb0 hszA hw1
      obtain ⟨bv1, hb1⟩ := H1.bw
      have z0 := bk_cell H1.h8 0 _ rfl
      have y4 := bk_cell H1.h4 0 _ rfl
      have hX1 := hX.pur H1.pur
      go_upto_region 9 with (fail)
      go_cut [55] from 47 to 54 (fun u wx => (∃ tb, u = .bool tb ∧ Hid (tb = decide (nsp ≠ sp ∧ nsp ≠ xmlS))) ∧ w1 = wx)
      case first =>
        rcases d1 : (nsp == sp) with _ | _
        · have d1n : nsp ≠ sp := by rw [beq_eq_false_iff_ne] at d1; exact d1
          rcases d2 : (nsp == xmlS) with _ | _
          · have d2n : nsp ≠ xmlS := by rw [beq_eq_false_iff_ne] at d2; exact d2
            have e1 : Hid (true = decide (nsp ≠ sp ∧ nsp ≠ xmlS)) := Lib.hid (decide_eq_true ⟨d1n, d2n⟩).symm
            unfold xmlS at d2
            clear d1n d2n
            go_wp2
            go_meet
            exact ⟨⟨_, rfl, e1⟩, rfl⟩
          · have d2n : nsp = xmlS := by rw [beq_iff_eq] at d2; exact d2
            have e1 : Hid (false = decide (nsp ≠ sp ∧ nsp ≠ xmlS)) := Lib.hid (decide_eq_false (fun h => h.2 d2n)).symm
            unfold xmlS at d2
            clear d1n d2n
            go_wp2
            go_meet
            exact ⟨⟨_, rfl, e1⟩, rfl⟩
        · have d1n : nsp = sp := by rw [beq_iff_eq] at d1; exact d1
          have e1 : Hid (false = decide (nsp ≠ sp ∧ nsp ≠ xmlS)) := Lib.hid (decide_eq_false (fun h => h.1 d1n)).symm
          clear d1n
          go_wp2
          go_meet
          exact ⟨⟨_, rfl, e1⟩, rfl⟩
      case rest =>
      obtain ⟨⟨tb, rfl, htb⟩, e0⟩ := hcut
      subst e0
      go_upto_if 55 with (fail)
      go_cut [3] from 56 to 61 (fun u wx => u = .string ⟨SPN.toArray⟩ ∧ Wr w0 w wx B b bv ((acc ++ 60 :: NM) ++ DX) w.heap.size (w.heap.size + 1) (w.heap.size + 2) (.slice a ns.length c) #[.string ⟨nsp.toArray⟩, .string ⟨lo.toArray⟩, .slice ea ex.length ec, .string ⟨tx.toArray⟩, .int .i64 par, .int .i64 p, .int .i64 q])
      case first =>
        cases tb with
        | true =>
          have hd := of_decide_eq_true htb.out.symm
          have e1 : DX = putB tXmlns nsp := by rw [hDX.out, if_pos hd]
          have e2 : SPN = nsp := by rw [hSPN.out]; unfold spaceB; rw [if_pos hd]
          replace e1 := Lib.hid e1
          replace e2 := Lib.hid e2
          clear hd htb
          go_wp2_with fail
          refine (putc_any hb1 w.heap.size tXmlns nsp hX1 y4 (by omega) (by have : tXmlns.length = 5 := rfl; simp; omega) hsz1).mono ?_
          rintro e w2 ⟨rfl, hw2⟩
          have H2 := H1.went hBB hb1 hw2
          have x0 := bk_cell H2.h8 0 _ rfl
          clear z0 y4
          go_wp2
          go_meet
          exact ⟨by rw [e2.out], by rw [e1.out]; exact H2⟩
        | false =>
          have hd := of_decide_eq_false htb.out.symm
          have e1 : DX = [] := by rw [hDX.out, if_neg hd]
          have e2 : SPN = sp := by rw [hSPN.out]; unfold spaceB; rw [if_neg hd]
          replace e1 := Lib.hid e1
          replace e2 := Lib.hid e2
          clear hd htb
          go_wp2
          go_meet
          exact ⟨by rw [e2.out], by rw [e1.out, List.append_nil]; exact H1⟩
      case rest =>
        obtain ⟨rfl, H2⟩ := hcut
        obtain ⟨w2, rfl, H2⟩ := Wr.name H2
        clear H1 hb1 z0 y4 hX1 H0 hsz1
        obtain ⟨acc2, hacc2⟩ : ∃ acc2, acc2 = (acc ++ 60 :: NM) ++ DX := ⟨_, rfl⟩
        rw [← hacc2] at H2
        have hacc2l : acc2.length ≤ acc.length + 8000100 := by rw [hacc2]; simp; omega
        replace hacc2 := Lib.hid hacc2
        have own0 := World.ownsMap_made w2 Tryz.prog 9 (plainElem (H := Unit) Tryz.prog 3)
        go_wp2_with (refine Tk.wpList_insert_own _ rfl _ _ _ 112 rfl 9 3 str_law Tryz.underlying112 (plainElem Tryz.prog 3) _ 0 _ rfl own0 (by unfold maxLen; omega) (.string ⟨#[]⟩) (.int .i64 0) (.string []) rfl rfl (key_lit (k := []) (by unfold maxLen; decide)) (.lit (.int .i64 0)) [] (plainElem_int Tryz.underlying3 (by decide)) ?_)
        intro m1 own1 gr1
        go_wp2_with (refine Tk.wpList_insert_own _ rfl _ _ _ 112 rfl 9 3 str_law Tryz.underlying112 (plainElem Tryz.prog 3) _ 1 _ rfl own1 (by unfold maxLen; omega) (.string ⟨#[104, 116, 116, 112, 58, 47, 47, 119, 119, 119, 46, 119, 51, 46, 111, 114, 103, 47, 88, 77, 76, 47, 49, 57, 57, 56, 47, 110, 97, 109, 101, 115, 112, 97, 99, 101]⟩) (.int .i64 0) (.string [104, 116, 116, 112, 58, 47, 47, 119, 119, 119, 46, 119, 51, 46, 111, 114, 103, 47, 88, 77, 76, 47, 49, 57, 57, 56, 47, 110, 97, 109, 101, 115, 112, 97, 99, 101]) rfl rfl (key_lit (k := [104, 116, 116, 112, 58, 47, 47, 119, 119, 119, 46, 119, 51, 46, 111, 114, 103, 47, 88, 77, 76, 47, 49, 57, 57, 56, 47, 110, 97, 109, 101, 115, 112, 97, 99, 101]) (by unfold maxLen; decide)) (.lit (.int .i64 0)) [] (plainElem_int Tryz.underlying3 (by decide)) ?_)
        intro m2 own2 gr2
        have G2 : Pur w2 m2 := by
          have b0 : Below w2.heap.size w2 (w2.alloc (.map #[] 0)) := (Pur.refl w2).alloc _
          exact (b0.grown gr1 b0.size (fun k hk => by cases hk; exact Nat.le_refl _)).grown gr2 (Nat.le_trans b0.size gr1.size) (fun k hk => by cases hk; exact Nat.le_refl _)
        have H3 := H2.then G2
        have own3 : MapO m2 w2.heap.size 2 pfxD0 := own2
        have hmbl : w.heap.size ≤ w2.heap.size := by obtain ⟨_, _, h, _⟩ := H2.wrote.out; exact h.size
        have hmb0 : w0.heap.size ≤ w2.heap.size := H2.pur.size
        clear own0 own1 own2 gr1 gr2 G2 H2
        generalize w2.heap.size = mb at *
        have z2 := bk_cell H3.h8 2 _ rfl
        go_wp2
        go_loopw [67] (fun k wx => ∃ (j : Nat) (ss : List Bs) (D : DataW Unit) (acc3 : Bs), j ≤ ex.length ∧ k = .int .i64 j ∧ PfxD D ss ∧ ss.length ≤ j ∧ MapO wx mb (ss.length + 2) D ∧ Wr w0 w wx B b bv acc3 w.heap.size (w.heap.size + 1) (w.heap.size + 2) (.slice a ns.length c) #[.string ⟨nsp.toArray⟩, .string ⟨lo.toArray⟩, .slice ea ex.length ec, .string ⟨tx.toArray⟩, .int .i64 par, .int .i64 p, .int .i64 q] ∧ acc3.length ≤ acc2.length + j * 20000000 ∧ Hid (acc3 = acc2 ++ declB ss 0) ∧ Hid (SS = pfxGo ss (ex.drop j))) (fun k _ => ex.length + 1 - (intOf k).toNat)
        case atStart => exact ⟨0, [], pfxD0, acc2, by omega, rfl, pfx_start, Nat.le_refl _, own3, H3, by omega, Lib.hid (by simp [declB]), Lib.hid (by rw [hSS.out]; rfl)⟩
        case round =>
          clear z2 own3 H3
          obtain ⟨j, ss, D, acc3, hj, rfl, hD, hss, hown, HW, ha3, hA3, hP3⟩ := hrel
          by_cases hlt : j < ex.length
          · have hlt' : (j : Int) < ex.length := by omega
            obtain ⟨x, hxj⟩ : ∃ x, ex[j]? = some x := ⟨_, List.getElem?_eq_getElem hlt⟩
            obtain ⟨eg, eo, ep, eq, rfl, heg, HCx⟩ := hx.at hxj
            obtain ⟨j0, j1, j2, j3, j4⟩ := HCx wr HW.pur
            have hxb := hnex x (List.mem_of_getElem? hxj)
            have hxs := hxb.sp
            have hxv := hxb.val
            have hxl := hxb.lo
            have hdrop := Lib.hid (pfxGo_drop ss ex j x hxj)
            have hhas := hD.has x.sp
            obtain ⟨xs, xl, xv, xa⟩ := x
            dsimp only at j0 j1 j2 hxs hxv hxl hdrop hhas
            replace hhas := Lib.hid hhas
            obtain ⟨w3, hw3⟩ : ∃ w3, w3 = wr.alloc (.cells #[.string ⟨xs.toArray⟩, .string ⟨xl.toArray⟩, .string ⟨xv.toArray⟩, .int .i64 ep, .int .i64 eq] 81) := ⟨_, rfl⟩
            have p3 : Pur wr w3 := by rw [hw3]; exact (Pur.refl wr).alloc _
            have hb3 : w3.heap[wr.heap.size]? = some (.cells #[.string ⟨xs.toArray⟩, .string ⟨xl.toArray⟩, .string ⟨xv.toArray⟩, .int .i64 ep, .int .i64 eq] 81 (0, 0)) := by rw [hw3]; exact bk_new wr _
            have HW3 := HW.then p3
            have own3 := map_pur hown p3
            have hkey := key_lit (k := xs) (by unfold maxLen; omega)
            clear hxj HCx hxb
            go_upto_region 16 with (fail)
            rw [← hw3]
            have y0 := bk_cell hb3 0 _ rfl
            clear hw3 j0 j1 j2 j3 j4 HW hown p3
            go_wp2_with (at_lookup; refine Go.wpList_lookup_own_ok_int _ rfl _ _ 112 rfl 9 3 .i64 str_law Tryz.underlying112 Tryz.underlying3 (zeroInt _) mb (ss.length + 2) D rfl own3 (.string ⟨xs.toArray⟩) (.string xs) rfl hkey ?_)
            intro c0 hat0 hwc0
            rcases hh : Maps.has D (.string xs) with _ | _
            · -- a new prefix
              have hno := of_decide_eq_false (hhas.out.symm.trans hh)
              have e4 : SS = pfxGo (ss ++ [xs]) (ex.drop (j + 1)) := by rw [hP3.out, hdrop.out, if_neg hno]
              have hD2 := hD.step hh
              have LN := fun ty => own3.len (t := 112) (e := 3) Tryz.underlying112 ty
              have hDs := hD.size
              generalize Maps.size D = M at LN hDs
              have hsz4 : IntKind.i64.wrap ((M : Int) - 1) = (ss.length : Int) + 1 := (IntWalk.i64_in _ (by omega)).trans (by omega)
              replace hDs := Lib.hid hDs
              replace e4 := Lib.hid e4
              clear hno hhas hdrop hP3
              obtain ⟨w4, hrun4, own4, gr4⟩ := own3.update (t := 112) (e := 3) str_law Tryz.underlying112 (by unfold maxLen; omega) hkey (val := .int .i64 ((ss.length : Int) + 1)) (d := .lit (.int .i64 ((ss.length : Int) + 1))) (ps := []) (plainElem_int Tryz.underlying3 (int_wf _ (by omega)))
              go_upto_region 19 with (fail)
              have HW4 := HW3.turn (map_block own3) hmbl hmb0 gr4
              have hb4 : w4.heap[wr.heap.size]? = some (.cells #[.string ⟨xs.toArray⟩, .string ⟨xl.toArray⟩, .string ⟨xv.toArray⟩, .int .i64 ep, .int .i64 eq] 81 (0, 0)) := by
                obtain ⟨es, cc, hm⟩ := map_block own3
                exact (gr4.block _ (bk_lt hb3) (fun e => by cases e; rw [hb3] at hm; cases hm)).trans hb3
              have own5 : MapO w4 mb ((ss ++ [xs]).length + 2) (D.put (.string xs) (.lit (.int .i64 ((ss.length : Int) + 1)))) := by rw [List.length_append]; exact own4
              have hix : (ss ++ [xs]).idxOf xs + 1 = ss.length + 1 := by
                have hnm : xs ∉ ss := by
                  have := hD2.nd
                  rw [List.nodup_append] at this
                  exact fun hm => this.2.2 xs hm xs (by simp) rfl
                rw [List.idxOf_append, if_neg hnm]; simp
              have LK : ∀ x : PW w4, (Instr.lookup 112 (.map (some mb)) (.string ⟨xs.toArray⟩) false).run Tryz.prog x.to = .ok (.int .i64 ((ss.length + 1 : Nat) : Int)) x.to := fun x => by
                have := look_pfx (map_pur own5 x.pur) hD2 (s := xs) (by simp) (by omega) (by simp; omega)
                rw [hix] at this
                exact this
              have Y0 : ∀ x : PW w4, x.to.cell? ⟨wr.heap.size, 0, none⟩ = some (.string ⟨xs.toArray⟩) := fun x => bk_cell (bk_pur hb4 x.pur) 0 _ rfl
              have hdl := digs_le (ss.length + 1) (by omega)
              have IT : ∀ x : PW w4, Calls Tryz.prog 41 #[.int .i64 ((ss.length + 1 : Nat) : Int)] x.to fun e w' => e = .returned (.string ⟨(digs (ss.length + 1)).toArray⟩) ∧ Pur x.to w' := fun x => itoa_any _ x.to (hX.pur (HW4.pur.trans x.pur)) (by omega)
              have hdecl := declB_snoc ss xs 0
              rw [Nat.zero_add] at hdecl
              have hpl := putB_le ([120, 109, 108, 110, 115, 58, 110] ++ digs (ss.length + 1)) xs
              replace hdecl := Lib.hid hdecl
              obtain ⟨K1, hK1⟩ : ∃ K1, K1 = ss.length + 1 := ⟨_, rfl⟩
              rw [← hK1] at LK IT hdecl hdl hpl
              obtain ⟨DG, hDG⟩ : ∃ DG, DG = digs K1 := ⟨_, rfl⟩
              rw [← hDG] at IT hdecl hdl hpl
              have hpl2 : (putB ([120, 109, 108, 110, 115, 58, 110] ++ DG) xs).length ≤ 20000000 := by
                have h : ([120, 109, 108, 110, 115, 58, 110] ++ DG).length ≤ 1000 := by simp; omega
                omega
              replace hK1 := Lib.hid hK1
              clear y0 hb3 own3 HW3 gr4 own4 hat0 hwc0 hh hD hix hsz4 hDG LN hDs hrun4
              obtain ⟨bv4, hbw4⟩ := HW4.bw
              have hsz5 : B ≤ w4.heap.size := by have := HW4.pur.size; omega
              refine wp_region_pur_tail 9 (by kernel_rfl) (by kernel_rfl) ?_
              simp only [List.take_succ_cons, List.take_zero, List.drop_succ_cons, List.drop_zero]
              repeat (first | (quiet_step ((go_at_call 41; exact quiet_pur (IT _)))) | (refine wpQuiet_step (fun K hK => ?_); go_simp; apply Exists.intro; refine ⟨fun _ => ?_, hK _ ?_⟩; (rw [if_neg (by omega)]; exact ⟨rfl, rfl⟩); clear hK K))
              refine wpQuiet_nil ?_
              intro wq hq
              have y4 := bk_cell (HW4.then hq).h4 0 _ rfl
              go_wp2_with fail
              refine (putc_any (hbw4.pur hq) w.heap.size _ xs (hX.pur (HW4.pur.trans hq)) y4 (by omega) (by simp; omega) (Nat.le_trans hsz5 hq.size)).mono ?_
              rintro e w6 ⟨rfl, hw6⟩
              have HW6 := (HW4.then hq).went hBB (hbw4.pur hq) hw6
              have own6 := Wrote.keepsMap (hbw4.pur hq) hw6 (map_pur own5 hq)
              clear LK IT Y0 y4
              go_wp2
              go_roundw
              case rel => exact ⟨j + 1, ss ++ [xs], _, _, by omega, by go_num, hD2, by simp; omega, own6, HW6, by rw [List.length_append]; exact Nat.le_trans (Nat.add_le_add ha3 hpl2) (by omega), Lib.hid (by rw [hA3.out, hdecl.out, ← List.append_assoc]; rfl), e4⟩
              case measure => simp [intOf]; omega
            · rw [hh] at hhas
              have hyes := of_decide_eq_true hhas.symm
              have e4 : SS = pfxGo ss (ex.drop (j + 1)) := by rw [hP3.out, hdrop.out, if_pos hyes]
              replace e4 := Lib.hid e4
              clear hyes hhas hdrop hP3 hb3
              go_wp2
              go_roundw
              case rel => exact ⟨j + 1, ss, D, acc3, by omega, by go_num, hD, by omega, own3, HW3, Nat.le_trans ha3 (Nat.add_le_add_left (Nat.mul_le_mul_right _ (Nat.le_succ j)) _), hA3, e4⟩
              case measure => simp [intOf]; omega
          · have hj2 : j = ex.length := by omega
            subst hj2
            have hlt' : ¬ ((ex.length : Nat) : Int) < ex.length := by omega
            have e5 : SS = ss := by rw [hP3.out, List.drop_length]; rfl
            subst e5
            clear hP3 hlt hj
            have z2 := bk_cell HW.h8 2 _ rfl
            go_wp2
            go_loopw [100] (fun k wx => ∃ (j : Nat) (acc4 : Bs), j ≤ ex.length ∧ k = .int .i64 j ∧ MapO wx mb (SS.length + 2) D ∧ Wr w0 w wx B b bv acc4 w.heap.size (w.heap.size + 1) (w.heap.size + 2) (.slice a ns.length c) #[.string ⟨nsp.toArray⟩, .string ⟨lo.toArray⟩, .slice ea ex.length ec, .string ⟨tx.toArray⟩, .int .i64 par, .int .i64 p, .int .i64 q] ∧ acc4.length ≤ acc3.length + j * 20000000 ∧ Hid (acc4 = acc3 ++ (ex.take j).flatMap (attrB SS))) (fun k _ => ex.length + 1 - (intOf k).toNat)
            case atStart => exact ⟨0, acc3, by omega, rfl, hown, HW, by omega, Lib.hid (by simp)⟩
            case round =>
              clear z2 hown HW
              obtain ⟨j, acc4, hj, rfl, hown, HW, ha4, hA4⟩ := hrel
              by_cases hlt : j < ex.length
              · have hlt2 : (j : Int) < ex.length := by omega
                obtain ⟨x, hxj⟩ : ∃ x, ex[j]? = some x := ⟨_, List.getElem?_eq_getElem hlt⟩
                obtain ⟨eg, eo, ep, eq, rfl, heg, HCx⟩ := hx.at hxj
                obtain ⟨j0, j1, j2, j3, j4⟩ := HCx wr HW.pur
                have hxb := hnex x (List.mem_of_getElem? hxj)
                have hxs := hxb.sp
                have hxv := hxb.val
                have hxl := hxb.lo
                have hft := (flat_take (attrB SS) ex j x hxj).1
                have hmemS : x.sp ≠ [] → x.sp ≠ xmlS → x.sp ∈ SS := fun h1 h2 => by rw [hSS.out]; exact pfxGo_mem ex [] x (List.mem_of_getElem? hxj) h1 h2
                obtain ⟨xs, xl, xv, xa⟩ := x
                dsimp only at j0 j1 j2 hxs hxv hxl hft hmemS
                obtain ⟨w3, hw3⟩ : ∃ w3, w3 = wr.alloc (.cells #[.string ⟨xs.toArray⟩, .string ⟨xl.toArray⟩, .string ⟨xv.toArray⟩, .int .i64 ep, .int .i64 eq] 81) := ⟨_, rfl⟩
                have p3 : Pur wr w3 := by rw [hw3]; exact (Pur.refl wr).alloc _
                have hb3 : w3.heap[wr.heap.size]? = some (.cells #[.string ⟨xs.toArray⟩, .string ⟨xl.toArray⟩, .string ⟨xv.toArray⟩, .int .i64 ep, .int .i64 eq] 81 (0, 0)) := by rw [hw3]; exact bk_new wr _
                have HW3 := HW.then p3
                have own3 := map_pur hown p3
                obtain ⟨bv3, hbw3⟩ := HW3.bw
                have hsz3 : B ≤ w3.heap.size := by have := HW3.pur.size; omega
                have hX3 := hX.pur HW3.pur
                have y4 := bk_cell HW3.h4 0 _ rfl
                clear hxj HCx hxb
                go_upto_region 24 with (fail)
                rw [← hw3]
                have y0 := bk_cell hb3 0 _ rfl
                have y1 := bk_cell hb3 1 _ rfl
                have y2 := bk_cell hb3 2 _ rfl
                clear hw3 j0 j1 j2 j3 j4 HW hown p3
                rcases d1 : xs.isEmpty with _ | _
                · have d1n : xs ≠ [] := by rintro rfl; cases d1
                  rcases d2 : (xs == xmlS) with _ | _
                  · -- a prefix
                    have d2n : xs ≠ xmlS := by rw [beq_eq_false_iff_ne] at d2; exact d2
                    have hmS := hmemS d1n d2n
                    have hat : attrB SS ⟨xs, xl, xv, xa⟩ = putB ([110] ++ digs (SS.idxOf xs + 1) ++ [58] ++ xl) xv := by unfold attrB; rw [if_neg d1n, if_neg d2n]
                    rw [hat] at hft
                    have hidx : SS.idxOf xs < SS.length := List.idxOf_lt_length_of_mem hmS
                    unfold xmlS at d2
                    have LK : ∀ x : PW w3, (Instr.lookup 112 (.map (some mb)) (.string ⟨xs.toArray⟩) false).run Tryz.prog x.to = .ok (.int .i64 ((SS.idxOf xs + 1 : Nat) : Int)) x.to := fun x => look_pfx (map_pur own3 x.pur) hD hmS (by omega) (by omega)
                    have IT : ∀ x : PW w3, Calls Tryz.prog 41 #[.int .i64 ((SS.idxOf xs + 1 : Nat) : Int)] x.to fun e w' => e = .returned (.string ⟨(digs (SS.idxOf xs + 1)).toArray⟩) ∧ Pur x.to w' := fun x => itoa_any _ x.to (hX3.pur x.pur) (by omega)
                    have hdl := digs_le (SS.idxOf xs + 1) (by omega)
                    have hpl := putB_le ([110] ++ digs (SS.idxOf xs + 1) ++ [58] ++ xl) xv
                    generalize SS.idxOf xs + 1 = K1 at *
                    generalize digs K1 = DG at *
                    have Y0 : ∀ x : PW w3, x.to.cell? ⟨wr.heap.size, 0, none⟩ = some (.string ⟨xs.toArray⟩) := fun x => cell_pur y0 x.pur
                    have Y1 : ∀ x : PW w3, x.to.cell? ⟨wr.heap.size, 1, none⟩ = some (.string ⟨xl.toArray⟩) := fun x => cell_pur y1 x.pur
                    have Y2 : ∀ x : PW w3, x.to.cell? ⟨wr.heap.size, 2, none⟩ = some (.string ⟨xv.toArray⟩) := fun x => cell_pur y2 x.pur
                    have hpl2 : (putB ([110] ++ DG ++ [58] ++ xl) xv).length ≤ 20000000 := by
                      have h : ([110] ++ DG ++ [58] ++ xl).length ≤ 1000100 := by simp; omega
                      omega
                    replace hft := Lib.hid hft
                    clear hat hmemS d1n d2n hmS hidx
                    go_upto_region 25 with (fail)
                    clear y0 y1 y2
                    refine wp_region_pur_tail 13 (by kernel_rfl) (by kernel_rfl) ?_
                    simp only [List.take_succ_cons, List.take_zero, List.drop_succ_cons, List.drop_zero]
                    repeat (first | (quiet_step ((go_at_call 41; exact quiet_pur (IT _)))) | (refine wpQuiet_step (fun K hK => ?_); go_simp; apply Exists.intro; refine ⟨fun _ => ?_, hK _ ?_⟩; (rw [if_neg (by omega)]; exact ⟨rfl, rfl⟩); clear hK K))
                    refine wpQuiet_nil ?_
                    intro wq hq
                    have y5 := bk_cell (HW3.then hq).h4 0 _ rfl
                    go_wp2_with fail
                    refine (putc_any (hbw3.pur hq) w.heap.size _ xv (hX3.pur hq) y5 (by omega) (by simp; omega) (Nat.le_trans hsz3 hq.size)).mono ?_
                    rintro e w6 ⟨rfl, hw6⟩
                    have HW6 := (HW3.then hq).went hBB (hbw3.pur hq) hw6
                    have own6 := Wrote.keepsMap (hbw3.pur hq) hw6 (map_pur own3 hq)
                    clear LK IT Y0 Y1 Y2 y4 y5
                    go_wp2
                    go_roundw
                    case rel => exact ⟨j + 1, _, by omega, by go_num, own6, HW6, by rw [List.length_append]; refine Nat.le_trans (Nat.add_le_add ha4 ?_) (show acc3.length + j * 20000000 + 20000000 ≤ acc3.length + (j + 1) * 20000000 by omega); simpa using hpl2, Lib.hid (by rw [hA4.out, hft.out, ← List.append_assoc]; simp)⟩
                    case measure => simp [intOf]; omega
                  · have d2n : xs = xmlS := by rw [beq_iff_eq] at d2; exact d2
                    have hat : attrB SS ⟨xs, xl, xv, xa⟩ = putB ([120, 109, 108, 58] ++ xl) xv := by unfold attrB; rw [if_neg d1n, if_pos d2n]
                    rw [hat] at hft
                    have hpl := putB_le ([120, 109, 108, 58] ++ xl) xv
                    have hpl2 : (putB ([120, 109, 108, 58] ++ xl) xv).length ≤ 20000000 := by
                      have h : ([120, 109, 108, 58] ++ xl).length ≤ 1000100 := by simp; omega
                      omega
                    unfold xmlS at d2
                    replace hft := Lib.hid hft
                    clear hat hmemS d1n d2n
                    have hll : ¬ 9223372036854775807 < xl.length + 1 + 1 + 1 + 1 := by omega
                    go_wp2_with fail
                    refine (putc_any hbw3 w.heap.size _ xv hX3 y4 (by omega) (by simp; omega) hsz3).mono ?_
                    rintro e w6 ⟨rfl, hw6⟩
                    have HW6 := HW3.went hBB hbw3 hw6
                    have own6 := Wrote.keepsMap hbw3 hw6 own3
                    clear y4 y0 y1 y2
                    go_wp2
                    go_roundw
                    case rel => exact ⟨j + 1, _, by omega, by go_num, own6, HW6, by rw [List.length_append]; refine Nat.le_trans (Nat.add_le_add ha4 ?_) (show acc3.length + j * 20000000 + 20000000 ≤ acc3.length + (j + 1) * 20000000 by omega); simpa using hpl2, Lib.hid (by rw [hA4.out, hft.out, ← List.append_assoc]; rfl)⟩
                    case measure => simp [intOf]; omega
                · have d1n : xs = [] := by cases xs with | nil => rfl | cons a b => cases d1
                  have hat : attrB SS ⟨xs, xl, xv, xa⟩ = putB xl xv := by unfold attrB; rw [if_pos d1n]
                  rw [hat] at hft
                  have hpl := putB_le xl xv
                  have hpl2 : (putB xl xv).length ≤ 20000000 := by omega
                  replace hft := Lib.hid hft
                  clear hat hmemS d1n
                  go_wp2_with fail
                  refine (putc_any hbw3 w.heap.size xl xv hX3 y4 (by omega) (by omega) hsz3).mono ?_
                  rintro e w6 ⟨rfl, hw6⟩
                  have HW6 := HW3.went hBB hbw3 hw6
                  have own6 := Wrote.keepsMap hbw3 hw6 own3
                  clear y4 y0 y1 y2
                  go_wp2
                  go_roundw
                  case rel => exact ⟨j + 1, _, by omega, by go_num, own6, HW6, by rw [List.length_append]; exact Nat.le_trans (Nat.add_le_add ha4 hpl2) (by omega), Lib.hid (by rw [hA4.out, hft.out, ← List.append_assoc])⟩
                  case measure => simp [intOf]; omega
              · have hj2 : j = ex.length := by omega
                subst hj2
                have hlt2 : ¬ ((ex.length : Nat) : Int) < ex.length := by omega
                rw [List.take_length] at hA4
                have hEX : TOT = (60 :: NM) ++ (DX ++ (declB SS 0 ++ (ex.flatMap (attrB SS) ++ (if KS = [] then [47, 62] else [62] ++ (KS.flatMap (fun k => writeB ns f k SPN) ++ ([60, 47] ++ NM ++ [62])))))) := HEX.out
                have hAA : acc ++ TOT = acc4 ++ (if KS = [] then [47, 62] else [62] ++ (KS.flatMap (fun k => writeB ns f k SPN) ++ ([60, 47] ++ NM ++ [62]))) := by
                  rw [hEX, hA4.out, hA3.out, hacc2.out]; simp [List.append_assoc]
                replace hEX := Lib.hid hEX
                replace hAA := Lib.hid hAA
                clear hA4 hA3 HEX hown hnex hx hD hlt hj hacc2 hSS hDX
                have KD := kids_any ns (.slice a ns.length c) i wr (HNa.out _ HW.pur) hl
                rw [← hKS.out] at KD
                have y5 := bk_cell HW.h5 0 _ rfl
                go_wp2_with fail
                refine KD.mono ?_
                rintro e wK ⟨u, rfl, pK, hownK⟩
                have HK := HW.then pK
                obtain ⟨ka, kc, rfl⟩ := row_shape hownK
                have hszK : B ≤ wK.heap.size := by have := HK.pur.size; omega
                obtain ⟨bvK, hbK⟩ := HK.bw
                have y6 := bk_cell HK.h4 0 _ rfl
                clear KD y5 HW
                rcases KS with _ | ⟨k0, KR⟩
                · go_wp2_with fail
                  refine (wstr hbK [47, 62] (by simp; omega) hszK).mono ?_
                  rintro e w9 ⟨rfl, hw9⟩
                  have H9 := HK.went hBB hbK hw9
                  go_wp2
                  first | go_end0 | (simp only [Exit.inBlock, Exit.then]; refine bodyPost_ret (results_none rfl _ _ _) rfl ?_) | refine bodyPost_ret (results_none rfl _ _ _) rfl ?_ | skip
                  first | exact ⟨rfl, by rw [hAA.out]; exact H9.wrote⟩ | exact ⟨_, results_none rfl _ _ _, rfl, by rw [hAA.out]; exact H9.wrote⟩
                · obtain ⟨KS, hKS2⟩ : ∃ KS, KS = k0 :: KR := ⟨_, rfl⟩
                  rw [← hKS2] at hAA hownK hKin hKl ⊢
                  have hKpos : 0 < KS.length := by rw [hKS2]; simp
                  have hKne : KS ≠ [] := by rw [hKS2]; simp
                  have hKz : ((KS.length : Int) == 0) = false := by rw [beq_eq_false_iff_ne]; omega
                  have hKz2 : ¬ (KS.length : Int) = 0 := by omega
                  have hKz3 : ¬ KS.length = 0 := by omega
                  have hAA2 : acc ++ TOT = (acc4 ++ [62]) ++ (KS.flatMap (fun k => writeB ns f k SPN) ++ ([60, 47] ++ NM ++ [62])) := by rw [hAA.out, if_neg hKne]; simp [List.append_assoc]
                  have hAl := congrArg List.length hAA2
                  simp only [List.length_append, List.length_cons, List.length_nil] at hAl
                  replace hAA2 := Lib.hid hAA2
                  replace hKS2 := Lib.hid hKS2
                  obtain ⟨kg, kc2, e1, -, hkg, hkc, hkcell⟩ := row_at hownK hKpos
                  obtain ⟨KC, hKC⟩ := own_type hownK (g := kg) (by rw [e1]; rfl)
                  cases e1
                  have hKat : ∀ (j : Nat) k, KS[j]? = some k → KC[j]? = some (.int .i64 (k : Int)) := fun j k hk => by
                    have h1 := (hkcell j (.int .i64 (k : Int)) (by unfold ints; rw [List.getElem?_map, hk]; rfl)).1
                    simpa [World.cell?, hKC] using h1
                  have hkc' : (KS.length : Int) ≤ kc := by omega
                  replace hKat := Lib.hid hKat
                  clear hkcell hKne hAA hownK
                  go_wp2_with fail
                  refine (wstr hbK [62] (by simp; omega) hszK).mono ?_
                  rintro e w9 ⟨rfl, hw9⟩
                  have H9 := HK.went hBB hbK hw9
                  have hK9 := hw9.keeps hbK hKC (by decide) (by decide)
                  clear hbK hw9 HK y6 hKC hszK pK
                  go_wp2
                  go_loopw [150] (fun k wx => ∃ (j : Nat) (acc5 : Bs), j ≤ KS.length ∧ k = .int .i64 j ∧ Wr w0 w wx B b bv acc5 w.heap.size (w.heap.size + 1) (w.heap.size + 2) (.slice a ns.length c) #[.string ⟨nsp.toArray⟩, .string ⟨lo.toArray⟩, .slice ea ex.length ec, .string ⟨tx.toArray⟩, .int .i64 par, .int .i64 p, .int .i64 q] ∧ wx.heap[kg]? = some (.cells KC 3 (0, 0)) ∧ Hid (acc5 = (acc4 ++ [62]) ++ (KS.take j).flatMap (fun k => writeB ns f k SPN))) (fun k _ => KS.length + 1 - (intOf k).toNat)
                  case atStart => exact ⟨0, acc4 ++ [62], by omega, rfl, H9, hK9, Lib.hid (by simp)⟩
                  case round =>
                    clear H9 hK9
                    obtain ⟨j, acc5, hj, rfl, HW, hKb, hA5⟩ := hrel
                    obtain ⟨bv5, hb5⟩ := HW.bw
                    have y4 := bk_cell HW.h4 0 _ rfl
                    have y5 := bk_cell HW.h5 0 _ rfl
                    by_cases hlt : j < KS.length
                    · have hlt3 : (j : Int) < KS.length := by omega
                      obtain ⟨k, hk⟩ : ∃ k, KS[j]? = some k := ⟨_, List.getElem?_eq_getElem hlt⟩
                      have kk := bk_cell hKb j _ (hKat.out j k hk)
                      obtain ⟨hk1, hk2⟩ := hKin.out k (List.mem_of_getElem? hk)
                      obtain ⟨hft, hfl⟩ := flat_take (fun k => writeB ns f k SPN) KS j k hk
                      have hl5 := congrArg List.length hA5.out
                      simp only [List.length_append, List.length_cons, List.length_nil] at hl5
                      try dsimp only at hft
                      try dsimp only at hfl
                      have IH := ih.out k SPN acc5 wr bv5 (by omega) hk2 HW.pur hb5 (by omega)
                      replace hft := Lib.hid hft
                      clear hk hk1 hk2 hl5 hfl
                      go_wp2_with fail
                      refine IH.mono ?_
                      rintro e w6 ⟨rfl, hw6⟩
                      have HW6 := HW.went hBB hb5 hw6
                      have hK6 := hw6.keeps hb5 hKb (by decide) (by decide)
                      clear IH y4 y5 kk
                      go_wp2
                      go_roundw
                      case rel => exact ⟨j + 1, _, by omega, by go_num, HW6, hK6, Lib.hid (by rw [hA5.out, hft.out, ← List.append_assoc])⟩
                      case measure => simp [intOf]; omega
                    · have hj2 : j = KS.length := by omega
                      subst hj2
                      have hlt3 : ¬ ((KS.length : Nat) : Int) < KS.length := by omega
                      have hl5 := congrArg List.length hA5.out
                      rw [List.take_length] at hl5
                      simp only [List.length_append, List.length_cons, List.length_nil] at hl5
                      have hA6 : acc ++ TOT = acc5 ++ (60 :: 47 :: (NM ++ [62])) := by rw [hAA2.out, hA5.out, List.take_length]; simp [List.append_assoc]
                      have hsz5 : B ≤ wr.heap.size := by have := HW.pur.size; omega
                      replace hA6 := Lib.hid hA6
                      have hll1 : ¬ 9223372036854775807 < NM.length + 1 + 1 := by omega
                      clear hA5 hAA2 hlt hj
                      go_wp2_with fail
                      refine (wstr hb5 (60 :: 47 :: (NM ++ [62])) (by simp; omega) hsz5).mono ?_
                      rintro e w9 ⟨rfl, hw9⟩
                      have H9 := HW.went hBB hb5 hw9
                      go_wp2
                      first | go_end0 | skip
                      first | exact ⟨rfl, by rw [hA6.out]; exact H9.wrote⟩ | exact ⟨_, results_none rfl _ _ _, rfl, by rw [hA6.out]; exact H9.wrote⟩
end Te
end Go.Proofs.YtigfcchblfnnbaaGreatDoor
