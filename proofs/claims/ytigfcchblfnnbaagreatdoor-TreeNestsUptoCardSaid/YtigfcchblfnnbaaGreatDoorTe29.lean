/- Layer 3: byteStringReplacer.Replace. -/
import Derived.Test.YtigfcchblfnnbaaGreatDoorTeJ
import Derived.Deep.CutRange
import Derived.Deep.DeepCutAuto
namespace Go.Proofs.YtigfcchblfnnbaaGreatDoor
open Go Go.RowKit
set_option linter.all false
namespace Te
open Tk (mem_own)
theorem pur_end {w w' : World} (h : Pur w w') : ∃ x, x = w' ∧ Pur w x := ⟨w', rfl, h⟩
theorem buf_drew {w0 wr : World} {h N : Nat} {acc : Bs} (hb : Lib.Buf w0 wr h N acc) : Lib.Buf w0 wr.drew h N acc := ⟨hb.below.drew, hb.there, hb.free, hb.holds, hb.fits⟩
theorem u8_sz (w : World) : (Go.sizeOf 5).run Tryz.prog w = .ok 1 w := by
  obtain ⟨i, hi, hz, hs, hb⟩ := info_parts infoU8
  simp [Go.sizeOf, typeInfo, hi, hs]
theorem u8_size : (Tryz.prog.info? 5).map (·.size) = some 1 := by kernel_rfl
set_option maxRecDepth 100000 in
set_option maxHeartbeats 16000000 in
theorem bsr_any (ps : Mk) (l : Bs) (hd : (ps.map Prod.fst).Nodup) (hn : ∀ p ∈ ps, 1 ≤ p.2.length ∧ p.2.length ≤ 6) (hp0 : 0 < ps.length) (hpl : ps.length ≤ 100) (hl : l.length ≤ 2000000) : BsrOk ps l := by
  intro rb tv B w hT hown
  obtain ⟨arr, ha, hsz, h256, hc⟩ := hT
  obtain ⟨ta, tc, rfl⟩ := row_shape hown
  have c256 := bk_cell ha 256 _ h256
  have hos : (ps.reverse.map Prod.fst).Nodup := by rw [List.map_reverse]; exact List.pairwise_reverse.2 (hd.imp fun h => Ne.symm h)
  have hol : (ps.reverse.map Prod.fst).length = ps.length := by simp
  have hmem : ∀ o ∈ ps.reverse.map Prod.fst, ∃ n, look ps o = some n := fun o ho => look_in (by rw [List.map_reverse, List.mem_reverse] at ho; exact ho)
  have hlm : ∀ c, look ps c ≠ none → c ∈ ps.reverse.map Prod.fst := fun c h => look_mem h
  have hgr : grows (look ps) l = cnt (look ps) l (ps.reverse.map Prod.fst) := grows_counts (look ps) _ hos hlm l
  have hGl : ∀ c n, look ps c = some n → 1 ≤ n.length ∧ n.length ≤ 6 := fun c n h => by
    obtain ⟨p, hp, rfl⟩ := look_some h
    exact hn p hp
  have hEl : (escB (look ps) l).length = l.length + grows (look ps) l := escB_len _ (fun c n h => (hGl c n h).1) l
  have hgl := grows_le hn
  obtain ⟨g, cap, e1, -, hgw, hcap, hcell⟩ := row_at hown hp0
  cases e1
  have hrow : ∀ (j : Nat) o, (ps.reverse.map Prod.fst)[j]? = some o → w.cell? ⟨g, j, none⟩ = some (.string ⟨#[o]⟩) := fun j o h => by
    have := (hcell j (.string ⟨[o].toArray⟩) (by
      unfold strs
      rw [List.map_map, List.getElem?_map]
      rw [List.getElem?_map] at h
      obtain ⟨p, hp, rfl⟩ := Option.map_eq_some_iff.1 h
      rw [hp]; rfl)).1
    exact this
  have hcl := cnt_le hn l
  clear hcell hd hown
  generalize hPL : ps.length = n0 at *
  generalize ps.reverse.map Prod.fst = os at *
  generalize look ps = m at *
  clear hPL hn
  have HC : ∀ c : UInt8, (m c = none → w.cell? ⟨rb, c.toNat, none⟩ = some (.slice none 0 0)) ∧ (∀ n, m c = some n → ∃ g cap, w.cell? ⟨rb, c.toNat, none⟩ = some (.slice (some ⟨g, 0, none⟩) n.length cap) ∧ n.length ≤ cap ∧ BRow w g 5 n) := fun c =>
    ⟨fun h => bk_cell ha c.toNat _ ((hc c).1 h), fun n h => by
      obtain ⟨g, cp, h1, h2, h3, h4⟩ := (hc c).2 n h
      exact ⟨g, cp, bk_cell ha c.toNat _ h2, h3, h4⟩⟩
  clear hc h256 ha
  obtain ⟨E, hE⟩ : ∃ E, E = escB m l := ⟨_, rfl⟩
  have HE := Lib.hid hE
  have hgll := hgl l
  rw [← hE] at hEl ⊢
  clear hE
  have hor : IntKind.i64.wrap ((n0 : Int) * 8) = (n0 : Int) * 8 := IntWalk.i64_in _ (by omega)
  have NE := fun W a n c n' c' => neq_nil W 75 5 a n c n' c' Tryz.underlying75
  obtain ⟨N, hN⟩ : ∃ N, N = E.length := ⟨_, rfl⟩
  have HN := Lib.hid hN
  have hN1 : N = l.length + grows m l := by omega
  have hNb : N ≤ 12000000 := by omega
  have MK := fun w => makeU8 w N (by omega)
  clear hEl hN
  go_enter Tryz.func245, Tryz.ntmps245
  go_upto_if 26 with (fail)
  go_cut [5, 6] from 5 to 80 (fun u v wx => u = .int .i64 (N : Nat) ∧ (∃ a, v = .bool a ∧ Hid (a = false → E = l)) ∧ Pur w wx)
  case first =>
    rcases d8 : decide ((n0 : Int) * 8 ≤ l.length) with _ | _
    · clear hor c256 hrow
      go_wp2
      go_loopw [5, 6, 10] (fun u a k wx => ∃ (i G : Nat) (A : Bool), i ≤ l.length ∧ k = .int .i64 i ∧ u = .int .i64 (G : Nat) ∧ a = .bool A ∧ G ≤ 100000000 ∧ Hid (G = l.length + grows m (l.take i)) ∧ Hid (A = (l.take i).any fun c => (m c).isSome) ∧ wx = w) (fun _ _ k _ => l.length + 1 - (intOf k).toNat)
      case atStart => exact ⟨0, l.length, false, by omega, rfl, rfl, rfl, by omega, Lib.hid (by simp [grows]), Lib.hid (by simp), rfl⟩
      case round =>
        obtain ⟨i, G, A, hi, rfl, rfl, rfl, hGb, hG, hA, e0⟩ := hrel
        subst wr
        by_cases hlt : i < l.length
        · have hlt' : (i : Int) < l.length := by omega
          obtain ⟨c, hci⟩ : ∃ c, l[i]? = some c := ⟨_, List.getElem?_eq_getElem hlt⟩
          have hb8 : by8 l i = c.toNat := by unfold by8; rw [List.getD_eq_getElem?_getD, hci]; rfl
          have hbl0 := by8_lt l i
          have hbl : (by8 l i : Int) < 256 := by omega
          have hbl2 : ¬ (256 ≤ (by8 l i : Int)) := by omega
          have HG2 := Lib.hid (esc_take m l i c hci).2
          have HA2 : Hid (((l.take (i + 1)).any fun c => (m c).isSome) = (((l.take i).any fun c => (m c).isSome) || (m c).isSome)) := Lib.hid (by rw [List.take_succ, hci]; simp)
          have hgt := hgl (l.take (i + 1))
          rw [List.length_take] at hgt
          rcases hmc : m c with _ | n
          · have kc := (HC c).1 hmc
            rw [← hb8] at kc
            have e1 : G = l.length + grows m (l.take (i + 1)) := by rw [hG.out, HG2.out]; simp [grow1, hmc]
            have e2 : A = ((l.take (i + 1)).any fun c => (m c).isSome) := by rw [hA.out, HA2.out, hmc]; simp
            replace e1 := Lib.hid e1
            replace e2 := Lib.hid e2
            clear hci hmc hG hA HG2 HA2 hb8 hmem hlm hgr hGl HC hgl hcl
            go_wp2
            go_roundw
            case rel => exact ⟨i + 1, G, A, by omega, by go_num, rfl, rfl, hGb, e1, e2, trivial⟩
            case measure => simp [intOf]; omega
          · obtain ⟨g', cp, kc, hcp, -⟩ := (HC c).2 n hmc
            obtain ⟨hn1, hn2⟩ := hGl c n hmc
            rw [← hb8] at kc
            have e1 : G + (n.length - 1) = l.length + grows m (l.take (i + 1)) := by rw [hG.out, HG2.out]; simp [grow1, hmc]; omega
            have e2 : true = ((l.take (i + 1)).any fun c => (m c).isSome) := by rw [HA2.out, hmc]; simp
            generalize n.length = q at *
            have hGb' : G + (q - 1) ≤ 100000000 := by omega
            replace e1 := Lib.hid e1
            replace e2 := Lib.hid e2
            have hw1 : IntKind.i64.wrap ((q : Int) - 1) = (q : Int) - 1 := IntWalk.i64_in _ (by omega)
            have hw2 : IntKind.i64.wrap ((G : Int) + ((q : Int) - 1)) = (G : Int) + ((q : Int) - 1) := IntWalk.i64_in _ (by omega)
            have e3 : (Value.int .i64 ((G : Int) + ((q : Int) - 1))) = .int .i64 ((G + (q - 1) : Nat) : Int) := by congr 1; omega
            replace e3 := Lib.hid e3
            clear hci hmc hG hA HG2 HA2 hb8 hmem hlm hgr hGl HC hgl hcl hgt hcp
            go_wp2
            go_roundw
            case rel => exact ⟨i + 1, _, true, by omega, by go_num, e3.out, rfl, hGb', e1, e2, trivial⟩
            case measure => simp [intOf]; omega
        · have hi2 : i = l.length := by omega
          subst hi2
          have hlt' : ¬ ((l.length : Nat) : Int) < l.length := by omega
          have e1 : (Value.int .i64 (G : Nat)) = .int .i64 (N : Nat) := by
            have := hG.out
            rw [List.take_length] at this
            rw [this, hN1]
          have e2 : A = false → E = l := fun h => by
            have h2 := hA.out
            rw [List.take_length, h] at h2
            rw [HE.out]
            refine escB_none _ _ fun c hc => ?_
            have h3 := List.any_eq_false.1 h2.symm c hc
            cases h4 : m c with
            | none => rfl
            | some n => rw [h4] at h3; simp at h3
          replace e1 := Lib.hid e1
          replace e2 := Lib.hid e2
          clear hG hA hmem hlm hgr hGl HC hgl hcl hi hlt
          go_wp2
          go_meet
          exact ⟨e1.out, ⟨A, rfl, e2⟩, Pur.refl _⟩
    · have hcap' : (n0 : Int) ≤ tc := by omega
      go_wp2
      go_loopw [5, 6, 32] (fun u a k wx => ∃ (j G : Nat) (A : Bool), j ≤ n0 ∧ k = .int .i64 j ∧ u = .int .i64 (G : Nat) ∧ a = .bool A ∧ G ≤ 100000000000 ∧ Hid (G = l.length + cnt m l (os.take j)) ∧ Hid (A = (os.take j).any fun o => l.count o != 0) ∧ Pur w wx) (fun _ _ k _ => n0 + 1 - (intOf k).toNat)
      case atStart => exact ⟨0, l.length, false, by omega, rfl, rfl, rfl, by omega, Lib.hid (by simp [cnt]), Lib.hid (by simp), Pur.refl _⟩
      case round =>
        obtain ⟨j, G, A, hj, rfl, rfl, rfl, hGb, hG, hA, hpr⟩ := hrel
        by_cases hlt : j < n0
        · have hlt' : (j : Int) < n0 := by omega
          obtain ⟨o, hoj⟩ : ∃ o, os[j]? = some o := ⟨_, List.getElem?_eq_getElem (by omega)⟩
          have ko := cell_pur (hrow j o hoj) hpr
          obtain ⟨n, hmc⟩ := hmem o (List.mem_of_getElem? hoj)
          obtain ⟨g', cp, kc, hcp, -⟩ := (HC o).2 n hmc
          replace kc := cell_pur kc hpr
          obtain ⟨hn1, hn2⟩ := hGl o n hmc
          obtain ⟨hs1, hs2⟩ := cnt_take m l os j o hoj
          have hcb := hcl (os.take (j + 1))
          have hcb2 : cnt m l (os.take (j + 1)) ≤ 1000000000 := by
            refine Nat.le_trans hcb ?_
            have h1 : (os.take (j + 1)).length ≤ 100 := by rw [List.length_take]; omega
            have h2 : 5 * l.length ≤ 10000000 := by omega
            calc (os.take (j + 1)).length * (5 * l.length) ≤ 100 * 10000000 := Nat.mul_le_mul h1 h2
              _ = 1000000000 := rfl
          have CN := Tryz.strings_Count_one ⟨l.toArray⟩ o wr
          have hcnt : Lib.countByte (⟨l.toArray⟩ : ByteArray).data.toList o = l.count o := rfl
          rw [hcnt] at CN
          have hby : by8 [o] 0 = o.toNat := rfl
          have hol0 := UInt8.toNat_lt o
          have hol1 : ¬ (256 ≤ (o.toNat : Int)) := by omega
          have hg1 : grow1 m o = n.length - 1 := by simp [grow1, hmc]
          rw [hg1] at hs1
          have hcl2 : l.count o ≤ l.length := List.count_le_length
          generalize hK : l.count o = K at *
          generalize n.length = q at *
          have hKq : K * (q - 1) ≤ 2000000 * 100 := Nat.mul_le_mul (by omega) (by omega)
          have hKP : (K : Int) * ((q : Int) - 1) = ((K * (q - 1) : Nat) : Int) := by
            rw [Int.natCast_mul, Int.natCast_sub hn1]; rfl
          obtain ⟨P, hP⟩ : ∃ P, P = K * (q - 1) := ⟨_, rfl⟩
          rw [← hP] at hKq hKP hs1
          have hw1 : IntKind.i64.wrap ((q : Int) - 1) = (q : Int) - 1 := IntWalk.i64_in _ (by omega)
          have hw2 : IntKind.i64.wrap ((K : Int) * ((q : Int) - 1)) = (P : Int) := by rw [hKP]; exact IntWalk.i64_in _ (by omega)
          have hw3 : IntKind.i64.wrap ((G : Int) + (P : Int)) = (G : Int) + (P : Int) := IntWalk.i64_in _ (by omega)
          have e1 : Hid (G + P = l.length + cnt m l (os.take (j + 1))) := Lib.hid (by rw [hG.out, hs1]; omega)
          have hGb2 : G + P ≤ 100000000000 := by have := e1.out; omega
          have e2 : Hid ((os.take (j + 1)).any (fun o => l.count o != 0) = (A || K != 0)) := Lib.hid (by rw [hs2, hA.out])
          have e3 : Hid ((Value.int .i64 ((G : Int) + (P : Int))) = .int .i64 ((G + P : Nat) : Int)) := Lib.hid (by congr 1)
          clear hoj hmc hG hA hs1 hs2 hmem hlm hgr hGl HC hgl hcl hcb hcb2 hg1 hcnt hcp hKP hrow HE HN
          rcases Nat.eq_zero_or_pos K with h0 | h0
          · subst h0
            have hP0 : P = 0 := by rw [hP]; simp
            subst hP0
            clear hP hw1 hw2 hw3 hK kc
            go_wp2_with fail
            refine CN.mono ?_
            rintro e w1 ⟨rfl, hw⟩
            subst w1
            clear CN
            go_wp2
            go_roundw
            case rel => exact ⟨j + 1, G, A, by omega, by go_num, rfl, rfl, hGb, e1, Lib.hid (by rw [e2.out]; simp), hpr⟩
            case measure => simp [intOf]; omega
          · have hK0 : ((K : Int) == 0) = false := by rw [beq_eq_false_iff_ne]; omega
            have hK1 : ¬ (K : Int) = 0 := by omega
            have hK2 : ¬ K = 0 := by omega
            have e4 : Hid (true = (os.take (j + 1)).any fun o => l.count o != 0) := Lib.hid (by rw [e2.out, show (K != 0) = true by simp; omega]; simp)
            clear hP hK
            go_wp2_with fail
            refine CN.mono ?_
            rintro e w1 ⟨rfl, hw⟩
            subst w1
            clear CN
            go_upto_region 9 with (fail)
            go_region
            go_wp2
            go_roundw
            case rel => exact ⟨j + 1, _, true, by omega, by go_num, e3.out, rfl, hGb2, e1, e4, hpr.drew⟩
            case measure => simp [intOf]; omega
        · have hj2 : j = n0 := by omega
          subst hj2
          have hlt' : ¬ ((j : Nat) : Int) < j := by omega
          have htk : os.take j = os := List.take_of_length_le (by omega)
          have e1 : (Value.int .i64 (G : Nat)) = .int .i64 (N : Nat) := by
            have := hG.out
            rw [htk] at this
            rw [this, hN1, hgr]
          have e2 : A = false → E = l := fun h => by
            have h2 := hA.out
            rw [htk, h] at h2
            rw [HE.out]
            refine escB_none _ _ fun c hc => ?_
            cases h4 : m c with
            | none => rfl
            | some n =>
              exfalso
              have h3 := List.any_eq_false.1 h2.symm c (hlm c (by rw [h4]; simp))
              have h5 := List.count_pos_iff.2 hc
              simp at h3
              omega
          replace e1 := Lib.hid e1
          replace e2 := Lib.hid e2
          clear hG hA hmem hlm hgr hGl HC hgl hcl hj hlt htk hrow
          go_wp2
          go_meet
          exact ⟨e1.out, ⟨A, rfl, e2⟩, hpr⟩
  case rest =>
    obtain ⟨rfl, ⟨a, rfl, HA⟩, hp1⟩ := hcut
    obtain ⟨w1, rfl, hp1⟩ := pur_end hp1
    replace HC : ∀ c : UInt8, (m c = none → w1.cell? ⟨rb, c.toNat, none⟩ = some (.slice none 0 0)) ∧ (∀ n, m c = some n → ∃ g cap, w1.cell? ⟨rb, c.toNat, none⟩ = some (.slice (some ⟨g, 0, none⟩) n.length cap) ∧ n.length ≤ cap ∧ BRow w1 g 5 n) := fun c =>
      ⟨fun h => cell_pur ((HC c).1 h) hp1, fun n h => by
        obtain ⟨g, cp, h1, h2, h3⟩ := (HC c).2 n h
        exact ⟨g, cp, cell_pur h1 hp1, h2, h3.pur hp1⟩⟩
    replace MK := MK w1
    clear hor c256 hrow hlm hgr hcl hmem
    cases a with
    | false =>
      have e := HA.out rfl
      subst e
      go_wp2
      go_ret
      exact ⟨rfl, hp1⟩
    | true =>
      have hE0 : E = escB m l := HE.out
      have hNE : N = E.length := HN.out
      have hsp : ∀ i, (escB m (l.take i)).length ≤ N := fun i => by rw [hNE, hE0, esc_split m l i, List.length_append]; omega
      have hst := fun i c h => (esc_take m l i c h).1
      have hfin : escB m (l.take l.length) = E := by rw [List.take_length, hE0]
      obtain ⟨w0, hw0⟩ : ∃ w0, w0 = w1.alloc (.cells (Array.replicate N (.int .u8 0)) 5) := ⟨_, rfl⟩
      have B0 : Lib.Buf w1 w0 w1.heap.size N [] := by rw [hw0]; exact buf_new w1 N
      rw [← hw0] at MK
      have MK2 := MK
      clear MK
      obtain ⟨h, hh⟩ : ∃ h, h = w1.heap.size := ⟨_, rfl⟩
      have hh2 : w1.heap.size ≤ h := by omega
      rw [← hh] at MK2 B0
      have BP : ∀ {wx : World} {acc : Bs}, Lib.Buf w1 wx h N acc → Pur w1 wx := fun b => by have := b.below; rw [hh] at this; exact this
      replace hE0 := Lib.hid hE0
      replace hNE := Lib.hid hNE
      replace hfin := Lib.hid hfin
      replace hh := Lib.hid hh
      have e0 : escB m (l.take 0) = [] := by simp [escB]
      replace e0 := Lib.hid e0
      clear hw0 HE HN HA hgl hgll hN1 hGl
      go_upto_region 22 with (fail)
      clear MK2
      go_wp2
      go_loopw [13, 14] (fun jv iv wx => ∃ (i J : Nat) (acc : Bs), i ≤ l.length ∧ iv = .int .i64 i ∧ jv = .int .i64 (J : Nat) ∧ J ≤ N ∧ Hid (J = acc.length) ∧ Hid (acc = escB m (l.take i)) ∧ Lib.Buf w1 wx h N acc) (fun _ iv _ => l.length + 1 - (intOf iv).toNat)
      case atStart => exact ⟨0, 0, [], by omega, rfl, rfl, by omega, Lib.hid rfl, Lib.hid e0.out.symm, B0⟩
      case round =>
        clear B0
        obtain ⟨i, J, acc, hi, rfl, rfl, hJN, hJ, hacc, hB⟩ := hrel
        have hpr := BP hB
        by_cases hlt : i < l.length
        · have hlt' : (i : Int) < l.length := by omega
          obtain ⟨c, hci⟩ : ∃ c, l[i]? = some c := ⟨_, List.getElem?_eq_getElem hlt⟩
          have hb8 : by8 l i = c.toNat := by unfold by8; rw [List.getD_eq_getElem?_getD, hci]; rfl
          have hbl0 := by8_lt l i
          have hbl : (by8 l i : Int) < 256 := by omega
          have hbl2 : ¬ (256 ≤ (by8 l i : Int)) := by omega
          have h1 := hst i c hci
          have h2 := hsp (i + 1)
          rw [h1] at h2
          rw [← hacc.out] at h1 h2
          rw [List.length_append] at h2
          rcases hmc : m c with _ | n
          · have kc := cell_pur ((HC c).1 hmc) hpr
            rw [← hb8] at kc
            rw [hmc] at h1 h2
            have hJ2 : J < N := by have := hJ.out; simp at h2; omega
            have hJ3 : (J : Int) < N := by omega
            obtain ⟨v, kv⟩ := Option.isSome_iff_exists.1 (hB.there J hJ2)
            have kf := hB.free J hJ2
            have hB2 := buf_put hB c (by rw [← hJ.out]; exact hJ2)
            rw [← hJ.out, ← hb8] at hB2
            have e2 : acc ++ [c] = escB m (l.take (i + 1)) := by rw [h1]; rfl
            have e3 : J + 1 = (acc ++ [c]).length := by rw [List.length_append, ← hJ.out]; rfl
            replace e2 := Lib.hid e2
            replace e3 := Lib.hid e3
            have hwj : IntKind.i64.wrap ((J : Int) + 1) = (J : Int) + 1 := IntWalk.i64_in _ (by omega)
            generalize acc ++ [c] = acc2 at *
            clear hci hmc hJ hacc h1 h2 hb8 HC hst hsp hB
            go_wp2
            go_roundw
            case rel => exact ⟨i + 1, J + 1, acc2, by omega, by go_num, by go_num, by omega, e3, e2, hB2⟩
            case measure => simp [intOf]; omega
          · obtain ⟨g', cp, kc, hcp, hBr⟩ := (HC c).2 n hmc
            rw [hmc] at h1 h2
            have hv : Lib.HoldsBytes w1 (.slice (some ⟨g', 0, none⟩) n.length cp) n := by
              refine ⟨some ⟨g', 0, none⟩, cp, rfl, by simp, fun a ha i x hx => ?_⟩
              cases ha
              have hi := (List.getElem?_eq_some_iff.1 hx).1
              have hadd : (⟨g', 0, none⟩ : Addr).add i = ⟨g', i, none⟩ := by unfold Addr.add; split <;> simp_all
              rw [hadd, hBr.cell i hi, by8, List.getD_eq_getElem?_getD, hx]
              rfl
            have kc := cell_pur kc hpr
            rw [← hb8] at kc
            have h3 : acc.length + n.length ≤ N := by simpa using h2
            have SL := Lib.run_slice_tailV (P := Tryz.prog) wr.drew 75 5 Tryz.underlying75 u8_sz h N acc.length (by omega)
            obtain ⟨w7, CP, hB2⟩ := Lib.copy_part (P := Tryz.prog) w1 wr.drew h N acc n _ 75 3 5 Tryz.underlying75 u8_size hh2 (buf_drew hB) hv h3
            rw [← hJ.out] at SL CP h3
            have e2 : acc ++ n = escB m (l.take (i + 1)) := by rw [h1]; rfl
            have e3 : J + n.length = (acc ++ n).length := by rw [List.length_append, ← hJ.out]
            replace e2 := Lib.hid e2
            replace e3 := Lib.hid e3
            have hcp' : (n.length : Int) ≤ cp := by omega
            generalize acc ++ n = acc2 at *
            generalize n.length = q at *
            have htv : Lib.tailV h N J = .slice (if N = J then some ⟨h, 0, none⟩ else some ⟨h, J, none⟩) (N - J) (N - J) := by unfold Lib.tailV; split <;> rfl
            rw [htv] at CP
            clear SL
            have hwj : IntKind.i64.wrap ((J : Int) + q) = (J : Int) + q := IntWalk.i64_in _ (by omega)
            have hJq : (J : Int) ≤ N := by omega
            clear hci hmc hJ hacc h1 h2 hb8 HC hst hsp hB htv hBr hv
            go_upto_region 28 with (fail)
            go_region
            go_wp2
            go_roundw
            case rel => exact ⟨i + 1, J + q, acc2, by omega, by go_num, by go_num, by omega, e3, e2, hB2⟩
            case measure => simp [intOf]; omega
        · have hi2 : i = l.length := by omega
          subst hi2
          have hlt' : ¬ ((l.length : Nat) : Int) < l.length := by omega
          have e1 : acc = E := by rw [hacc.out, hfin.out]
          subst e1
          have ST := buf_str hB hNE.out.symm
          clear HC hst hsp hB hacc hJ hlt hi
          go_wp2
          go_ret
          exact ⟨rfl, hp1.trans hpr⟩
end Te
end Go.Proofs.YtigfcchblfnnbaaGreatDoor
