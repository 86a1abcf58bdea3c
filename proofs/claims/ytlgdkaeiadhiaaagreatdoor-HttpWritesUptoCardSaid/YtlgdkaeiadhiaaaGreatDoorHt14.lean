/- The document's Read of requests: the header lines. -/
import Derived.Test.YtlgdkaeiadhiaaaGreatDoorHt14a
namespace Go.Proofs.YtlgdkaeiadhiaaaGreatDoor
open Go Go.RowKit
set_option linter.all false
attribute [local go_sem ↓] Go.wp_at_zero Go.wp_at_succ
set_option maxRecDepth 100000 in
set_option maxHeartbeats 4000000 in
theorem rreadq_heads (b : Bytes) (k : Nat) (w : World) (hs : b.length ≤ 10000000) (hi : idx crlf2 b = some k) (hk : k + 4 ≤ 4096)
    (hf0 : ∀ f r, pcs crlf (b.take k) = f :: r → (reqLine f).isSome = true) :
    Calls Tryz.prog 23 #[.string ⟨b.toArray⟩, .bool true] w fun e w' => RGives w (readMsg (fun s => (reqLine s).isSome) true b) e w' := by
  have HAT := Lib.hid (idx_at b k hi)
  have hkb : k + 4 ≤ b.length := by have := idx_bound hi; have e : crlf2.length = 4 := rfl; omega
  have hne := pcs_ne (by_ := crlf) (b.take k)
  have hpl := pcs_len crlf _ (b.take k) (Nat.le_refl _)
  have hpe := pcs_le crlf _ (b.take k) (Nat.le_refl _)
  have S := fun w => rsplit_any (b.take k) crlf w (by decide) (by rw [List.length_take]; omega) (by decide)
  rw [List.length_take] at hpl hpe
  obtain ⟨f, r, hp⟩ : ∃ f r, pcs crlf (b.take k) = f :: r := by
    cases e : pcs crlf (b.take k) with
    | nil => exact absurd e hne
    | cons x y => exact ⟨x, y, rfl⟩
  have hfl : f.length ≤ k := by have := hpe f (by rw [hp]; simp); omega
  have hrl : r.length ≤ k := by rw [hp, List.length_cons] at hpl; omega
  have hre : ∀ l ∈ r, l.length ≤ k := fun l hl => by have := hpe l (by rw [hp]; simp [hl]); omega
  have RQ := fun w => rreqline_any f w (by omega)
  have ST := fun w => rstatus_any f w (by omega)
  have STN := stn_neg f
  have hq3 : (rl f).2.2 = (reqLine f).isSome := by unfold rl; cases reqLine f <;> rfl
  rw [hq3] at RQ
  have RDF := rd_first (rt := (fun s => (reqLine s).isSome)) (ho := true) hi hk hp
  rw [hp] at S
  obtain ⟨i0, hi0, hz⟩ := Option.map_eq_some_iff.1 fld_info
  simp only [Prod.mk.injEq] at hz
  obtain ⟨hz0, hz1, hz2⟩ := hz
  obtain ⟨z0, hz0, hzs⟩ := Option.map_eq_some_iff.1 hz0
  have hr := hf0 f r hp
  have RDH := rd_heads (rt := (fun s => (reqLine s).isSome)) (ho := true) hi hk hp hr
  have RDT := fun hs hh => rd_tail (rt := (fun s => (reqLine s).isSome)) (ho := true) (hs := hs) hi hk hp hr hh
  rw [hr] at RQ
  have esub : sub b 0 k = b.take k := by simp [sub]
  have k0 : (0 : Int) ≤ k := by omega
  have k1 : (k : Int) ≤ b.length := by omega
  clear hi hne hpl hpe hp RDF hq3 hf0 hr
  generalize readMsg (fun s => (reqLine s).isSome) true b = RES at *
  generalize (rl f).1 = u1 at *
  generalize (rl f).2.1 = u2 at *
  go_enter Tryz.func23, Tryz.ntmps23
  go_wp2
  go_loop [6] (fun kk => ∃ n : Nat, n ≤ k ∧ kk = .int .i64 n) (fun kk => b.length + 1 - (intOf kk).toNat)
  case atStart => exact ⟨0, by omega, rfl⟩
  case round =>
    obtain ⟨n, hn, rfl⟩ := hrel
    obtain ⟨m, hm⟩ : ∃ m : Nat, m = n + 4 := ⟨_, rfl⟩
    have hmi : (n : Int) + 4 = (m : Int) := by omega
    have l1 : decide (m ≤ b.length) = true := decide_eq_true (by omega)
    have l2 : (m : Int) ≤ b.length := by omega
    have l3 : (n : Int) ≤ m := by omega
    have l4 : n ≤ m := by omega
    have l5 : m ≤ b.length := by omega
    have hpx := prefix_sub (t := crlf2) (l := b) (i := n) (by have e4 : crlf2.length = 4 := rfl; omega)
    rw [show n + crlf2.length = m from hm.symm] at hpx
    by_cases hlt : n < k
    · have hne : ¬ sub b n m = [13, 10, 13, 10] := fun e => HAT.out.2 n hlt (hpx.2 e)
      have t1 : (sub b n m != [13, 10, 13, 10]) = true := by simpa using hne
      have t2 : (sub b n m == [13, 10, 13, 10]) = false := by simpa using hne
      clear hne hm hpx
      go_wp2
      go_round
      case rel => exact ⟨n + 1, by omega, by go_num⟩
      case measure => simp [intOf]; omega
    · obtain rfl : n = k := by omega
      have heq : sub b n m = [13, 10, 13, 10] := hpx.1 HAT.out.1
      have t1 : (sub b n m != [13, 10, 13, 10]) = false := by rw [heq]; rfl
      have t2 : (sub b n m == [13, 10, 13, 10]) = true := by rw [heq]; rfl
      have f1 : decide ((b.length : Int) < (m : Int)) = false := decide_eq_false (by omega)
      have f2 : decide (b.length < m) = false := decide_eq_false (by omega)
      clear heq hpx hlt HAT
      have f3 : decide ((4096 : Int) < (m : Int)) = false := decide_eq_false (by omega)
      have f4 : decide (4096 < m) = false := decide_eq_false (by omega)
      clear hm
      go_wp2_with fail
      refine (S _).mono ?_
      rintro e w1 ⟨v, rfl, ⟨g, c, rfl, hR⟩, h1⟩
      have c0 := hR.2 0 f rfl
      have hz : g < w1.heap.size := hR.1
      go_wp2_with fail
      refine (RQ _).mono ?_
      rintro e w2 ⟨rfl, h2⟩
      have h12 := ((Pur.refl w1).alloc _).trans h2
      have hB := bk_pur (bk_new w1 _) h2
      have K2 : Pur w w2 := ((Pur.refl w).alloc _).trans (h1.trans h12)
      have hB0 := bk_pur (bk_new w _) h1
      have hR2 := hR.pur h12
      have hzl := bk_lt hB
      have hw0 : w.heap.size < w1.heap.size := Nat.lt_of_lt_of_le (by simp) h1.size
      have CELL : ∀ (wr : World) (n : Nat) (l : Bytes), Pur w1 wr → r[n]? = some l → wr.cell? ⟨g, n + 1, none⟩ = some (.string ⟨l.toArray⟩) := fun wr n l hp hl => cell_pur (hR.2 (n + 1) l (by simpa using hl)) hp
      clear c0 hR hR2 S RQ ST
      go_wp2
      go_loopw [13] (fun kx wr => ∃ (n : Nat) (acc : List Fld) (v : Value), n ≤ r.length ∧ kx = .int .i64 ((n : Int) + 1) ∧ acc.length ≤ n ∧ wr.heap[w1.heap.size]? = some (.cells #[.string ⟨f.toArray⟩, v, .string ⟨#[]⟩, .int .i64 ((m : Nat) : Int)] 65 (0, 0)) ∧ wr.ownsRow (w1.heap.size + 1) 79 2 v acc.length (fcells acc) ∧ Pur w1 wr ∧ Hid (headsOf r = (headsOf (r.drop n)).map (acc ++ ·))) (fun kx _ => r.length + 2 - (intOf kx).toNat)
      case atStart => exact ⟨0, [], _, by omega, rfl, by simp, hB, World.ownsRow_nil _ _ _ _, h12, Lib.hid (by simp)⟩
      case round =>
        obtain ⟨i, acc, v, hi', rfl, hacc, hBr, hown, hpr, H⟩ := hrel
        have hacc5 : acc.length ≤ 5000 := by omega
        by_cases hlt : i < r.length
        · obtain ⟨l, hl⟩ : ∃ l, r[i]? = some l := ⟨_, List.getElem?_eq_getElem hlt⟩
          have hc := CELL _ i l hpr hl
          have hll := hre l (List.mem_of_getElem? hl)
          have HST := Lib.hid (heads_step hl H.out)
          have l1 : decide ((i : Int) + 1 < (r.length : Int) + 1) = true := decide_eq_true (by omega)
          have l2 : decide ((i : Int) < (r.length : Int)) = true := decide_eq_true (by omega)
          clear CELL H hB
          go_wp2
          obtain ⟨cp, hcp, hout, hat, hH⟩ := headOf_way l
          have hout := Lib.hid hout
          have hgz : g < wr.heap.size := Nat.lt_of_lt_of_le hz hpr.size
          go_loop [14] (fun kk => ∃ a : Nat, a ≤ cp ∧ kk = .int .i64 a) (fun kk => l.length + 1 - (intOf kk).toNat)
          case atStart => exact ⟨0, by omega, rfl⟩
          case round =>
            obtain ⟨a, ha, rfl⟩ := hrel
            by_cases hac : a < cp
            · have n1 : by8 l a ≠ 58 := hout.out a hac
              have l5 : decide ((a : Int) < (l.length : Int)) = true := decide_eq_true (by omega)
              have l6 : a < l.length := by omega
              go_wp2
              go_round
              case rel => exact ⟨a + 1, by omega, by go_num⟩
              case measure => simp [intOf]; omega
            · obtain rfl : a = cp := by omega
              have K : Pur w wr := ((Pur.refl w).alloc _).trans (h1.trans hpr)
              have hBz := bk_pur hB0 hpr
              clear hac hout
              by_cases hal : a < l.length
              · have e8 : by8 l a = 58 := hat hal
                have e5 : decide ((a : Int) < (l.length : Int)) = true := decide_eq_true (by omega)
                have e6 : ((a : Int) == (l.length : Int)) = false := by simp only [beq_eq_false_iff_ne, ne_eq]; omega
                have e7 : (a == l.length) = false := by simp only [beq_eq_false_iff_ne, ne_eq]; omega
                have e9 : (a : Int) + 1 ≤ l.length := by omega
                have TK := fun w => rtoken_any (sub l 0 a) w (by unfold sub; simp; omega)
                have esd : sub l (a + 1) l.length = l.drop (a + 1) := by unfold sub; rw [List.take_of_length_le (by simp)]
                have TX := fun w => rtext_any (sub l (a + 1) l.length) w (by rw [esd]; simp; omega)
                obtain ⟨b1, hb1⟩ : ∃ b1, okToken (sub l 0 a) = b1 := ⟨_, rfl⟩
                obtain ⟨b2, hb2⟩ : ∃ b2, okText (sub l (a + 1) l.length) = b2 := ⟨_, rfl⟩
                rw [hb1] at TK
                rw [hb2] at TX
                have HB1 := Lib.hid hb1
                have HB2 := Lib.hid ((congrArg okText esd).symm.trans hb2)
                have ESD := Lib.hid esd
                clear esd
                have HH := Lib.hid hH
                clear hb1 hb2 hH
                go_upto_region 20 with (fail)
                go_cut [146] (fun u wx => u = .bool (!(b1 && b2)) ∧ wr = wx)
                case first =>
                  clear HST HB1 HB2 HH RDH RDT hBr hown hBz hat
                  rcases b1 with _ | _
                  · clear TX
                    go_wp2_with fail
                    refine (TK _).mono ?_
                    rintro e w' ⟨rfl, rfl⟩
                    go_wp2
                    go_meet
                    exact ⟨rfl, rfl⟩
                  · rcases b2 with _ | _
                    all_goals
                      go_wp2_with fail
                      refine (TK _).mono ?_
                      rintro e w' ⟨rfl, rfl⟩
                      go_wp2_with fail
                      refine (TX _).mono ?_
                      rintro e w' ⟨rfl, rfl⟩
                      go_wp2
                      go_meet
                      exact ⟨rfl, rfl⟩
                case rest =>
                  obtain ⟨rfl, hwc⟩ := hcut
                  subst hwc
                  clear TK TX
                  by_cases hb : b1 = true ∧ b2 = true
                  · obtain ⟨rfl, rfl⟩ := hb
                    have HN := Lib.hid (HST.out.1 (small (sub l 0 a), trim (l.drop (a + 1))) (by rw [HH.out, if_pos ⟨hal, HB1.out, HB2.out⟩]))
                    have SM := fun w => rsmall_any (sub l 0 a) w (by unfold sub; simp; omega)
                    have BL := fun w => blankless_any (sub l (a + 1) l.length) w (by rw [ESD.out]; simp; omega)
                    have ETR := congrArg trim ESD.out
                    rw [ETR] at BL
                    clear ETR
                    have hnb : v.ownBlock ≠ some w1.heap.size := fun e => by have := (hown.lt _ e).1; omega
                    obtain ⟨q0, q1, q2, q3, q4, q5, q6, q7⟩ := blk4 hBr
                    have qz := bk_lt hBr
                    have hal' : acc.length ≤ 5000 := by omega
                    have zi : (0 : Int) ≤ (i : Int) + 1 := by omega
                    have zi2 : (i : Int) + 1 < (r.length : Int) + 1 := by omega
                    have za0 : (0 : Int) ≤ (a : Int) := by omega
                    have za1 : (0 : Int) ≤ (a : Int) + 1 := by omega
                    have za2 : (a : Int) ≤ (l.length : Int) := by omega
                    have za3 : ((a : Int) + 1).toNat = a + 1 := by omega
                    generalize small (sub l 0 a) = sm at *
                    generalize trim (l.drop (a + 1)) = vl at *
                    clear HST HH HB1 HB2 RDH RDT hBz hat hz
                    have zaw : IntKind.i64.wrap ((a : Int) + 1) = (a : Int) + 1 := IntWalk.i64_in _ (by omega)
                    go_wp2
                    go_region_law
                      (first
                        | (refine step_append_lies _ (by rfl) _ _ _ (by rfl) (w1.heap.size + 1) 79 i0 z0 2 32 Tryz.underlying59 hi0 hz0 hz1 hz2 hzs (by omega) v acc.length (fcells acc) (by rfl) (hown5.alloc _)
                            ⟨w5.heap.size, 0, none⟩ 1 1 [.string ⟨sm.toArray⟩, .string ⟨vl.toArray⟩] (by rfl) (by rfl) (World.news_of_block (cs := #[.string ⟨sm.toArray⟩, .string ⟨vl.toArray⟩]) (t := 79) (fr := (0, 0)) (heap_alloc_new w5 _)) (by simp [Value.oneCell'])
                            (by omega) (by unfold maxLen; omega) (by omega) (by simp; omega) (w5.heap.size + 1) (by simp) ?_; intro gg cap w6 hown6 hgrow hat6 hlt6; have q16 : w6.cell? ⟨w1.heap.size, 1, none⟩ = some v := (hgrow.cell_far _ (by simp; omega) (Ne.symm hnb)).trans ((((Pur.refl w5).alloc _).cell (by simp; omega)).trans q15); have q66 : w6.frozen? ⟨w1.heap.size, 1, none⟩ = false := (hgrow.frozen_far _ (by simp; omega) (Ne.symm hnb)).trans ((((Pur.refl w5).alloc _).frozen (by simp; omega)).trans q55))
                        | (go_simp; go_at_call 45; refine (SM _).mono ?_; rintro e w5 ⟨rfl, hpw⟩; have hp45 : Pur wr w5 := (by first | exact hpw | exact ((Pur.refl _).drew).trans hpw); have hown5 := ownsRow_pur hown hp45; have qz5 : w1.heap.size < w5.heap.size := Nat.lt_of_lt_of_le qz hp45.size; have q15 : w5.cell? ⟨w1.heap.size, 1, none⟩ = some v := cell_pur q1 hp45; have q55 : w5.frozen? ⟨w1.heap.size, 1, none⟩ = false := (hp45.frozen (p := ⟨w1.heap.size, 1, none⟩) qz).trans q5; have hc5 := cell_pur hc hp45)
                        | (go_simp; go_at_call 46; refine (BL _).mono ?_; rintro e w' ⟨rfl, rfl⟩))
                    all_goals
                      have hB6 := (hgrow.block w1.heap.size (by simp; omega) (Ne.symm hnb)).trans (bk_alloc (bk_pur hBr hp45) _)
                      have hp6 := ((hpr.trans hp45).alloc _).grown hgrow (by have := (hpr.trans hp45).size; simp; omega) (fun k hk => by have := (hown.lt k hk).1; omega)
                      go_wp2
                      go_roundw
                      case rel =>
                        refine ⟨i + 1, acc ++ [(sm, vl)], _, by omega, by go_num, by simp; omega, heap_setCell_same w6 w1.heap.size 1 _ _ _ hB6, ?_, hp6.setCell (Nat.le_refl _) _, HN⟩
                        rw [List.length_append, ← fcells_snoc]
                        exact Go.RowKit.ownsRow_setCell_below hown6 (by simp) _
                      case measure => simp [intOf]; omega
                  · have HE := Lib.hid (RDH (HST.out.2 (by rw [HH.out, if_neg (fun h => hb ⟨HB1.out.symm.trans h.2.1, HB2.out.symm.trans h.2.2⟩)])))
                    have hbb : (!(b1 && b2)) = true := by cases b1 <;> cases b2 <;> simp_all
                    rw [hbb]
                    clear HST HH HB1 HB2 RDH RDT hBr hown hat hb hbb
                    obtain ⟨p0, p1, p2, p3, p4, p5, p6, p7⟩ := blk4 hBz
                    go_wp2
                    refine bodyPost_ret (v := .tuple #[zeroM, .int .i64 220]) (by simp [results, Tryz.results23, go_sem, zeroM, set_rd, p0, p1, p2, p3]) rfl (rgive_at HE.out ?_)
                    repeat (first | with_reducible exact K | refine Pur.setCell ?_ (Nat.le_refl _) _ | refine Pur.alloc ?_ _)
              · have HE := Lib.hid (RDH (HST.out.2 (by rw [hH, if_neg (fun h => hal h.1)])))
                obtain rfl : a = l.length := by omega
                have e5 : decide ((l.length : Int) < (l.length : Int)) = false := by simp
                clear hH HST hal hat RDH RDT hBr hown
                obtain ⟨p0, p1, p2, p3, p4, p5, p6, p7⟩ := blk4 hBz
                go_wp2
                refine bodyPost_ret (v := .tuple #[zeroM, .int .i64 220]) (by simp [results, Tryz.results23, go_sem, zeroM, set_rd, p0, p1, p2, p3]) rfl (rgive_at HE.out ?_)
                repeat (first | with_reducible exact K | refine Pur.setCell ?_ (Nat.le_refl _) _ | refine Pur.alloc ?_ _)
        · obtain rfl : i = r.length := by omega
          have hacc2 : headsOf r = some acc := by rw [H.out, List.drop_length, headsOf]; simp
          have RT := RDT acc hacc2
          have hread := FRead.of_own hown
          have hvb : v.ownBlock ≠ some w1.heap.size := fun e => by have := (hown.lt _ e).1; omega
          have hvz : v.ownBlock ≠ some w.heap.size := fun e => by have := (hown.lt _ e).1; omega
          have K0 : Pur w wr := ((Pur.refl w).alloc _).trans (h1.trans hpr)
          have hBz := bk_pur hB0 hpr
          have hs1l := fst_len hacc2 hre nLength
          have hwl : w.heap.size ≤ w1.heap.size := by omega
          have hnk : n + 4 = m := by omega
          clear CELL H RDH RDT hown hacc2 hre hB hlt
          obtain ⟨q0, q1, q2, q3, q4, q5, q6, q7⟩ := blk4 hBr
          go_wp2_with fail
          refine (rcount_any _ _ _ acc v nLength _ hread (by omega)).mono ?_
          rintro e wa ⟨rfl, ha⟩
          have hBa := bk_pur hBr ha
          have hra := hread.pur ha
          have hza := bk_pur hBz ha
          have Ka := K0.trans ha
          clear q0 q1 q2 q3 q4 q5 q6 q7 hBr hread hBz K0 ha
          obtain ⟨q0, q1, q2, q3, q4, q5, q6, q7⟩ := blk4 hBa
          go_wp2_with fail
          refine (rcount_any _ _ _ acc v nHost _ hra (by omega)).mono ?_
          rintro e wb ⟨rfl, hb⟩
          have hBb := bk_pur hBa hb
          have hrb := hra.pur hb
          have hzb := bk_pur hza hb
          have Kb := Ka.trans hb
          clear q0 q1 q2 q3 q4 q5 q6 q7 hBa hra hza Ka hb
          have CC := fun (wx : World) x0 x2 x3 (hx : FRead wx v acc) => rcount_any x0 x2 x3 acc v nCoded wx hx (by omega)
          have SZ := size_dig acc
          unfold rdTail at RT
          have n1l := cnt_le acc nLength
          have n2l := cnt_le acc nHost
          have n3l := cnt_le acc nCoded
          generalize sizeOf' acc = szo at *
          generalize cnt acc nLength = n1 at *
          generalize cnt acc nHost = n2 at *
          generalize cnt acc nCoded = n3 at *
          generalize fst' acc nLength = s1 at *
          by_cases hA : 1 < n1
          · rw [if_pos (.inl hA)] at RT
            have e1 : decide ((1 : Int) < n1) = true := decide_eq_true (by omega)
            have HE := Lib.hid RT
            have K := Kb
            obtain ⟨p0, p1, p2, p3, p4, p5, p6, p7⟩ := blk4 hzb
            clear RT hA SZ CC hBb hrb
            go_wp2
            refine bodyPost_ret (v := .tuple #[zeroM, .int .i64 220]) (by simp [results, Tryz.results23, go_sem, zeroM, set_rd, p0, p1, p2, p3]) rfl (rgive_at HE.out ?_)
            repeat (first | with_reducible exact K | refine Pur.setCell ?_ (Nat.le_refl _) _ | refine Pur.alloc ?_ _)
          have e1 : decide ((1 : Int) < n1) = false := decide_eq_false (by omega)
          by_cases hHo : true = true ∧ n2 ≠ 1
          · rw [if_pos (.inr hHo)] at RT
            have e2 : ((n2 : Int) != 1) = true := by simp only [bne_iff_ne, ne_eq]; have := hHo.2; omega
            have HE := Lib.hid RT
            have K := Kb
            obtain ⟨p0, p1, p2, p3, p4, p5, p6, p7⟩ := blk4 hzb
            clear RT hHo SZ CC hBb hrb
            go_wp2
            refine bodyPost_ret (v := .tuple #[zeroM, .int .i64 220]) (by simp [results, Tryz.results23, go_sem, zeroM, set_rd, p0, p1, p2, p3]) rfl (rgive_at HE.out ?_)
            repeat (first | with_reducible exact K | refine Pur.setCell ?_ (Nat.le_refl _) _ | refine Pur.alloc ?_ _)
          have e2 : ((n2 : Int) != 1) = false := by
            have : n2 = 1 := by by_cases h : n2 = 1; exact h; exact absurd ⟨rfl, h⟩ hHo
            simp [this]
          rw [if_neg (by rintro (h | h); exact hA h; exact hHo h)] at RT
          clear hHo
          obtain ⟨q0, q1, q2, q3, q4, q5, q6, q7⟩ := blk4 hBb
          go_wp2_with fail
          refine (CC _ _ _ _ hrb).mono ?_
          rintro e wc ⟨rfl, hc⟩
          have hBc := bk_pur hBb hc
          have hrc := hrb.pur hc
          have hzc := bk_pur hzb hc
          have Kc := Kb.trans hc
          clear q0 q1 q2 q3 q4 q5 q6 q7 hBb hrb hzb Kb hc CC
          by_cases hB1 : n1 = 1
          · subst hB1
            have Z1 := (SZ.1 rfl).neg
            have Z2 := (SZ.1 rfl).pos
            have Z3 := (SZ.1 rfl).lt
            have DG := fun wx => rdigits9_any s1 wx (by omega)
            clear SZ
            generalize dig9 s1 = z at *
            by_cases hz : z < 0
            · rw [Z1 hz] at RT
              simp only at RT
              have dz : decide (z < 0) = true := decide_eq_true hz
              have HE := Lib.hid RT
              have K := Kc
              clear RT Z1 Z2 Z3 hz
              go_wp2_with fail
              refine (DG _).mono ?_
              rintro e w' ⟨rfl, rfl⟩
              obtain ⟨p0, p1, p2, p3, p4, p5, p6, p7⟩ := blk4 hzc
              clear DG hBc hrc
              by_cases h3 : 0 < n3
              · have e3 : decide ((0 : Int) < n3) = true := decide_eq_true (by omega)
                have e3n : ¬ n3 = 0 := by omega
                go_wp2
                all_goals
                  refine bodyPost_ret (v := .tuple #[zeroM, .int .i64 222]) (by simp [results, Tryz.results23, go_sem, zeroM, set_rd, p0, p1, p2, p3]) rfl (rgive_at HE.out ?_)
                  repeat (first | with_reducible exact K | refine Pur.setCell ?_ (Nat.le_refl _) _ | refine Pur.alloc ?_ _)
              · obtain rfl : n3 = 0 := by omega
                go_wp2
                all_goals
                  refine bodyPost_ret (v := .tuple #[zeroM, .int .i64 222]) (by simp [results, Tryz.results23, go_sem, zeroM, set_rd, p0, p1, p2, p3]) rfl (rgive_at HE.out ?_)
                  repeat (first | with_reducible exact K | refine Pur.setCell ?_ (Nat.le_refl _) _ | refine Pur.alloc ?_ _)
            · obtain ⟨sz, rfl⟩ : ∃ sz : Nat, z = sz := ⟨z.toNat, by omega⟩
              rw [Z2 sz rfl] at RT
              simp only at RT
              have dz : decide ((sz : Int) < 0) = false := decide_eq_false (by omega)
              have hsz := Z3 sz rfl
              clear Z1 Z2 Z3 hz
              go_wp2_with fail
              refine (DG _).mono ?_
              rintro e w' ⟨rfl, rfl⟩
              clear DG
              obtain ⟨p0, p1, p2, p3, p4, p5, p6, p7⟩ := blk4 hzc
              obtain ⟨q0, q1, q2, q3, q4, q5, q6, q7⟩ := blk4 hBc
              have K := Kc
              by_cases hD : 0 < n3 ∨ 4096 < sz
              · rw [if_pos hD] at RT
                have HE := Lib.hid RT
                clear RT
                by_cases h3 : 0 < n3
                · have e3 : decide ((0 : Int) < n3) = true := decide_eq_true (by omega)
                  have e3n : ¬ n3 = 0 := by omega
                  clear hD
                  go_wp2
                  all_goals
                    refine bodyPost_ret (v := .tuple #[zeroM, .int .i64 222]) (by simp [results, Tryz.results23, go_sem, zeroM, set_rd, p0, p1, p2, p3]) rfl (rgive_at HE.out ?_)
                    repeat (first | with_reducible exact K | refine Pur.setCell ?_ (Nat.le_refl _) _ | refine Pur.alloc ?_ _)
                · obtain rfl : n3 = 0 := by omega
                  have e4 : decide ((4096 : Int) < ((sz : Nat) : Int)) = true := decide_eq_true (by omega)
                  clear hD
                  go_wp2
                  all_goals
                    refine bodyPost_ret (v := .tuple #[zeroM, .int .i64 222]) (by simp [results, Tryz.results23, go_sem, zeroM, set_rd, p0, p1, p2, p3]) rfl (rgive_at HE.out ?_)
                    repeat (first | with_reducible exact K | refine Pur.setCell ?_ (Nat.le_refl _) _ | refine Pur.alloc ?_ _)
              rw [if_neg hD] at RT
              obtain rfl : n3 = 0 := by omega
              have e4 : decide ((4096 : Int) < ((sz : Nat) : Int)) = false := decide_eq_false (by omega)
              by_cases hE : b.length - (n + 4) < sz
              · rw [if_pos hE] at RT
                have HE := Lib.hid RT
                have e5 : decide ((b.length : Int) < (m : Int) + ((sz : Nat) : Int)) = true := decide_eq_true (by omega)
                clear RT hD
                go_wp2
                all_goals
                  refine bodyPost_ret (v := .tuple #[zeroM, .int .i64 3]) (by simp [results, Tryz.results23, go_sem, zeroM, set_rd, p0, p1, p2, p3]) rfl (rgive_at HE.out ?_)
                  repeat (first | with_reducible exact K | refine Pur.setCell ?_ (Nat.le_refl _) _ | refine Pur.alloc ?_ _)
              rw [if_neg hE] at RT
              have e5 : decide ((b.length : Int) < (m : Int) + ((sz : Nat) : Int)) = false := decide_eq_false (by omega)
              obtain ⟨m5, hm5⟩ : ∃ m5 : Nat, m5 = n + 4 + sz := ⟨_, rfl⟩
              have hsub : (b.drop (n + 4)).take sz = sub b m m5 := by unfold sub; rw [hm5, hnk]; congr 1; omega
              have hn5 : n + 4 + sz = m5 := hm5.symm
              rw [hsub, hn5] at RT
              have hm5i : (m : Int) + ((sz : Nat) : Int) = (m5 : Int) := by omega
              have z1 : (0 : Int) ≤ (m : Int) := by omega
              have z2 : (m : Int) ≤ m5 := by omega
              have z3 : (m5 : Int) ≤ b.length := by omega
              have HE := Lib.hid RT
              have hne : w1.heap.size ≠ w.heap.size := by omega
              have hne' : w.heap.size ≠ w1.heap.size := by omega
              have hqz := bk_lt hBc
              have hpz := bk_lt hzc
              have s0 : ((wc.setCell ⟨w1.heap.size, 2, none⟩ (.string ⟨(sub b m m5).toArray⟩)).setCell ⟨w1.heap.size, 3, none⟩ (.int .i64 ((m5 : Nat) : Int))).cell? ⟨w.heap.size, 0, none⟩ = some (.string ⟨#[]⟩) := by rw [set_blk14 hne, set_blk14 hne, p0]
              have s1 : ((wc.setCell ⟨w1.heap.size, 2, none⟩ (.string ⟨(sub b m m5).toArray⟩)).setCell ⟨w1.heap.size, 3, none⟩ (.int .i64 ((m5 : Nat) : Int))).cell? ⟨w.heap.size, 1, none⟩ = some (.slice none 0 0) := by rw [set_blk14 hne, set_blk14 hne, p1]
              have s2 : ((wc.setCell ⟨w1.heap.size, 2, none⟩ (.string ⟨(sub b m m5).toArray⟩)).setCell ⟨w1.heap.size, 3, none⟩ (.int .i64 ((m5 : Nat) : Int))).cell? ⟨w.heap.size, 2, none⟩ = some (.string ⟨#[]⟩) := by rw [set_blk14 hne, set_blk14 hne, p2]
              have s3 : ((wc.setCell ⟨w1.heap.size, 2, none⟩ (.string ⟨(sub b m m5).toArray⟩)).setCell ⟨w1.heap.size, 3, none⟩ (.int .i64 ((m5 : Nat) : Int))).cell? ⟨w.heap.size, 3, none⟩ = some (.int .i64 0) := by rw [set_blk14 hne, set_blk14 hne, p3]
              obtain ⟨av, cv, hv0, -⟩ := id hrc
              subst hv0
              clear RT hD hE hsub hn5 hm5
              go_wp2
              all_goals
                refine bodyPost_ret (v := .tuple #[.agg #[.string ⟨f.toArray⟩, .slice av acc.length cv, .string ⟨(sub b m m5).toArray⟩, .int .i64 ((m5 : Nat) : Int)], .int .i64 0]) (by simp [results, Tryz.results23, go_sem, zeroM, set_rd, s0, s1, s2, s3]) rfl ?_
                rw [HE.out]
                refine ⟨_, rfl, ?_, by simp only; omega, ?_⟩
                · exact FRead.set (FRead.set (FRead.set (FRead.set (FRead.set (FRead.set hrc hvb) hvb) hvz) hvz) hvz) hvz
                · repeat (first | with_reducible exact K | refine Pur.setCell ?_ (Nat.le_refl _) _ | refine Pur.setCell ?_ hwl _ | refine Pur.alloc ?_ _)
          · rw [SZ.2 hB1] at RT
            simp only at RT
            have b1 : ((n1 : Int) == 1) = false := by simp only [beq_eq_false_iff_ne, ne_eq]; omega
            clear SZ hB1
            obtain ⟨p0, p1, p2, p3, p4, p5, p6, p7⟩ := blk4 hzc
            obtain ⟨q0, q1, q2, q3, q4, q5, q6, q7⟩ := blk4 hBc
            have K := Kc
            by_cases hD : 0 < n3 ∨ 4096 < (0 : Nat)
            · rw [if_pos hD] at RT
              have HE := Lib.hid RT
              clear RT
              by_cases h3 : 0 < n3
              · have e3 : decide ((0 : Int) < n3) = true := decide_eq_true (by omega)
                have e3n : ¬ n3 = 0 := by omega
                clear hD
                go_wp2
                all_goals
                  refine bodyPost_ret (v := .tuple #[zeroM, .int .i64 222]) (by simp [results, Tryz.results23, go_sem, zeroM, set_rd, p0, p1, p2, p3]) rfl (rgive_at HE.out ?_)
                  repeat (first | with_reducible exact K | refine Pur.setCell ?_ (Nat.le_refl _) _ | refine Pur.alloc ?_ _)
              · exfalso; omega
            rw [if_neg hD] at RT
            obtain rfl : n3 = 0 := by omega
            have e4 : decide ((4096 : Int) < (((0 : Nat) : Nat) : Int)) = false := decide_eq_false (by omega)
            by_cases hE : b.length - (n + 4) < (0 : Nat)
            · exfalso; omega
            rw [if_neg hE] at RT
            have e5 : decide ((b.length : Int) < (m : Int)) = false := decide_eq_false (by omega)
            have hm5 : m = n + 4 + (0 : Nat) := by omega
            have hsub : (b.drop (n + 4)).take (0 : Nat) = sub b m m := by unfold sub; rw [hm5, hnk]; congr 1; omega
            have hn5 : n + 4 + (0 : Nat) = m := hm5.symm
            rw [hsub, hn5] at RT
            have z1 : (0 : Int) ≤ (m : Int) := by omega
            have z2 : (m : Int) ≤ m := by omega
            have z3 : (m : Int) ≤ b.length := by omega
            have HE := Lib.hid RT
            have hne : w1.heap.size ≠ w.heap.size := by omega
            have hne' : w.heap.size ≠ w1.heap.size := by omega
            have hqz := bk_lt hBc
            have hpz := bk_lt hzc
            have s0 : ((wc.setCell ⟨w1.heap.size, 2, none⟩ (.string ⟨(sub b m m).toArray⟩)).setCell ⟨w1.heap.size, 3, none⟩ (.int .i64 ((m : Nat) : Int))).cell? ⟨w.heap.size, 0, none⟩ = some (.string ⟨#[]⟩) := by rw [set_blk14 hne, set_blk14 hne, p0]
            have s1 : ((wc.setCell ⟨w1.heap.size, 2, none⟩ (.string ⟨(sub b m m).toArray⟩)).setCell ⟨w1.heap.size, 3, none⟩ (.int .i64 ((m : Nat) : Int))).cell? ⟨w.heap.size, 1, none⟩ = some (.slice none 0 0) := by rw [set_blk14 hne, set_blk14 hne, p1]
            have s2 : ((wc.setCell ⟨w1.heap.size, 2, none⟩ (.string ⟨(sub b m m).toArray⟩)).setCell ⟨w1.heap.size, 3, none⟩ (.int .i64 ((m : Nat) : Int))).cell? ⟨w.heap.size, 2, none⟩ = some (.string ⟨#[]⟩) := by rw [set_blk14 hne, set_blk14 hne, p2]
            have s3 : ((wc.setCell ⟨w1.heap.size, 2, none⟩ (.string ⟨(sub b m m).toArray⟩)).setCell ⟨w1.heap.size, 3, none⟩ (.int .i64 ((m : Nat) : Int))).cell? ⟨w.heap.size, 3, none⟩ = some (.int .i64 0) := by rw [set_blk14 hne, set_blk14 hne, p3]
            obtain ⟨av, cv, hv0, -⟩ := id hrc
            subst hv0
            clear RT hD hE hsub hn5 hm5
            go_wp2
            all_goals
              refine bodyPost_ret (v := .tuple #[.agg #[.string ⟨f.toArray⟩, .slice av acc.length cv, .string ⟨(sub b m m).toArray⟩, .int .i64 ((m : Nat) : Int)], .int .i64 0]) (by simp [results, Tryz.results23, go_sem, zeroM, set_rd, s0, s1, s2, s3]) rfl ?_
              rw [HE.out]
              refine ⟨_, rfl, ?_, by simp only; omega, ?_⟩
              · exact FRead.set (FRead.set (FRead.set (FRead.set (FRead.set (FRead.set hrc hvb) hvb) hvz) hvz) hvz) hvz
              · repeat (first | with_reducible exact K | refine Pur.setCell ?_ (Nat.le_refl _) _ | refine Pur.setCell ?_ hwl _ | refine Pur.alloc ?_ _)
theorem rreadq_any (b : Bytes) (w : World) (hs : b.length ≤ 10000000) :
    Calls Tryz.prog 23 #[.string ⟨b.toArray⟩, .bool true] w fun e w' => RGives w (readMsg (fun s => (reqLine s).isSome) true b) e w' := by
  cases hi : idx crlf2 b with
  | none =>
    by_cases h : 4096 < b.length
    · exact rreadq_long b w hs hi h
    · exact rreadq_none b w hs hi (by omega)
  | some k =>
    by_cases hk : k + 4 ≤ 4096
    · cases hp : pcs crlf (b.take k) with
      | nil => exact absurd hp (pcs_ne _)
      | cons f r =>
        cases hr : (reqLine f).isSome with
        | false => exact rreadq_first b k w hs hi hk (fun f' r' h => by rw [hp] at h; injection h with h1 _; rw [← h1]; exact hr)
        | true => exact rreadq_heads b k w hs hi hk (fun f' r' h => by rw [hp] at h; injection h with h1 _; rw [← h1]; exact hr)
    · exact rreadq_far b k w hs hi (by omega)
end Go.Proofs.YtlgdkaeiadhiaaaGreatDoor
