/- A request written. -/
import Derived.Test.YtlgdkaeiadhiaaaGreatDoorHt16
import Derived.Test.YtlgdkaeiadhiaaaGreatDoorHt17
import Derived.Deep.DeepCutAuto
namespace Go.Proofs.YtlgdkaeiadhiaaaGreatDoor
open Go Go.RowKit
set_option linter.all false
def rsize (r : Req) : Nat := r.method.length + r.target.length + r.host.length + r.type.length + r.body.length
theorem reqText_len (r : Req) (h : rsize r ≤ 2000000) : (reqText r).length ≤ 3000000 := by
  unfold rsize at h
  have l2 := itoa_len (r.body.length : Int) (by omega) (by omega)
  unfold reqText
  have e1 : vHttp.length = 8 := rfl
  have e2 : crlf.length = 2 := rfl
  have e3 : tHost.length = 6 := rfl
  have e4 : tType.length = 14 := rfl
  have e5 : tLength.length = 16 := rfl
  have e6 : crlf2.length = 4 := rfl
  simp only [List.length_append, List.length_cons, List.length_nil]
  split <;> simp only [List.length_append, List.length_cons, List.length_nil] <;> omega
/-- the block of the request is as it came -/
def ReqBlk (w wx : World) (m t h y b : Bytes) : Prop := wx.heap[w.heap.size]? = some (.cells #[.string ⟨m.toArray⟩, .string ⟨t.toArray⟩, .string ⟨h.toArray⟩, .string ⟨y.toArray⟩, .string ⟨b.toArray⟩] 24 (0, 0))
set_option maxRecDepth 100000 in
set_option maxHeartbeats 4000000 in
theorem writereq_any (r : Req) (w : World) (hW : HW w) (hr : rsize r ≤ 2000000) :
    Calls Tryz.prog 14 #[reqV r] w fun e w' => e = .returned (.tuple #[.string ⟨(writeReq r).1.toArray⟩, .int .i64 (writeReq r).2]) ∧ Pur w w' := by
  have hl := reqText_len r hr
  have RD := fun wx (hx : HW wx) => readreq_any (reqText r) wx hx (by omega)
  have hwr : writeReq r = if readReq (reqText r) = (r, (reqText r).length, 0) then (reqText r, 0) else ([], 1) := rfl
  rw [hwr]
  clear hwr
  have I2 := fun wx (hx : HW wx) => itoa_any (r.body.length : Int) wx hx (by unfold rsize at hr; omega) (by unfold rsize at hr; omega)
  have l2 := itoa_len (r.body.length : Int) (by unfold rsize at hr; omega) (by unfold rsize at hr; omega)
  have hT : reqText r = r.method ++ [32] ++ r.target ++ 32 :: vHttp ++ crlf ++ tHost ++ r.host ++ crlf ++ (if r.type = [] then [] else tType ++ r.type ++ crlf) ++ tLength ++ Lib.itoa r.body.length ++ crlf2 ++ r.body := rfl
  generalize readReq (reqText r) = rd at *
  generalize reqText r = s at *
  generalize Lib.itoa (r.body.length : Int) = ib at *
  obtain ⟨m, t, h, y, b⟩ := r
  simp only [reqV, rsize] at *
  obtain ⟨⟨m', t', h', y', b'⟩, n', e'⟩ := rd
  obtain ⟨b1, t1⟩ : ∃ b1, (e' != 0) = b1 := ⟨_, rfl⟩
  obtain ⟨b2, t2⟩ : ∃ b2, (((n' : Nat) : Int) != ((s.length : Nat) : Int)) = b2 := ⟨_, rfl⟩
  obtain ⟨b3, t3⟩ : ∃ b3, reqEq ⟨m', t', h', y', b'⟩ ⟨m, t, h, y, b⟩ = b3 := ⟨_, rfl⟩
  have hR : (if ((⟨m', t', h', y', b'⟩ : Req), n', e') = (⟨m, t, h, y, b⟩, s.length, 0) then ((s : Bytes), (0 : Int)) else ([], 1)) = if b1 || b2 || !b3 then ([], 1) else (s, 0) := by
    subst t1 t2 t3
    unfold reqEq
    by_cases h1 : e' = 0
    · by_cases h2 : n' = s.length
      · by_cases h3 : (⟨m', t', h', y', b'⟩ : Req) = ⟨m, t, h, y, b⟩
        · rw [if_pos (by rw [h1, h2, h3]), decide_eq_true h3, h1, h2]; simp
        · rw [if_neg (fun e => h3 (congrArg Prod.fst e)), decide_eq_false h3]; simp
      · rw [if_neg (fun e => h2 (congrArg (fun x => x.2.1) e)), if_pos]
        have : (((n' : Nat) : Int) != ((s.length : Nat) : Int)) = true := by simp only [bne_iff_ne, ne_eq]; omega
        rw [this]; simp
    · rw [if_neg (fun e => h1 (congrArg (fun x => x.2.2) e)), if_pos]
      have : (e' != 0) = true := by simpa using h1
      rw [this]; simp
  rw [hR]
  clear hR
  have c4 : ∀ x : PW (w.alloc (.cells #[.string ⟨m.toArray⟩, .string ⟨t.toArray⟩, .string ⟨h.toArray⟩, .string ⟨y.toArray⟩, .string ⟨b.toArray⟩] 24)), x.to.cell? ⟨w.heap.size, 4, none⟩ = some (.string ⟨b.toArray⟩) := fun x => (x.pur.cell (by simp)).trans (by simp)
  have hW1 := hW.pur ((Pur.refl w).alloc (.cells #[.string ⟨m.toArray⟩, .string ⟨t.toArray⟩, .string ⟨h.toArray⟩, .string ⟨y.toArray⟩, .string ⟨b.toArray⟩] 24))
  have I1 := fun (x : PW (w.alloc (.cells #[.string ⟨m.toArray⟩, .string ⟨t.toArray⟩, .string ⟨h.toArray⟩, .string ⟨y.toArray⟩, .string ⟨b.toArray⟩] 24))) => I2 x.to (hW1.pur x.pur)
  clear I2
  have HT := Lib.hid hT
  have T1 := Lib.hid t1
  have T2 := Lib.hid t2
  have T3 := Lib.hid t3
  clear hT t1 t2 t3
  by_cases hy : y = []
  · subst hy
    have HS := Lib.hid (HT.out.trans (by rw [if_pos rfl]))
    clear HT
    go_enter Tryz.func14, Tryz.ntmps14
    go_upto_region 4 with (fail)
    go_cut [4] from 8 to 61 (fun u wx => u = .string ⟨s.toArray⟩ ∧ ReqBlk w wx m t h [] b ∧ Pur w wx)
    case first =>
      clear RD T1 T2 T3
      refine wp_region_pur (by kernel_rfl) (by kernel_rfl) ?_
      repeat (first | (quiet_step ((first | (go_at_call 29; with_reducible exact quiet_pur (I1 _))))) | (refine wpQuiet_step (fun K hK => ?_); go_simp; apply Exists.intro; refine ⟨fun _ => ?_, hK _ ?_⟩; (rw [if_neg (by omega)]; exact ⟨rfl, rfl⟩); clear hK K))
      refine wpQuiet_nil ?_
      intro wq hq
      go_wp2
      go_meet
      refine ⟨?_, bk_pur (bk_new w _) hq, ((Pur.refl w).alloc _).trans hq⟩
      rw [HS.out]
      simp [vHttp, crlf, crlf2, tLength, tHost]
    case rest =>
      obtain ⟨rfl, hB, hp⟩ := hcut
      clear HS I1 c4 hW1
      have hBc := hB
      obtain ⟨q0, q1, q2, q3, q4, -, -, -, -, -⟩ := blk5 hB
      go_wp2_with fail
      refine (RD _ (hW.pur hp)).mono ?_
      rintro e wr ⟨rfl, hpr⟩
      have t1 := T1.out
      have t2 := T2.out
      have t3 := T3.out
      clear q0 q1 q2 q3 q4 T1 T2 T3 RD
      obtain ⟨q0, q1, q2, q3, q4, -, -, -, -, -⟩ := blk5 (bk_pur hBc hpr)
      have z := bk_lt (bk_pur hBc hpr)
      have K := Lib.hid (hp.trans hpr)
      clear hBc hB hp hpr hW
      rcases b1 with _ | _ <;> rcases b2 with _ | _ <;> rcases b3 with _ | _
      all_goals
        go_wp2
        go_ret2
        refine ⟨rfl, ?_⟩
        have hpu := K.out
        repeat (first | with_reducible exact hpu | with_reducible refine Pur.setCell ?_ (by simp) _ | with_reducible refine Pur.alloc ?_ _)
  · have HS := Lib.hid (HT.out.trans (by rw [if_neg hy]))
    have q0' := isEmpty_no hy
    have q0'' := beq_no hy
    clear HT hy
    go_enter Tryz.func14, Tryz.ntmps14
    go_upto_region 4 with (fail)
    go_cut [4] from 8 to 61 (fun u wx => u = .string ⟨s.toArray⟩ ∧ ReqBlk w wx m t h y b ∧ Pur w wx)
    case first =>
      clear RD T1 T2 T3
      refine wp_region_pur (by kernel_rfl) (by kernel_rfl) ?_
      repeat (first | (quiet_step ((first | (go_at_call 29; with_reducible exact quiet_pur (I1 _))))) | (refine wpQuiet_step (fun K hK => ?_); go_simp; apply Exists.intro; refine ⟨fun _ => ?_, hK _ ?_⟩; (rw [if_neg (by omega)]; exact ⟨rfl, rfl⟩); clear hK K))
      refine wpQuiet_nil ?_
      intro wq hq
      go_wp2
      go_meet
      refine ⟨?_, bk_pur (bk_new w _) hq, ((Pur.refl w).alloc _).trans hq⟩
      rw [HS.out]
      simp [vHttp, crlf, crlf2, tLength, tHost, tType]
    case rest =>
      obtain ⟨rfl, hB, hp⟩ := hcut
      clear HS I1 c4 hW1 q0' q0''
      have hBc := hB
      obtain ⟨q0, q1, q2, q3, q4, -, -, -, -, -⟩ := blk5 hB
      go_wp2_with fail
      refine (RD _ (hW.pur hp)).mono ?_
      rintro e wr ⟨rfl, hpr⟩
      have t1 := T1.out
      have t2 := T2.out
      have t3 := T3.out
      clear q0 q1 q2 q3 q4 T1 T2 T3 RD
      obtain ⟨q0, q1, q2, q3, q4, -, -, -, -, -⟩ := blk5 (bk_pur hBc hpr)
      have z := bk_lt (bk_pur hBc hpr)
      have K := Lib.hid (hp.trans hpr)
      clear hBc hB hp hpr hW
      rcases b1 with _ | _ <;> rcases b2 with _ | _ <;> rcases b3 with _ | _
      all_goals
        go_wp2
        go_ret2
        refine ⟨rfl, ?_⟩
        have hpu := K.out
        repeat (first | with_reducible exact hpu | with_reducible refine Pur.setCell ?_ (by simp) _ | with_reducible refine Pur.alloc ?_ _)
end Go.Proofs.YtlgdkaeiadhiaaaGreatDoor
