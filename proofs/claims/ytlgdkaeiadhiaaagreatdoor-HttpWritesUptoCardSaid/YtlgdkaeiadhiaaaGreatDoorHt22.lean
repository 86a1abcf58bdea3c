/- The law HttpMany. -/
import Derived.Test.YtlgdkaeiadhiaaaGreatDoorHt19
import Derived.Test.YtlgdkaeiadhiaaaGreatDoorOpenRows
namespace Go.Proofs.YtlgdkaeiadhiaaaGreatDoor
open Go Go.RowKit
set_option linter.all false
theorem req_info : (Tryz.prog.info? 24).map (fun i => (i.zero.map (·.cells.size), i.size, i.bytes)) = some (some 5, 5, 80) := by kernel_rfl
def rcells (r : Req) : List Value := [.string ⟨r.method.toArray⟩, .string ⟨r.target.toArray⟩, .string ⟨r.host.toArray⟩, .string ⟨r.type.toArray⟩, .string ⟨r.body.toArray⟩]
def texts (rs : List Req) : Bytes := rs.flatMap reqText
/-- a request that is written -/
def Okr (r : Req) : Prop := readReq (reqText r) = (r, (reqText r).length, 0) ∧ 1 ≤ (reqText r).length ∧ (reqText r).length ≤ 9000
theorem okr_cases (r : Req) : writeReq r = ([], 1) ∨ (writeReq r = (reqText r, 0) ∧ Okr r) := by
  rcases writeReq_cases r with h | ⟨h, h'⟩
  · exact .inl h
  · obtain ⟨_, _, _, h4, _, m, e, hm, hn⟩ := readReq_some h'
    have := readMsg_len hm
    exact .inr ⟨h, h', by omega, by omega⟩
theorem texts_snoc (rs : List Req) (r : Req) : texts (rs ++ [r]) = texts rs ++ reqText r := by simp [texts]
theorem texts_len : ∀ (rs : List Req), (∀ r ∈ rs, Okr r) → (texts rs).length ≤ rs.length * 9000
  | [], _ => by simp [texts]
  | r :: rs, h => by
    have h1 := (h r (by simp)).2.2
    have h2 := texts_len rs (fun x hx => h x (List.mem_cons_of_mem _ hx))
    simp only [texts, List.flatMap_cons, List.length_append, List.length_cons] at h2 ⊢
    omega
theorem drop_cons {rs : List Req} {n : Nat} {r : Req} (h : rs[n]? = some r) : texts (rs.drop n) = reqText r ++ texts (rs.drop (n + 1)) := by
  have hlt := (List.getElem?_eq_some_iff.1 h).1
  rw [List.drop_eq_getElem_cons hlt]
  rw [List.getElem?_eq_getElem hlt] at h
  rw [Option.some.inj h]
  simp [texts]
set_option maxRecDepth 100000 in
set_option maxHeartbeats 4000000 in
theorem many_law (rs : List Req) (v : Value) (w : World) (hW : HW w) (hR : LRead 5 rcells w v rs) (hr : ∀ r ∈ rs, rsize r ≤ 2000000) (hlen : rs.length ≤ 100000000) :
    Calls Tryz.prog 7 #[v] w fun e w' => e = .returned (.bool true) ∧ Pur w w' := by
  obtain ⟨a, c, rfl, hC⟩ := hR
  by_cases h8 : 8 < rs.length
  · have d1 : decide ((8 : Int) < rs.length) = true := decide_eq_true (by omega)
    clear hC h8
    go_enter Tryz.func7, Tryz.ntmps7
    go_wp2_with fail
    refine (awake_any _ hW).mono ?_
    rintro e w0 ⟨rfl, h0⟩
    go_wp2
    go_ret
    exact ⟨rfl, h0⟩
  have d1 : decide ((8 : Int) < rs.length) = false := decide_eq_false (by omega)
  obtain ⟨i0, hi, hz⟩ := Option.map_eq_some_iff.1 req_info
  simp only [Prod.mk.injEq] at hz
  obtain ⟨hz0, hz1, hz2⟩ := hz
  obtain ⟨z0, hz0, hzs⟩ := Option.map_eq_some_iff.1 hz0
  go_enter Tryz.func7, Tryz.ntmps7
  go_wp2_with fail
  refine (awake_any _ hW).mono ?_
  rintro e w0 ⟨rfl, h0⟩
  go_wp2
  have hC0 := fun (j : Nat) (r : Req) hj => (hC j r hj)
  go_loopw [3, 4, 21] (fun al rt i wr => ∃ (n : Nat) (acc : List Req), n ≤ rs.length ∧ i = .int .i64 n ∧ acc.length ≤ n ∧ al = .string ⟨(texts acc).toArray⟩ ∧ wr.ownsRow w0.heap.size 24 5 rt acc.length (acc.flatMap rcells) ∧ Pur w0 wr ∧ Hid (∀ r ∈ acc, Okr r)) (fun _ _ i _ => rs.length + 1 - (intOf i).toNat)
  case atStart => exact ⟨0, [], by omega, rfl, by simp, rfl, World.ownsRow_nil _ _ _ _, Pur.refl w0, Lib.hid (fun r hr => by cases hr)⟩
  case round =>
    obtain ⟨n, acc, hn, rfl, hacc, rfl, hown, hpr, HO⟩ := hrel
    have hWr := hW.pur (h0.trans hpr)
    by_cases hlt : n < rs.length
    · have hlt' : (n : Int) < rs.length := by omega
      have hn0 : (0 : Int) ≤ n := by omega
      obtain ⟨r, hrj⟩ : ∃ r, rs[n]? = some r := ⟨_, List.getElem?_eq_getElem hlt⟩
      have hrs := hr r (List.mem_of_getElem? hrj)
      obtain ⟨b, o, ha, hb, hcell⟩ := hC n r hrj
      have k0 := cell_pur (hcell 0 _ rfl) (h0.trans hpr)
      have k1 := cell_pur (hcell 1 _ rfl) (h0.trans hpr)
      have k2 := cell_pur (hcell 2 _ rfl) (h0.trans hpr)
      have k3 := cell_pur (hcell 3 _ rfl) (h0.trans hpr)
      have k4 := cell_pur (hcell 4 _ rfl) (h0.trans hpr)
      rw [Nat.add_zero] at k0
      subst ha
      have hok := okr_cases r
      obtain ⟨⟨s, e0⟩, hw0⟩ : ∃ x, writeReq r = x := ⟨_, rfl⟩
      have W1 := writereq_lit r s e0 hw0 hrs
      rw [hw0] at hok
      have htl := texts_len acc HO.out
      clear hcell hC0 hw0
      have HR := Lib.hid hrj
      clear hrj
      rcases hok with hok | ⟨hok, hok2⟩
      · obtain ⟨rfl, rfl⟩ := Prod.mk.inj hok
        clear hok
        obtain ⟨m, t, h, y, q⟩ := r
        simp only at k0 k1 k2 k3 k4 W1
        go_wp2_with fail
        refine (W1 _ (hWr.pur ((Pur.refl _).alloc _))).mono ?_
        rintro e w2 ⟨rfl, h2⟩
        go_wp2
        go_roundw
        case rel => exact ⟨n + 1, acc, by omega, by go_num, by omega, rfl, ownsRow_pur hown (((Pur.refl _).alloc _).trans h2), (hpr.alloc _).trans h2, HO⟩
        case measure => simp [intOf]; omega
      · obtain ⟨rfl, rfl⟩ := Prod.mk.inj hok
        clear hok
        have hl9 := hok2.2.2
        have HN := Lib.hid (show ∀ x ∈ acc ++ [r], Okr x from fun x hx => by
          rcases List.mem_append.1 hx with hx | hx
          · exact HO.out x hx
          · rw [List.mem_singleton.1 hx]; exact hok2)
        have HT := Lib.hid (texts_snoc acc r)
        have y1 : ¬ 9223372036854775807 < (texts acc).length + (reqText r).length := by omega
        have HF : Hid ((acc ++ [r]).flatMap rcells = acc.flatMap rcells ++ rcells r) := Lib.hid (by simp)
        clear hok2
        generalize reqText r = s at *
        obtain ⟨m, t, h, y, q⟩ := r
        simp only at k0 k1 k2 k3 k4 W1
        go_wp2_with fail
        refine (W1 _ (hWr.pur ((Pur.refl _).alloc _))).mono ?_
        rintro e w2 ⟨rfl, h2⟩
        have j2 := bk_pur (bk_new _ _) h2
        obtain ⟨c0, c1, c2, c3, c4, f0, f1, f2, f3, f4⟩ := blk5 j2
        have hq := ((Pur.refl wr).alloc (.cells #[.string ⟨m.toArray⟩, .string ⟨t.toArray⟩, .string ⟨h.toArray⟩, .string ⟨y.toArray⟩, .string ⟨q.toArray⟩] 24)).trans h2
        clear k0 k1 k2 k3 k4 j2 h2 W1
        go_wp2_with (at_builtin; refine wpList_append_own _ rfl _ _ 47 rfl w0.heap.size 24 i0 z0 5 80 Tryz.underlying47 hi hz0 hz1 hz2 hzs (by decide) _ _ _ rfl ((ownsRow_pur hown hq).alloc _) ⟨_, 0, none⟩ 1 1 (rcells ⟨m, t, h, y, q⟩) rfl rfl ?c1 ?c2 ?c3 ?c4 ?c5 ?_)
        case c1 =>
          intro j u hj
          rw [add_zero', World.cell?_alloc_mark]
          match j, hj with
          | 0, hj => simpa [rcells] using hj
          | 1, hj => simpa [rcells] using hj
          | 2, hj => simpa [rcells] using hj
          | 3, hj => simpa [rcells] using hj
          | 4, hj => simpa [rcells] using hj
        case c2 => intro u hu; simp [rcells] at hu; rcases hu with rfl | rfl | rfl | rfl | rfl <;> rfl
        case c3 => unfold maxLen; omega
        case c4 => omega
        case c5 => have := (hpr.trans hq).size; simp; omega
        intro v5 w5 hown5 hgrow _
        go_wp2
        go_roundw
        case rel =>
          refine ⟨n + 1, acc ++ [⟨m, t, h, y, q⟩], by omega, by go_num, by simp; omega, by rw [HT.out], ?_, (((hpr.trans hq).alloc _).grown hgrow (by have := (hpr.trans hq).size; simp; omega) (fun k hk => (hown.lt k hk).1)), HN⟩
          rw [List.length_append, HF.out]
          exact hown5
        case measure => simp [intOf]; omega
    · obtain rfl : n = rs.length := by omega
      have hL := LRead.of_own (f := rcells) (fun _ => rfl) hown
      obtain ⟨a2, c2, rfl, hD⟩ := hL
      have hp0 := h0.trans hpr
      have hacc8 : acc.length ≤ 8 := by omega
      clear hown hC hC0 hlt hn hacc hpr hWr hr h0 hi hz0 hz1 hz2 hzs
      have htl0 := texts_len acc HO.out
      go_wp2
      go_loopw [3, 42] (fun al i wx => ∃ n : Nat, n ≤ acc.length ∧ i = .int .i64 n ∧ al = .string ⟨(texts (acc.drop n)).toArray⟩ ∧ Pur wr wx) (fun _ i _ => acc.length + 1 - (intOf i).toNat)
      case atStart => exact ⟨0, by omega, rfl, rfl, Pur.refl wr⟩
      case round =>
        obtain ⟨n, hn, rfl, rfl, hpr⟩ := hrel
        by_cases hlt : n < acc.length
        · have hlt' : (n : Int) < acc.length := by omega
          have hn0 : (0 : Int) ≤ n := by omega
          obtain ⟨r, hrj⟩ : ∃ r, acc[n]? = some r := ⟨_, List.getElem?_eq_getElem hlt⟩
          have hok := HO.out r (List.mem_of_getElem? hrj)
          obtain ⟨b, o, ha, hb, hcell⟩ := hD n r hrj
          have k0 := cell_pur (hcell 0 _ rfl) hpr
          have k1 := cell_pur (hcell 1 _ rfl) hpr
          have k2 := cell_pur (hcell 2 _ rfl) hpr
          have k3 := cell_pur (hcell 3 _ rfl) hpr
          have k4 := cell_pur (hcell 4 _ rfl) hpr
          rw [Nat.add_zero] at k0
          subst ha
          have hdc := drop_cons hrj
          have htl := texts_len (acc.drop (n + 1)) (fun x hx => HO.out x (List.mem_of_mem_drop hx))
          rw [List.length_drop] at htl
          rw [hdc]
          have hmore := readReq_more hok.1 (texts (acc.drop (n + 1)))
          rw [List.take_length] at hmore
          have R1 := readreq_lit _ _ _ _ hmore (by rw [List.length_append]; have := hok.2.2; omega)
          have hl1 := hok.2.1
          have hsub : sub (reqText r ++ texts (acc.drop (n + 1))) (reqText r).length ((reqText r).length + (texts (acc.drop (n + 1))).length) = texts (acc.drop (n + 1)) := by simp [sub]
          have hWr := hW.pur (hp0.trans hpr)
          clear hcell hD hdc hrj hmore hok
          have HS := Lib.hid hsub
          clear hsub
          obtain ⟨rest, hrest⟩ : ∃ x, texts (acc.drop (n + 1)) = x := ⟨_, rfl⟩
          rw [hrest] at HS R1
          have HRT := Lib.hid hrest
          have hrl : rest.length ≤ 80000 := by rw [← hrest]; exact Nat.le_trans htl (by omega)
          simp only [hrest]
          clear hrest htl
          generalize reqText r = s at *
          obtain ⟨m, t, h, y, q⟩ := r
          have te1 : reqEq ⟨m, t, h, y, q⟩ ⟨m, t, h, y, q⟩ = true := by simp [reqEq]
          simp only at k0 k1 k2 k3 k4 R1
          have y1 : decide ((s.length : Int) < 1) = false := decide_eq_false (by omega)
          have y2 : decide ((s.length : Int) + rest.length < s.length) = false := decide_eq_false (by omega)
          have y3 : (s.length : Int) ≤ s.length + rest.length := by omega
          go_wp2_with fail
          refine (R1 _ (hWr.pur ((Pur.refl _).alloc _))).mono ?_
          rintro e w2 ⟨rfl, h2⟩
          have j2 := bk_pur (bk_new _ _) h2
          have z := bk_lt j2
          obtain ⟨c0, c1, c2, c3, c4, f0, f1, f2, f3, f4⟩ := blk5 j2
          have K := Lib.hid ((hpr.alloc (.cells #[.string ⟨m.toArray⟩, .string ⟨t.toArray⟩, .string ⟨h.toArray⟩, .string ⟨y.toArray⟩, .string ⟨q.toArray⟩] 24)).trans h2)
          clear k0 k1 k2 k3 k4 j2 h2 R1 hpr hWr
          go_wp2
          go_roundw
          case rel => exact ⟨n + 1, by omega, by go_num, by rw [HS.out, HRT.out], K.out.alloc _⟩
          case measure => simp [intOf]; omega
        · obtain rfl : n = acc.length := by omega
          have e0 : texts (acc.drop acc.length) = [] := by rw [List.drop_length]; rfl
          rw [e0]
          clear e0 hlt hn hD
          go_wp2
          go_ret
          exact ⟨rfl, hp0.trans hpr⟩
end Go.Proofs.YtlgdkaeiadhiaaaGreatDoor
