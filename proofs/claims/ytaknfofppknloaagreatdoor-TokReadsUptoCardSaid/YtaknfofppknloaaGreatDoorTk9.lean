/- Layer 2: an attribute's value. -/
import Derived.Test.YtaknfofppknloaaGreatDoorTk8
namespace Go.Proofs.YtaknfofppknloaaGreatDoor
open Go Go.RowKit
set_option linter.all false
namespace Tk
theorem int_info : (Tryz.prog.info? 3).map (fun i => (i.zero, i.size, i.bytes)) = some (some (.int .i64 0), 1, 8) := by kernel_rfl
theorem ints_one (u : Value) (acc : Cs) (h : u ∈ ints acc) : u.oneCell' = true := by
  obtain ⟨c, -, rfl⟩ := List.mem_map.1 h
  rfl
/-- append of one number that lies in a block of its own, just made -/
theorem append_int {ops : Array Oper} {rest : List Oper} {o : Oper} {a : Act} {Q : Exit → Act → World → Prop} (w0 : World) (hg : o.guard = none) (s x : Operand)
    (hop : o.op = .call { callee := .builtin .append, args := #[s, x], argTypes := #[43, 43] }) (B : Nat) (v : Value) (acc : Cs) (c : Nat) (e : TypeId) (f : Nat × Nat) (y : Int) (hy : y = (c : Int))
    (hs : a.eval s = v) (hx : a.eval x = .slice (some ⟨w0.heap.size, 0, none⟩) 1 1) (hown : w0.ownsRow B 3 1 v acc.length (ints acc)) (hlen : acc.length ≤ 1000000) (hB : B ≤ w0.heap.size)
    (h : ∀ v' w', w'.ownsRow B 3 1 v' (acc ++ [c]).length (ints (acc ++ [c])) → (w0.alloc (.cells #[.int .i64 y] e f)).grownBy w' v.ownBlock → wpList Tryz.prog ops Q rest (a.put o.dst v') w') :
    wpList Tryz.prog ops Q (o :: rest) a (w0.alloc (.cells #[.int .i64 y] e f)) := by
  subst hy
  obtain ⟨i0, hi, hz0, hz1, hz2⟩ := info_parts int_info
  refine wpList_append_own _ hg s x 43 hop B 3 i0 (.int .i64 0) 1 8 Tryz.underlying43 hi hz0 hz1 hz2 rfl (by decide) v acc.length (ints acc) hs ?_ ⟨w0.heap.size, 0, none⟩ 1 1 [.int .i64 (c : Int)] hx rfl ?_ ?_ ?_ ?_ ?_ ?_
  · exact row_pur hown ((Pur.refl w0).alloc _)
  · intro j u hj
    match j, hj with
    | 0, hj => simp at hj; subst hj; simp [Addr.add, World.cell?_alloc_mark]
  · intro u hu; simp at hu; subst hu; rfl
  · unfold maxLen; omega
  · omega
  · exact Nat.le_trans hB ((Pur.refl w0).alloc _).size
  · intro v' w' h1 h2 _
    refine h v' w' ?_ h2
    rw [List.length_append, ints_append]
    exact h1
theorem numGo_ok {B v : Nat} {xs : Cs} {x : Nat × Cs} (h : numGo B v xs = some x) : x.2.length < xs.length := by
  induction xs generalizing v with
  | nil => simp [numGo] at h
  | cons c r ih =>
    rw [numGo] at h
    split at h
    · cases h; simp
    · split at h
      · have := ih h; simp only [List.length_cons]; omega
      · cases h
theorem number_ok {xs : Cs} {x : Nat × Cs} (h : number xs = some x) : okc x.1 ∧ x.2.length < xs.length := by
  have key : ∀ B ys, numOf B ys = some x → okc x.1 ∧ x.2.length < ys.length := fun B ys h => by
    unfold numOf at h
    split at h
    · cases h
    · obtain ⟨y, hy, h2⟩ := Option.bind_eq_some_iff.1 h
      split at h2
      · rename_i hb
        cases h2
        refine ⟨?_, numGo_ok hy⟩
        rcases Bool.or_eq_true _ _ ▸ hb with hb | hb
        · exact allowed_okc hb
        · have : x.1 = 13 := by simpa using hb
          unfold okc; omega
      · cases h2
  unfold number at h
  split at h
  · have := key _ _ h
    exact ⟨this.1, by have := this.2; simp only [List.length_cons]; omega⟩
  · exact key _ _ h
theorem ref_ok {xs : Cs} {v : Nat} {q : Cs} (h : reference xs = .ok (v, q)) : okc v ∧ q.length < xs.length := by
  have hdl : ∀ (t : List Nat) (n : Nat), pre t xs = true → 0 < t.length → 0 < n → (xs.drop n).length < xs.length := fun t n hp ht hn => by
    have := pre_len hp
    rw [List.length_drop]; omega
  unfold reference at h
  repeat (split at h; · (rename_i hp; cases h; exact ⟨by unfold okc; omega, hdl _ _ hp (by decide) (by decide)⟩))
  split at h
  · rename_i hp
    have hl := pre_len hp
    simp only [List.length_cons, List.length_nil] at hl
    split at h
    · rename_i x hx
      cases h
      have := number_ok hx
      rw [List.length_drop] at this
      exact ⟨this.1, by have := this.2; simp only at this; omega⟩
    · cases h
  · cases h
theorem ok_snoc {acc : Cs} {c : Nat} (h : ∀ c ∈ acc, okc c) (hc : okc c) : ∀ x ∈ acc ++ [c], okc x := by
  intro x hx
  rcases List.mem_append.1 hx with hx | hx
  · exact h x hx
  · obtain rfl : x = c := by simpa using hx
    exact hc
/-- the value under way, behind some of it -/
theorem value_step {mark f : Nat} {xs ys : Cs} {acc : Cs} {c : Nat} {r : R Cs} (h : r = (valGo mark (f + 1) xs).and fun a z => .ok (acc ++ a, z)) (g : valGo mark (f + 1) xs = (valGo mark f ys).and fun a z => .ok (c :: a, z)) :
    r = (valGo mark f ys).and fun a z => .ok ((acc ++ [c]) ++ a, z) := by
  rw [h, g]
  rcases valGo mark f ys with x | ⟨x, q⟩
  · rfl
  · simp
set_option maxRecDepth 100000 in
set_option maxHeartbeats 16000000 in
theorem value_any {w : World} {p : Pl} {d : Sd} (h : At w p d) (hi : d.i ≤ d.cs.length) : Calls Tryz.prog 70 #[.pointer (some ⟨p.s, 0, none⟩)] w fun e w' => Gives p d w (value d.rest) (fun c => .string ⟨(narrow c).toArray⟩) e w' := by
  have hcl := h.clen
  have PK := peek_any h
  have hps := bk_lt h.own
  obtain ⟨m, hm⟩ : ∃ m, pk d.rest = m := ⟨_, rfl⟩
  by_cases hq : m = 34 ∨ m = 39
  · obtain ⟨mk, q, hr, rfl⟩ : ∃ mk q, d.rest = mk :: q ∧ m = ((mk : Nat) : Int) := by
      rcases hr : d.rest with _ | ⟨c, q⟩
      · rw [hr] at hm; simp only [pk] at hm; omega
      · rw [hr] at hm; exact ⟨c, q, rfl, hm.symm⟩
    obtain ⟨hlt, hq2, hlen⟩ := rest_cons hr
    have hmk : mk = 34 ∨ mk = 39 := by omega
    have HV := Lib.hid (show value d.rest = valGo mk (q.length + 1) (d.cs.drop (d.i + 1)) by rw [hr, hq2]; simp only [value]; rw [if_pos hmk])
    have hq3 : (d.cs.drop (d.i + 1)).length = q.length := by rw [hq2]
    rw [hm] at PK
    have w1 : IntKind.i64.wrap ((d.i : Int) + 1) = (d.i : Int) + 1 := IntWalk.i64_in _ (by omega)
    obtain ⟨b1, hb1⟩ : ∃ b, ((mk : Int) != 34) = b := ⟨_, rfl⟩
    obtain ⟨b2, hb2⟩ : ∃ b, ((mk : Int) != 39) = b := ⟨_, rfl⟩
    have hb : (b1 && b2) = false := by
      rw [← hb1, ← hb2]
      rcases hmk with rfl | rfl <;> rfl
    rw [List.length_drop] at hq3
    clear hr hq2 hlen hm hq
    go_enter Tryz.func70, Tryz.ntmps70
    go_wp2_with fail
    refine PK.mono ?_
    rintro e w2 ⟨rfl, hp2⟩
    have h2 := h.pur hp2
    have c1 := h2.c1
    have f1 := h2.f 1
    have h3 := h2.seti (d.i + 1) ((d.i : Int) + 1) (by omega)
    have g3 : Chg [p.s] w (w2.setCell ⟨p.s, 1, none⟩ (.int .i64 ((d.i : Int) + 1))) := (Chg.of_pur hp2).setCell (.inl (by simp)) _
    rcases b1 with _ | _ <;> rcases b2 with _ | _ <;> (try (exfalso; simp at hb; done))
    all_goals
      go_wp2
      go_loopw [4] (fun v wr => ∃ (j f : Nat) (acc : Cs), d.i < j ∧ j ≤ d.cs.length ∧ d.cs.length < j + f ∧ At wr p { d with i := j } ∧ Chg [p.s] w wr ∧ acc.length + d.i + 1 ≤ j ∧ (∀ c ∈ acc, okc c) ∧ wr.ownsRow w.heap.size 3 1 v acc.length (ints acc) ∧ Hid (value d.rest = (valGo mk f (d.cs.drop j)).and fun a z => .ok (acc ++ a, z))) (fun _ wr => d.cs.length + 1 - natAt wr ⟨p.s, 1, none⟩)
      case atStart => exact ⟨d.i + 1, q.length + 1, [], by omega, by omega, by omega, h3, g3, by simp, by simp, World.ownsRow_nil _ _ _ _, Lib.hid (by rw [HV.out]; rcases valGo mk (q.length + 1) (d.cs.drop (d.i + 1)) with x | ⟨x, z⟩ <;> rfl)⟩
      case round =>
        obtain ⟨j, f, acc, j1, j2, j3, k3, k4, hal, hok, hown, H⟩ := hrel
        obtain ⟨f, rfl⟩ : ∃ g, f = g + 1 := ⟨f - 1, by omega⟩
        have hsz := k4.size
        have PKj : ∀ w', Pur wr w' → Calls Tryz.prog 23 #[.pointer (some ⟨p.s, 0, none⟩)] w' fun e w'' => e = .returned (.int .i64 (pk (d.cs.drop j))) ∧ Pur w' w'' := fun w' hp => peek_any (k3.pur hp)
        obtain ⟨x0, x1⟩ := pk_bd k3 j
        have e3 := k3.nat
        simp only at x0 x1
        obtain ⟨x, hpk⟩ : ∃ x, pk (d.cs.drop j) = x := ⟨_, rfl⟩
        have w1 : IntKind.i64.wrap ((j : Int) + 1) = (j : Int) + 1 := IntWalk.i64_in _ (by omega)
        rw [hpk] at PKj x0 x1
        have BL := fun w => blank_any x w x0
        clear HV PK hb1 hb2 hb c1 f1 h2 h3 g3
        by_cases hxm : x = (mk : Int)
        · -- the mark: the end
          subst hxm
          have hj : j < d.cs.length := by
            rcases Nat.lt_or_ge j d.cs.length with g | g
            · exact g
            · rw [List.drop_of_length_le g] at hpk; simp only [pk] at hpk; omega
          have hcons := drop_cons d.cs j hj
          have HS := Lib.hid (show value d.rest = .ok (acc, d.cs.drop (j + 1)) by
            rw [H.out, hcons]
            rw [hcons] at hpk
            simp only [pk] at hpk
            rw [valGo, if_pos (by omega)]
            simp)
          have dm : ((mk : Int) != (mk : Int)) = false := by simp
          clear H hcons hpk BL
          go_wp2_with fail
          refine (PKj _ (Pur.refl _)).mono ?_
          rintro e w4 ⟨rfl, hp4⟩
          have k5 := k3.pur hp4
          have c1 := k5.c1
          have f1 := k5.f 1
          have k6 := k5.seti (j + 1) ((j : Int) + 1) (by omega)
          have hown5 := row_pur hown hp4
          have hown6 : (w4.setCell ⟨p.s, 1, none⟩ (.int .i64 ((j : Int) + 1))).ownsRow w.heap.size 3 1 _ acc.length (ints acc) := row_same hown5 fun g hg => by
            rw [RowKit.Below.heap_setCell _ _ _ _ (fun e => by have := (hown5.lt g hg).1; simp only at e; omega)]
          have NR := narrow_any _ acc _ (IRead.of_own hown6) hok (by omega)
          go_wp2_with fail
          refine NR.mono ?_
          rintro e w6 ⟨rfl, hp6⟩
          go_wp2
          go_ret
          rw [HS.out]
          exact ⟨rfl, j + 1, rfl, by omega, by omega, k6.pur hp6, ((k4.pur hp4).setCell (.inl (by simp)) _).pur hp6⟩
        have dm : (x != (mk : Int)) = true := by simpa using hxm
        by_cases hx2 : x = -1 ∨ x = 60
        · -- a fault
          have HS := Lib.hid (show value d.rest = .error (d.cs.length - j, 21) by
            rw [H.out]
            cases hd : d.cs.drop j with
            | nil =>
              have : d.cs.length ≤ j := by simpa using hd
              rw [valGo, show d.cs.length - j = 0 by omega]; rfl
            | cons c q =>
              have hl : (c :: q).length = d.cs.length - j := by rw [← hd, List.length_drop]
              rw [hd] at hpk
              simp only [pk] at hpk
              rw [valGo, if_neg (by omega), if_pos (by omega), hl]; rfl)
          obtain ⟨b3, hb3⟩ : ∃ b, (x == -1) = b := ⟨_, rfl⟩
          obtain ⟨b4, hb4⟩ : ∃ b, (x == 60) = b := ⟨_, rfl⟩
          have hbb : (b3 || b4) = true := by
            rw [← hb3, ← hb4]
            rcases hx2 with rfl | rfl <;> rfl
          clear H hpk hx2 hxm BL
          rcases b3 with _ | _ <;> rcases b4 with _ | _ <;> (try (exfalso; simp at hbb; done))
          all_goals
            go_wp2_with fail
            refine (PKj _ (Pur.refl _)).mono ?_
            rintro e w4 ⟨rfl, hp4⟩
            go_wp2_with fail
            refine (PKj _ hp4).mono ?_
            rintro e w5 ⟨rfl, hp5⟩
            have k5 := k3.pur (hp4.trans hp5)
            have c1 := k5.c1
            go_wp2_with fail
            refine (fail_any k5 [p.s] j 21 (by omega)).mono ?_
            intro e w6 hf
            obtain ⟨b, rfl, hf2⟩ := id hf
            go_wp2
            refine ⟨rfl, ?_⟩
            rw [HS.out]
            simp only [Gives]
            rw [show d.cs.length - (d.cs.length - j) = j by omega]
            exact Flt.after (k4.pur (hp4.trans hp5)) hf
        have hj : j < d.cs.length := by
          rcases Nat.lt_or_ge j d.cs.length with g | g
          · exact g
          · rw [List.drop_of_length_le g] at hpk; simp only [pk] at hpk; omega
        have hcons := drop_cons d.cs j hj
        have hxc : x = (d.cs.getD j 0 : Nat) := by rw [hcons] at hpk; exact hpk.symm
        have hokx : okc (d.cs.getD j 0) := by rw [List.getD_eq_getElem?_getD, List.getElem?_eq_getElem hj]; exact allowed_okc (h.okcs _ (List.getElem_mem hj))
        have d3 : (x == -1) = false := by rw [beq_eq_false_iff_ne]; omega
        have d4 : (x == 60) = false := by rw [beq_eq_false_iff_ne]; omega
        by_cases hx3 : x = 38
        · -- a reference
          subst hx3
          have RF : ∀ w', (hp : Pur wr w') → _ := fun w' hp => reference_any (k3.pur hp) j2
          simp only [Sd.rest] at RF
          have HV : valGo mk (f + 1) (d.cs.drop j) = (reference (d.cs.drop j)).and fun v q => (valGo mk f q).and fun a z => .ok (v :: a, z) := by
            rw [hcons, valGo, if_neg (by omega), if_neg (by omega), if_pos (by omega)]
          have d5 : ((38 : Int) == 38) = true := rfl
          clear hcons hxc hokx BL hpk
          rcases hrf : reference (d.cs.drop j) with ⟨k, n⟩ | ⟨v, q⟩
          · have HS := Lib.hid (show value d.rest = .error (k, n) by rw [H.out, HV, hrf]; rfl)
            rw [hrf] at RF
            clear H HV
            go_wp2_with fail
            refine (PKj _ (Pur.refl _)).mono ?_
            rintro e w4 ⟨rfl, hp4⟩
            go_wp2_with fail
            refine (PKj _ hp4).mono ?_
            rintro e w5 ⟨rfl, hp5⟩
            go_wp2_with fail
            refine (RF _ (hp4.trans hp5)).mono ?_
            intro e w6 hf
            obtain ⟨b, rfl, hf2⟩ := id hf
            go_wp2
            refine ⟨rfl, ?_⟩
            rw [HS.out]
            exact Flt.after (k4.pur (hp4.trans hp5)) hf
          · obtain ⟨hov, hqq⟩ := ref_ok hrf
            have HS := Lib.hid (value_step (c := v) (ys := q) H.out (by rw [HV, hrf]; rfl))
            rw [hrf] at RF
            clear H HV
            go_wp2_with fail
            refine (PKj _ (Pur.refl _)).mono ?_
            rintro e w4 ⟨rfl, hp4⟩
            go_wp2_with fail
            refine (PKj _ hp4).mono ?_
            rintro e w5 ⟨rfl, hp5⟩
            go_wp2_with fail
            refine (RF _ (hp4.trans hp5)).mono ?_
            rintro e w6 ⟨rfl, j', e1, e2, e4, h6, g6⟩
            simp only at h6 e1 e2 e4
            have hown6 := row_chg (row_pur hown (hp4.trans hp5)) g6 (fun g hg hm => by have := (hown.lt g hg).1; simp only [List.mem_singleton] at hm; omega)
            have hj' : j < j' := by
              have : (d.cs.drop j').length < (d.cs.drop j).length := by rw [e1]; exact hqq
              rw [List.length_drop, List.length_drop] at this
              omega
            go_wp2_with (at_builtin; refine append_int w6 rfl _ _ (by rfl) w.heap.size _ acc v _ _ _ rfl (by rfl) (by rfl) hown6 (by omega) (Nat.le_trans hsz (Nat.le_trans (hp4.trans hp5).size g6.size)) ?_)
            intro v7 w7 hown7 hg7
            have g6' := (k4.pur (hp4.trans hp5)).trans g6
            have hlt7 : ∀ b, u4.ownBlock = some b → w.heap.size ≤ b := fun b hb => (hown.lt b hb).1
            have g7 : Chg [p.s] w w7 := (g6'.alloc _).grown hg7 (fun b hb => .inr (hlt7 b hb))
            have h7 : At w7 p { d with i := j' } := (h6.pur ((Pur.refl _).alloc _)).same fun b hb => hg7.block b (Nat.lt_of_lt_of_le (h6.lt b hb) ((Pur.refl _).alloc _).size) (fun e => by have h1 := hlt7 b e.symm; have h2 := h.lt b hb; omega)
            have e7 := h7.nat
            go_wp2
            go_roundw
            case rel => exact ⟨j', f, acc ++ [v], by omega, e4, by omega, h7, g7, by simp; omega, (ok_snoc hok hov), by rw [List.length_append]; exact hown7, e1 ▸ HS⟩
            case measure => rw [e3, e7]; simp only; omega
        have d5 : (x == 38) = false := by simpa using hx3
        have hbl : on blank x = blank (d.cs.getD j 0) := by rw [hxc]; simp [on]
        rw [hbl] at BL
        obtain ⟨c, hc⟩ : ∃ c, c = d.cs.getD j 0 := ⟨_, rfl⟩
        have HS := Lib.hid (value_step (c := if blank (d.cs.getD j 0) then 32 else d.cs.getD j 0) (ys := d.cs.drop (j + 1)) H.out (by rw [hcons, valGo, if_neg (by omega), if_neg (by omega), if_neg (by omega)]))
        clear H hcons hpk hx2 hxm hx3
        rw [← hc] at hxc hokx HS BL
        clear hc
        subst hxc
        rcases hbk : blank c with _ | _
        all_goals
          rw [hbk] at HS BL
          simp only [if_true, if_false, Bool.false_eq_true] at HS
          go_wp2_with fail
          refine (PKj _ (Pur.refl _)).mono ?_
          rintro e w4 ⟨rfl, hp4⟩
          go_wp2_with fail
          refine (PKj _ hp4).mono ?_
          rintro e w5 ⟨rfl, hp5⟩
          go_wp2_with fail
          refine (BL _).mono ?_
          rintro e w6 ⟨rfl, rfl⟩
          have hown6 := row_pur hown (hp4.trans hp5)
        · go_wp2_with (at_builtin; refine append_int w5 rfl _ _ (by rfl) w.heap.size _ acc c _ _ _ rfl (by rfl) (by rfl) hown6 (by omega) (Nat.le_trans hsz (hp4.trans hp5).size) ?_)
          intro v7 w7 hown7 hg7
          have h6 := k3.pur (hp4.trans hp5)
          have g6' := k4.pur (hp4.trans hp5)
          have hlt7 : ∀ b, u4.ownBlock = some b → w.heap.size ≤ b := fun b hb => (hown.lt b hb).1
          have g7 : Chg [p.s] w w7 := (g6'.alloc _).grown hg7 (fun b hb => .inr (hlt7 b hb))
          have h7 : At w7 p { d with i := j } := (h6.pur ((Pur.refl _).alloc _)).same fun b hb => hg7.block b (Nat.lt_of_lt_of_le (h6.lt b hb) ((Pur.refl _).alloc _).size) (fun e => by have h1 := hlt7 b e.symm; have h2 := h.lt b hb; omega)
          have c1 := h7.c1
          have f1 := h7.f 1
          have h8 := h7.seti (j + 1) ((j : Int) + 1) (by omega)
          have hown8 : (w7.setCell ⟨p.s, 1, none⟩ (.int .i64 ((j : Int) + 1))).ownsRow w.heap.size 3 1 _ _ _ := row_same hown7 fun g hg => by
            rw [RowKit.Below.heap_setCell _ _ _ _ (fun e => by have := (hown7.lt g hg).1; simp only at e; omega)]
          have e8 := h8.nat
          simp only at c1
          go_wp2
          go_roundw
          case rel => exact ⟨j + 1, f, acc ++ [c], by omega, by omega, by omega, h8, g7.setCell (.inl (by simp)) _, by simp; omega, (ok_snoc hok hokx), by rw [List.length_append]; exact hown8, HS⟩
          case measure => rw [e3, e8]; simp only; omega
        · go_wp2_with (at_builtin; refine append_int w5 rfl _ _ (by rfl) w.heap.size _ acc 32 _ _ _ rfl (by rfl) (by rfl) hown6 (by omega) (Nat.le_trans hsz (hp4.trans hp5).size) ?_)
          intro v7 w7 hown7 hg7
          have h6 := k3.pur (hp4.trans hp5)
          have g6' := k4.pur (hp4.trans hp5)
          have hlt7 : ∀ b, u4.ownBlock = some b → w.heap.size ≤ b := fun b hb => (hown.lt b hb).1
          have g7 : Chg [p.s] w w7 := (g6'.alloc _).grown hg7 (fun b hb => .inr (hlt7 b hb))
          have h7 : At w7 p { d with i := j } := (h6.pur ((Pur.refl _).alloc _)).same fun b hb => hg7.block b (Nat.lt_of_lt_of_le (h6.lt b hb) ((Pur.refl _).alloc _).size) (fun e => by have h1 := hlt7 b e.symm; have h2 := h.lt b hb; omega)
          have c1 := h7.c1
          have f1 := h7.f 1
          have h8 := h7.seti (j + 1) ((j : Int) + 1) (by omega)
          have hown8 : (w7.setCell ⟨p.s, 1, none⟩ (.int .i64 ((j : Int) + 1))).ownsRow w.heap.size 3 1 _ _ _ := row_same hown7 fun g hg => by
            rw [RowKit.Below.heap_setCell _ _ _ _ (fun e => by have := (hown7.lt g hg).1; simp only at e; omega)]
          have e8 := h8.nat
          simp only at c1
          go_wp2
          go_roundw
          case rel => exact ⟨j + 1, f, acc ++ [32], by omega, by omega, by omega, h8, g7.setCell (.inl (by simp)) _, by simp; omega, (ok_snoc hok (by unfold okc; omega)), by rw [List.length_append]; exact hown8, HS⟩
          case measure => rw [e3, e8]; simp only; omega
  · have HS := Lib.hid (show value d.rest = .error (d.cs.length - d.i, 21) by
      rcases hr : d.rest with _ | ⟨c, q⟩
      · have := rest_nil hr
        simp only [value]; rw [show d.cs.length - d.i = 0 by omega]
      · obtain ⟨_, _, hlen⟩ := rest_cons hr
        rw [hr] at hm
        simp only [pk] at hm
        simp only [value]
        rw [if_neg (by omega), hlen])
    have d1 : (m != 34) = true := by simp; omega
    have d2 : (m != 39) = true := by simp; omega
    rw [hm] at PK
    clear hm hq
    go_enter Tryz.func70, Tryz.ntmps70
    go_wp2_with fail
    refine PK.mono ?_
    rintro e w2 ⟨rfl, hp2⟩
    have h2 := h.pur hp2
    have c1 := h2.c1
    go_wp2_with fail
    refine (fail_any h2 [p.s] d.i 21 (by omega)).mono ?_
    intro e w6 hf
    obtain ⟨b, rfl, hf2⟩ := id hf
    go_wp2
    refine ⟨rfl, ?_⟩
    rw [HS.out]
    simp only [Gives]
    rw [show d.cs.length - (d.cs.length - d.i) = d.i by omega]
    exact Flt.after (Chg.of_pur hp2) hf
end Tk
end Go.Proofs.YtaknfofppknloaaGreatDoor
