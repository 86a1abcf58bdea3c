/- The layer's read. -/
import Derived.Test.YtlgdkaeiadhiaaaGreatDoorHt9
import Derived.Deep.RegionHeld3
import Derived.Deep.RegionLaw
import Derived.Deep.AppendLies
import Derived.Deep.DrawnRows
import Derived.Deep.DeepCutAuto
namespace Go.Proofs.YtlgdkaeiadhiaaaGreatDoor
open Go Go.RowKit
set_option linter.all false
attribute [local go_sem ↓] Go.wp_at_zero Go.wp_at_succ
theorem fld_info : (Tryz.prog.info? 79).map (fun i => (i.zero.map (·.cells.size), i.size, i.bytes)) = some (some 2, 2, 32) := by kernel_rfl
theorem rd_long {rt : Bytes → Bool} {ho : Bool} {b : Bytes} (h : idx crlf2 b = none) (hl : 4096 < b.length) : readMsg rt ho b = (none, 2) := by
  unfold readMsg; rw [h]; simp only; rw [if_pos hl]
theorem rd_none {rt : Bytes → Bool} {ho : Bool} {b : Bytes} (h : idx crlf2 b = none) (hl : b.length ≤ 4096) : readMsg rt ho b = (none, 3) := by
  unfold readMsg; rw [h]; simp only; rw [if_neg (by omega)]
theorem rd_far {rt : Bytes → Bool} {ho : Bool} {b : Bytes} {k : Nat} (h : idx crlf2 b = some k) (hl : 4096 < k + 4) : readMsg rt ho b = (none, 2) := by
  unfold readMsg; rw [h]; simp only; rw [if_pos hl]
theorem rd_first {rt : Bytes → Bool} {ho : Bool} {b f : Bytes} {r : List Bytes} {k : Nat} (h : idx crlf2 b = some k) (hl : k + 4 ≤ 4096) (hp : pcs crlf (b.take k) = f :: r) (hf : rt f = false) : readMsg rt ho b = (none, 220) := by
  unfold readMsg; rw [h]; simp only; rw [if_neg (by omega), hp]; simp [hf]
theorem rd_heads {rt : Bytes → Bool} {ho : Bool} {b f : Bytes} {r : List Bytes} {k : Nat} (h : idx crlf2 b = some k) (hl : k + 4 ≤ 4096) (hp : pcs crlf (b.take k) = f :: r) (hf : rt f = true) (hh : headsOf r = none) : readMsg rt ho b = (none, 220) := by
  unfold readMsg; rw [h]; simp only; rw [if_neg (by omega), hp]; simp [hf, hh]
/-- behind the headers -/
def rdTail (ho : Bool) (b f : Bytes) (k : Nat) (hs : List Fld) : Option Msg × Int :=
  if 1 < cnt hs nLength ∨ (ho = true ∧ cnt hs nHost ≠ 1) then (none, 220) else
  match sizeOf' hs with
  | none => (none, 222)
  | some size =>
    if 0 < cnt hs nCoded ∨ 4096 < size then (none, 222) else
    if b.length - (k + 4) < size then (none, 3) else
    (some ⟨f, hs, (b.drop (k + 4)).take size, k + 4 + size⟩, 0)
theorem rd_tail {rt : Bytes → Bool} {ho : Bool} {b f : Bytes} {r : List Bytes} {k : Nat} {hs : List Fld} (h : idx crlf2 b = some k) (hl : k + 4 ≤ 4096) (hp : pcs crlf (b.take k) = f :: r) (hf : rt f = true) (hh : headsOf r = some hs) : readMsg rt ho b = rdTail ho b f k hs := by
  unfold readMsg; rw [h]; simp only; rw [if_neg (by omega), hp]; simp [hf, hh]; rfl
theorem FRead.set {w : World} {v : Value} {fs : List Fld} {g i : Nat} {u : Value} (h : FRead w v fs) (hb : v.ownBlock ≠ some g) : FRead (w.setCell ⟨g, i, none⟩ u) v fs := by
  obtain ⟨a, c, rfl, h2⟩ := h
  refine ⟨a, c, rfl, fun j f hj => ?_⟩
  obtain ⟨b, o, rfl, hlt, c1, c2⟩ := h2 j f hj
  have hne : b ≠ g := fun e => hb (by simp [Value.ownBlock, e])
  refine ⟨b, o, rfl, by simp; exact hlt, ?_, ?_⟩
  · rw [World.cell?_setCell_other _ _ _ _ (fun e => hne (by injection e with e1; first | exact e1 | exact e1.symm))]; exact c1
  · rw [World.cell?_setCell_other _ _ _ _ (fun e => hne (by injection e with e1; first | exact e1 | exact e1.symm))]; exact c2
theorem heads_each : ∀ {r : List Bytes} {hs : List Fld} {B : Nat}, headsOf r = some hs → (∀ l ∈ r, l.length ≤ B) → ∀ f ∈ hs, f.2.length ≤ B
  | [], hs, B, h, _, f, hf => by
    obtain rfl : [] = hs := by simpa [headsOf] using h
    cases hf
  | l :: r, hs, B, h, hB, f, hf => by
    rw [headsOf] at h
    cases hl : headOf l with
    | none => rw [hl] at h; cases h
    | some x =>
      rw [hl] at h
      cases hr : headsOf r with
      | none => rw [hr] at h; cases h
      | some q =>
        rw [hr] at h
        obtain rfl : x :: q = hs := by simpa using h
        rcases List.mem_cons.1 hf with rfl | hf
        · have := (headOf_some hl).2.2
          have := hB l (by simp)
          omega
        · exact heads_each hr (fun y hy => hB y (by simp [hy])) f hf
theorem fst_len {r : List Bytes} {hs : List Fld} {B : Nat} (h : headsOf r = some hs) (hB : ∀ l ∈ r, l.length ≤ B) (name : Bytes) : (fst' hs name).length ≤ B := by
  rcases fst_mem hs name with h0 | ⟨f, hf, he⟩
  · rw [h0]; exact Nat.zero_le _
  · rw [← he]; exact heads_each h hB f hf
theorem headsOf_len : ∀ {r : List Bytes} {hs : List Fld}, headsOf r = some hs → hs.length ≤ r.length
  | [], hs, h => by
    obtain rfl : [] = hs := by simpa [headsOf] using h
    exact Nat.le_refl _
  | l :: r, hs, h => by
    rw [headsOf] at h
    cases hl : headOf l with
    | none => rw [hl] at h; cases h
    | some f =>
      rw [hl] at h
      cases hr : headsOf r with
      | none => rw [hr] at h; cases h
      | some q =>
        rw [hr] at h
        obtain rfl : f :: q = hs := by simpa using h
        have := headsOf_len hr
        simp; omega
set_option maxRecDepth 100000 in
set_option maxHeartbeats 4000000 in
theorem readq_early (b : Bytes) (w : World) (hW : HW w) (hs : b.length ≤ 10000000) (hn : ∀ k, idx crlf2 b = some k → 4096 < k + 4) :
    Calls Tryz.prog 18 #[.string ⟨b.toArray⟩, .func (.func 19) #[] #[], .bool true] w fun e w' => ReadGives w (readMsg (fun s => (reqLine s).isSome) true b) e w' := by
  have I : ∀ w, HW w → Calls Tryz.prog 32 #[.string ⟨b.toArray⟩, .string ⟨#[13, 10, 13, 10]⟩] w fun e w' => e = .returned (.int .i64 (at' (idx crlf2 b))) ∧ w = w' := fun w hW => index_any b crlf2 w hW (by omega)
  cases hi : idx crlf2 b with
  | none =>
    rw [hi] at I
    by_cases hl : 4096 < b.length
    · rw [rd_long hi hl]
      have d1 : decide ((4096 : Int) < b.length) = true := decide_eq_true (by omega)
      have I : ∀ w, HW w → Calls Tryz.prog 32 #[.string ⟨b.toArray⟩, .string ⟨#[13, 10, 13, 10]⟩] w fun e w' => e = .returned (.int .i64 (-1)) ∧ w = w' := I
      clear hi hn
      go_enter Tryz.func18, Tryz.ntmps18
      go_wp2_with fail
      refine (I _ hW).mono ?_
      rintro e w' ⟨rfl, rfl⟩
      go_wp2
      go_ret2
      exact give_err (Pur.refl w)
    · rw [rd_none hi (by omega)]
      have d1 : decide ((4096 : Int) < b.length) = false := decide_eq_false (by omega)
      have I : ∀ w, HW w → Calls Tryz.prog 32 #[.string ⟨b.toArray⟩, .string ⟨#[13, 10, 13, 10]⟩] w fun e w' => e = .returned (.int .i64 (-1)) ∧ w = w' := I
      clear hi hn
      go_enter Tryz.func18, Tryz.ntmps18
      go_wp2_with fail
      refine (I _ hW).mono ?_
      rintro e w' ⟨rfl, rfl⟩
      go_wp2
      go_ret2
      exact give_err (Pur.refl w)
  | some k =>
    have hk := hn k hi
    have hkb := idx_bound hi
    rw [rd_far hi hk]
    rw [hi] at I
    have I : ∀ w, HW w → Calls Tryz.prog 32 #[.string ⟨b.toArray⟩, .string ⟨#[13, 10, 13, 10]⟩] w fun e w' => e = .returned (.int .i64 (k : Nat)) ∧ w = w' := I
    have d0 : decide ((k : Int) < 0) = false := decide_eq_false (by omega)
    have d1 : decide ((4096 : Int) < (k : Int) + 4) = true := decide_eq_true (by omega)
    clear hi hn
    go_enter Tryz.func18, Tryz.ntmps18
    go_wp2_with fail
    refine (I _ hW).mono ?_
    rintro e w' ⟨rfl, rfl⟩
    go_wp2
    go_ret2
    exact give_err (Pur.refl w)
set_option maxRecDepth 100000 in
set_option maxHeartbeats 4000000 in
theorem readq_late (b : Bytes) (k : Nat) (w : World) (hW : HW w) (hs : b.length ≤ 10000000) (hi : idx crlf2 b = some k) (hk : k + 4 ≤ 4096) :
    Calls Tryz.prog 18 #[.string ⟨b.toArray⟩, .func (.func 19) #[] #[], .bool true] w fun e w' => ReadGives w (readMsg (fun s => (reqLine s).isSome) true b) e w' := by
  have hkb : k + 4 ≤ b.length := by have := idx_bound hi; have e : crlf2.length = 4 := rfl; omega
  have I : ∀ w, HW w → Calls Tryz.prog 32 #[.string ⟨b.toArray⟩, .string ⟨#[13, 10, 13, 10]⟩] w fun e w' => e = .returned (.int .i64 (k : Nat)) ∧ w = w' := fun w hW => by
    have := index_any b crlf2 w hW (by omega)
    rw [hi] at this
    exact this
  have S := fun w hW => split_any (b.take k) crlf w hW (by decide) (by rw [List.length_take]; omega)
  have hne := pcs_ne (by_ := crlf) (b.take k)
  have hpl := pcs_len crlf _ (b.take k) (Nat.le_refl _)
  have hpe := pcs_le crlf _ (b.take k) (Nat.le_refl _)
  rw [List.length_take] at hpl hpe
  obtain ⟨f, r, hp⟩ : ∃ f r, pcs crlf (b.take k) = f :: r := by
    cases e : pcs crlf (b.take k) with
    | nil => exact absurd e hne
    | cons x y => exact ⟨x, y, rfl⟩
  have hfl : f.length ≤ k := by have := hpe f (by rw [hp]; simp); omega
  have hrl : r.length ≤ k := by rw [hp, List.length_cons] at hpl; omega
  have hre : ∀ l ∈ r, l.length ≤ k := fun l hl => by have := hpe l (by rw [hp]; simp [hl]); omega
  have R := fun w hW => isreq_any f w hW (by omega)
  have RDF := rd_first (rt := (fun s => (reqLine s).isSome)) (ho := true) hi hk hp
  have RDH := rd_heads (rt := (fun s => (reqLine s).isSome)) (ho := true) hi hk hp
  have RDT := fun hf hs hh => rd_tail (rt := (fun s => (reqLine s).isSome)) (ho := true) (hs := hs) hi hk hp hf hh
  rw [hp] at S
  have esub : sub b 0 k = b.take k := by simp [sub]
  have d0 : decide ((k : Int) < 0) = false := decide_eq_false (by omega)
  have d1 : decide ((4096 : Int) < (k : Int) + 4) = false := decide_eq_false (by omega)
  have k0 : (0 : Int) ≤ k := by omega
  have k1 : (k : Int) ≤ b.length := by omega
  clear hi hne hpl hpe hp
  generalize readMsg (fun s => (reqLine s).isSome) true b = RES at *
  rcases hr : ((fun s => (reqLine s).isSome) f : Bool) with _ | _
  · have hr' : (reqLine f).isSome = false := hr
    rw [hr'] at R
    rw [RDF hr]
    clear RDF RDH RDT hr hr'
    go_enter Tryz.func18, Tryz.ntmps18
    go_wp2_with fail
    refine (I _ hW).mono ?_
    rintro e w' ⟨rfl, rfl⟩
    go_wp2_with fail
    refine (S _ hW).mono ?_
    rintro e w1 ⟨rfl, h1, hR⟩
    have c0 := hR.2 0 f rfl
    have hz : w.heap.size < w1.heap.size := hR.1
    go_wp2_with fail
    refine (R _ (hW.pur (h1.alloc _))).mono ?_
    rintro e w2 ⟨rfl, h2⟩
    have K := Lib.hid ((h1.alloc _).trans h2)
    clear h1 h2 hR c0 hz I S R hW
    go_wp2
    go_ret2
    exact give_err K.out
  · have hr' : (reqLine f).isSome = true := hr
    rw [hr'] at R
    have RDH := RDH hr
    have RDT := RDT hr
    clear RDF hr hr'
    obtain ⟨i0, hi, hz⟩ := Option.map_eq_some_iff.1 fld_info
    simp only [Prod.mk.injEq] at hz
    obtain ⟨hz0, hz1, hz2⟩ := hz
    obtain ⟨z0, hz0, hzs⟩ := Option.map_eq_some_iff.1 hz0
    go_enter Tryz.func18, Tryz.ntmps18
    go_wp2_with fail
    refine (I _ hW).mono ?_
    rintro e w' ⟨rfl, rfl⟩
    go_wp2_with fail
    refine (S _ hW).mono ?_
    rintro e w1 ⟨rfl, h1, hR⟩
    have c0 := hR.2 0 f rfl
    have hzw : w.heap.size < w1.heap.size := hR.1
    have hR1 := hR
    have hW1 := hW.pur h1
    go_wp2_with fail
    refine (R _ (hW.pur (h1.alloc _))).mono ?_
    rintro e w2 ⟨rfl, h2⟩
    have hW2 := hW.pur ((h1.alloc _).trans h2)
    have h12 := ((Pur.refl w1).alloc _).trans h2
    have hB := bk_pur (bk_new w1 _) h2
    have hzl := bk_lt hB
    have hR2 := (hR.pur (((Pur.refl w1).alloc _).trans h2))
    obtain ⟨q0, q1, q2, q3, q4, q5, q6, q7⟩ := blk4 hB
    clear c0 hR I S R hW
    rcases Nat.eq_zero_or_pos r.length with hr0 | hr0
    · have hr2 : (r.length == 0) = true := by simp [hr0]
      go_wp2
      clear hr2
      have CELL : ∀ (wr : World) (n : Nat) (l : Bytes), Pur w1 wr → r[n]? = some l → wr.cell? ⟨w.heap.size, 1 + n, none⟩ = some (.string ⟨l.toArray⟩) := fun wr n l hp hl => by
        rw [Nat.add_comm]
        exact cell_pur (hR1.2 (n + 1) l (by simpa using hl)) hp
      clear q0 q1 q2 q3 q4 q5 q6 q7 hR2
      go_loopw [63] (fun kx wr => ∃ (n : Nat) (acc : List Fld) (v : Value), n ≤ r.length ∧ kx = .int .i64 n ∧ acc.length ≤ n ∧ wr.heap[w1.heap.size]? = some (.cells #[.string ⟨f.toArray⟩, v, .string ⟨#[]⟩, .int .i64 ((k : Int) + 4)] 61 (0, 0)) ∧ wr.ownsRow (w1.heap.size + 1) 79 2 v acc.length (fcells acc) ∧ Pur w1 wr ∧ Hid (headsOf r = (headsOf (r.drop n)).map (acc ++ ·))) (fun kx _ => r.length + 1 - (intOf kx).toNat)
      case atStart => exact ⟨0, [], _, by omega, rfl, by simp, hB, World.ownsRow_nil _ _ _ _, h12, Lib.hid (by simp)⟩
      case round =>
        obtain ⟨n, acc, v, hn, rfl, hacc, hBr, hown, hpr, H⟩ := hrel
        by_cases hlt : n < r.length
        · exact absurd hlt (by omega)
        · obtain rfl : n = r.length := by omega
          have hacc2 : headsOf r = some acc := by rw [H.out, List.drop_length, headsOf]; simp
          have HH := Lib.hid (RDT acc hacc2)
          have HFL := fst_len hacc2 hre nLength
          have hvb : v.ownBlock ≠ some w1.heap.size := fun e => by have := (hown.lt _ e).1; omega
          have hread := FRead.of_own hown
          have hWr := hW1.pur hpr
          have hal : acc.length ≤ 5000 := by omega
          have hlt' : decide ((r.length : Int) < r.length) = false := by simp
          clear CELL H hown RDH RDT hacc hn hre hacc2
          obtain ⟨q0, q1, q2, q3, q4, q5, q6, q7⟩ := blk4 hBr
          go_wp2_with fail
          refine (count_any w1.heap.size acc v nLength _ q1 hread (by omega)).mono ?_
          rintro e wa ⟨rfl, ha⟩
          have hBa := bk_pur hBr ha
          have hra := hread.pur ha
          have hpa := hpr.trans ha
          clear q0 q1 q2 q3 q4 q5 q6 q7 hBr hread ha
          obtain ⟨q0, q1, q2, q3, q4, q5, q6, q7⟩ := blk4 hBa
          go_wp2_with fail
          refine (count_any w1.heap.size acc v nHost _ q1 hra (by omega)).mono ?_
          rintro e wb ⟨rfl, hb⟩
          have hBb := bk_pur hBa hb
          have hrb := hra.pur hb
          have hpb := hpa.trans hb
          clear q0 q1 q2 q3 q4 q5 q6 q7 hBa hra hb hpa
          obtain ⟨q0, q1, q2, q3, q4, q5, q6, q7⟩ := blk4 hBb
          have RT := HH.out
          clear HH
          unfold rdTail sizeOf' at RT
          have CC := fun (wx : World) (qx : wx.cell? ⟨w1.heap.size, 1, none⟩ = some v) (hx : FRead wx v acc) => count_any w1.heap.size acc v nCoded wx qx hx (by omega)
          have s1l : (fst' acc nLength).length ≤ 100000 := by omega
          have n1l := cnt_le acc nLength
          have n2l := cnt_le acc nHost
          have n3l := cnt_le acc nCoded
          generalize cnt acc nLength = n1 at *
          generalize cnt acc nHost = n2 at *
          generalize cnt acc nCoded = n3 at *
          generalize fst' acc nLength = s1 at *
          by_cases hA : 1 < n1
          · rw [if_pos (.inl hA)] at RT
            have e1 : decide ((1 : Int) < n1) = true := decide_eq_true (by omega)
            have HE := Lib.hid RT
            have K := Lib.hid (h1.trans hpb)
            clear RT hA
            go_wp2
            go_ret2
            rw [HE.out]
            exact give_err K.out
          have e1 : decide ((1 : Int) < n1) = false := decide_eq_false (by omega)
          by_cases hHo : true = true ∧ n2 ≠ 1
          · rw [if_pos (.inr hHo)] at RT
            have e2 : ((n2 : Int) != 1) = true := by simp only [bne_iff_ne, ne_eq]; have := hHo.2; omega
            have HE := Lib.hid RT
            have K := Lib.hid (h1.trans hpb)
            clear RT hHo
            go_wp2
            go_ret2
            rw [HE.out]
            exact give_err K.out
          have e2 : ((n2 : Int) != 1) = false := by
            have : n2 = 1 := by by_cases h : n2 = 1; exact h; exact absurd ⟨rfl, h⟩ hHo
            simp [this]
          rw [if_neg (by rintro (h | h); exact hA h; exact hHo h)] at RT
          clear hHo
          by_cases hB1 : n1 = 1
          · rw [if_pos hB1] at RT
            subst hB1
            by_cases hC : s1 = [] ∨ 9 < s1.length ∨ digitsB s1 = false
            · rw [if_pos hC] at RT
              simp only at RT
              have HE := Lib.hid RT
              have K := Lib.hid (h1.trans hpb)
              clear RT
              by_cases hs0 : s1 = []
              · subst hs0
                go_wp2
                go_ret2
                rw [HE.out]
                exact give_err K.out
              · have q0' := isEmpty_no hs0
                have q0'' := beq_no hs0
                by_cases h9 : 9 < s1.length
                · have e9 : decide ((9 : Int) < s1.length) = true := decide_eq_true (by omega)
                  clear hC hs0
                  go_wp2
                  go_ret2
                  rw [HE.out]
                  exact give_err K.out
                · have e9 : decide ((9 : Int) < s1.length) = false := decide_eq_false (by omega)
                  have hdf : digitsB s1 = false := by
                    rcases hC with h | h | h
                    · exact absurd h hs0
                    · exact absurd h h9
                    · exact h
                  have hnz : ¬ Lib.trimS s1 dmarks = [] := fun h => by rw [trimD] at h; rw [h] at hdf; cases hdf
                  have t0 := isEmpty_no hnz
                  have t1 := beq_no hnz
                  have TD := fun w => trimd_any s1 w (by omega)
                  generalize Lib.trimS s1 dmarks = tr at *
                  clear hC hs0 hnz hdf
                  go_wp2_with fail
                  refine (TD _).mono ?_
                  rintro e wc ⟨rfl, hc⟩
                  have K2 := Lib.hid (K.out.trans hc)
                  clear K hc q0 q1 q2 q3 q4 q5 q6 q7
                  go_wp2
                  go_ret2
                  rw [HE.out]
                  exact give_err K2.out
            · rw [if_neg hC] at RT
              simp only at RT
              have hs0 : s1 ≠ [] := fun h => hC (.inl h)
              have h9 : s1.length ≤ 9 := by have := fun h => hC (.inr (.inl h)); omega
              have hd : digitsB s1 = true := by
                cases e : digitsB s1 with
                | true => rfl
                | false => exact absurd (.inr (.inr e)) hC
              have hz : Lib.trimS s1 dmarks = [] := (trimD s1).2 hd
              have q0' := isEmpty_no hs0
              have q0'' := beq_no hs0
              have e9 : decide ((9 : Int) < s1.length) = false := decide_eq_false (by omega)
              have TD := fun w => trimd_any s1 w (by omega)
              rw [hz] at TD
              have AT := fun w => atoid_any s1 w hs0 hd h9
              have hdv := dval_lt s1 0 hd
              have h10 : (10 : Nat) ^ s1.length ≤ 10 ^ 9 := Nat.pow_le_pow_right (by decide) h9
              have hsz : dval 0 s1 ≤ 1000000000 := by omega
              generalize dval 0 s1 = sz at *
              clear hC hs0 hd hz h9 hdv h10
              go_wp2_with fail
              refine (TD _).mono ?_
              rintro e wc ⟨rfl, hc⟩
              have hBc := bk_pur hBb hc
              have hrc := hrb.pur hc
              have hpc := hpb.trans hc
              clear q0 q1 q2 q3 q4 q5 q6 q7 hBb hrb hpb hc
              go_wp2_with fail
              refine (AT _).mono ?_
              rintro e wd ⟨rfl, hd⟩
              have hBd := bk_pur hBc hd
              have hrd := hrc.pur hd
              have hpd := hpc.trans hd
              clear hBc hrc hpc hd TD AT
              obtain ⟨q0, q1, q2, q3, q4, q5, q6, q7⟩ := blk4 hBd
              go_wp2_with fail
              refine (CC _ q1 hrd).mono ?_
              rintro e we ⟨rfl, he⟩
              have hBe := bk_pur hBd he
              have hre2 := hrd.pur he
              have hpe2 := hpd.trans he
              clear q0 q1 q2 q3 q4 q5 q6 q7 hBd hrd hpd he CC
              obtain ⟨q0, q1, q2, q3, q4, q5, q6, q7⟩ := blk4 hBe
              by_cases hD : 0 < n3 ∨ 4096 < sz
              · rw [if_pos hD] at RT
                have HE := Lib.hid RT
                have K := Lib.hid (h1.trans hpe2)
                clear RT
                by_cases h3 : 0 < n3
                · have e3 : decide ((0 : Int) < n3) = true := decide_eq_true (by omega)
                  have e3n : ¬ n3 = 0 := by omega
                  clear hD
                  go_wp2
                  all_goals
                    go_ret2
                    rw [HE.out]
                    exact give_err K.out
                · obtain rfl : n3 = 0 := by omega
                  have e4 : decide ((4096 : Int) < ((sz : Nat) : Int)) = true := decide_eq_true (by omega)
                  clear hD
                  go_wp2
                  all_goals
                    go_ret2
                    rw [HE.out]
                    exact give_err K.out
              rw [if_neg hD] at RT
              obtain rfl : n3 = 0 := by omega
              have e4 : decide ((4096 : Int) < ((sz : Nat) : Int)) = false := decide_eq_false (by omega)
              by_cases hE : b.length - (k + 4) < sz
              · rw [if_pos hE] at RT
                have HE := Lib.hid RT
                have K := Lib.hid (h1.trans hpe2)
                have e5 : decide ((b.length : Int) - ((k : Int) + 4) < ((sz : Nat) : Int)) = true := decide_eq_true (by omega)
                clear RT hD
                go_wp2
                all_goals
                  go_ret2
                  rw [HE.out]
                  exact give_err K.out
              rw [if_neg hE] at RT
              have e5 : decide ((b.length : Int) - ((k : Int) + 4) < ((sz : Nat) : Int)) = false := decide_eq_false (by omega)
              obtain ⟨m5, hm5⟩ : ∃ m5 : Nat, m5 = k + 4 + sz := ⟨_, rfl⟩
              have hsub : (b.drop (k + 4)).take sz = sub b (k + 4) m5 := by unfold sub; rw [hm5]; congr 1; omega
              have hn5 : k + 4 + sz = m5 := hm5.symm
              rw [hsub, hn5] at RT
              have hm5i : (k : Int) + 4 + ((sz : Nat) : Int) = (m5 : Int) := by omega
              have z1 : (0 : Int) ≤ (k : Int) + 4 := by omega
              have z2 : (k : Int) + 4 ≤ m5 := by omega
              have z3 : (m5 : Int) ≤ b.length := by omega
              have z4 : ((k : Int) + 4).toNat = k + 4 := by omega
              have hm5w : IntKind.i64.wrap (m5 : Int) = m5 := IntWalk.i64_in _ (by omega)
              have HE := Lib.hid RT
              have K := Lib.hid (h1.trans hpe2)
              have hwl : w.heap.size ≤ w1.heap.size := h1.size
              clear RT hD hE hsub hn5 hm5
              have qz5 := bk_lt hBe
              go_wp2
              go_region_held3 (fun w' => w'.cell? ⟨w1.heap.size, 3, none⟩ = some (.int .i64 ((k : Int) + 4)) ∧ w'.frozen? ⟨w1.heap.size, 2, none⟩ = false ∧ w'.frozen? ⟨w1.heap.size, 3, none⟩ = false)
                (first
                  | (go_keep; done)
                  | (go_split_ands
                     refine ⟨?_, ?_, ?_⟩
                     · (show World.cell? (World.setCell _ _ _) _ = _
                        rw [World.cell?_setCell_other _ _ _ _ (by simp)]
                        assumption)
                     · (go_keep; done)
                     · (go_keep; done)))
                (fail)
              all_goals
                go_wp2
                go_ret2
                rw [HE.out]
                refine ⟨w1.heap.size, v, rfl, heap_setCell_same _ _ 3 _ _ _ (heap_setCell_same _ _ 2 _ _ _ hBe), ?_, by simp only; omega, ?_⟩
                · first
                  | exact FRead.set (FRead.set hre2 hvb) hvb
                  | exact FRead.set ((FRead.set hre2 hvb).pur (Pur.refl _).drew) hvb
                  | exact (FRead.set (FRead.set hre2 hvb) hvb).pur (Pur.refl _).drew
                · have hpu := K.out
                  repeat (first | with_reducible exact hpu | refine Pur.setCell ?_ hwl _ | refine Pur.drew ?_)
          · rw [if_neg hB1] at RT
            simp only at RT
            have b1 : ((n1 : Int) == 1) = false := by simp only [beq_eq_false_iff_ne, ne_eq]; omega
            have hBd := hBb
            have hrd := hrb
            have hpd := hpb
            clear hB1 hBb hrb hpb
            go_wp2_with fail
            refine (CC _ q1 hrd).mono ?_
            rintro e we ⟨rfl, he⟩
            have hBe := bk_pur hBd he
            have hre2 := hrd.pur he
            have hpe2 := hpd.trans he
            clear q0 q1 q2 q3 q4 q5 q6 q7 hBd hrd hpd he CC
            obtain ⟨q0, q1, q2, q3, q4, q5, q6, q7⟩ := blk4 hBe
            by_cases hD : 0 < n3 ∨ 4096 < (0 : Nat)
            · rw [if_pos hD] at RT
              have HE := Lib.hid RT
              have K := Lib.hid (h1.trans hpe2)
              clear RT
              by_cases h3 : 0 < n3
              · have e3 : decide ((0 : Int) < n3) = true := decide_eq_true (by omega)
                have e3n : ¬ n3 = 0 := by omega
                clear hD
                go_wp2
                all_goals
                  go_ret2
                  rw [HE.out]
                  exact give_err K.out
              · obtain rfl : n3 = 0 := by omega
                have e4 : decide ((4096 : Int) < ((0 : Nat) : Int)) = true := decide_eq_true (by omega)
                clear hD
                go_wp2
                all_goals
                  go_ret2
                  rw [HE.out]
                  exact give_err K.out
            rw [if_neg hD] at RT
            obtain rfl : n3 = 0 := by omega
            have e4 : decide ((4096 : Int) < ((0 : Nat) : Int)) = false := decide_eq_false (by omega)
            rw [if_neg (by omega)] at RT
            have e5 : decide ((b.length : Int) - ((k : Int) + 4) < 0) = false := decide_eq_false (by omega)
            have hsub : (b.drop (k + 4)).take 0 = sub b (k + 4) (k + 4) := by simp [sub]
            rw [hsub, Nat.add_zero] at RT
            have z1 : (0 : Int) ≤ (k : Int) + 4 := by omega
            have z3 : (k : Int) + 4 ≤ b.length := by omega
            have z4 : ((k : Int) + 4).toNat = k + 4 := by omega
            have hm5w : IntKind.i64.wrap ((k : Int) + 4) = (k : Int) + 4 := IntWalk.i64_in _ (by omega)
            have hm5w0 : IntKind.i64.wrap ((k : Int) + 4 + 0) = (k : Int) + 4 := by rw [Int.add_zero]; exact hm5w
            have HE := Lib.hid RT
            have K := Lib.hid (h1.trans hpe2)
            have hwl : w.heap.size ≤ w1.heap.size := h1.size
            clear RT hD hsub
            have qz5 := bk_lt hBe
            go_wp2
            go_region_held3 (fun w' => w'.cell? ⟨w1.heap.size, 3, none⟩ = some (.int .i64 ((k : Int) + 4)) ∧ w'.frozen? ⟨w1.heap.size, 2, none⟩ = false ∧ w'.frozen? ⟨w1.heap.size, 3, none⟩ = false)
              (first
                | (go_keep; done)
                | (go_split_ands
                   refine ⟨?_, ?_, ?_⟩
                   · (show World.cell? (World.setCell _ _ _) _ = _
                      rw [World.cell?_setCell_other _ _ _ _ (by simp)]
                      assumption)
                   · (go_keep; done)
                   · (go_keep; done)))
              (fail)
            all_goals
              go_wp2
              go_ret2
              rw [HE.out]
              refine ⟨w1.heap.size, v, rfl, heap_setCell_same _ _ 3 _ _ _ (heap_setCell_same _ _ 2 _ _ _ hBe), ?_, by simp only; omega, ?_⟩
              · first
                | exact FRead.set (FRead.set hre2 hvb) hvb
                | exact FRead.set ((FRead.set hre2 hvb).pur (Pur.refl _).drew) hvb
                | exact (FRead.set (FRead.set hre2 hvb) hvb).pur (Pur.refl _).drew
              · have hpu := K.out
                repeat (first | with_reducible exact hpu | refine Pur.setCell ?_ hwl _ | refine Pur.drew ?_)
    · have hr1 : ¬ r.length = 0 := by omega
      have hr2 : (r.length == 0) = false := by simpa using hr1
      have hr3 : ((r.length : Int) == 0) = false := by simp only [beq_eq_false_iff_ne, ne_eq]; omega
      have hr4 : ((r.length : Int) + 1 == 1) = false := by simp only [beq_eq_false_iff_ne, ne_eq]; omega
      have hr5 : (r.length + 1 == 1) = false := by simp only [beq_eq_false_iff_ne, ne_eq]; omega
      go_wp2
      clear hr2 hr3 hr4 hr5
      have CELL : ∀ (wr : World) (n : Nat) (l : Bytes), Pur w1 wr → r[n]? = some l → wr.cell? ⟨w.heap.size, 1 + n, none⟩ = some (.string ⟨l.toArray⟩) := fun wr n l hp hl => by
        rw [Nat.add_comm]
        exact cell_pur (hR1.2 (n + 1) l (by simpa using hl)) hp
      clear q0 q1 q2 q3 q4 q5 q6 q7 hR2
      go_loopw [63] (fun kx wr => ∃ (n : Nat) (acc : List Fld) (v : Value), n ≤ r.length ∧ kx = .int .i64 n ∧ acc.length ≤ n ∧ wr.heap[w1.heap.size]? = some (.cells #[.string ⟨f.toArray⟩, v, .string ⟨#[]⟩, .int .i64 ((k : Int) + 4)] 61 (0, 0)) ∧ wr.ownsRow (w1.heap.size + 1) 79 2 v acc.length (fcells acc) ∧ Pur w1 wr ∧ Hid (headsOf r = (headsOf (r.drop n)).map (acc ++ ·))) (fun kx _ => r.length + 1 - (intOf kx).toNat)
      case atStart => exact ⟨0, [], _, by omega, rfl, by simp, hB, World.ownsRow_nil _ _ _ _, h12, Lib.hid (by simp)⟩
      case round =>
        obtain ⟨n, acc, v, hn, rfl, hacc, hBr, hown, hpr, H⟩ := hrel
        by_cases hlt : n < r.length
        · obtain ⟨l, hl⟩ : ∃ l, r[n]? = some l := ⟨_, List.getElem?_eq_getElem hlt⟩
          have hlt' : (n : Int) < r.length := by omega
          have hc := CELL wr n l hpr hl
          have hll := hre l (List.mem_of_getElem? hl)
          have HST := Lib.hid (heads_step hl H.out)
          have hWr := hW1.pur hpr
          have C := fun w hW => cut58_any l w hW (by omega)
          have ltk : (l.takeWhile (· != 58)).length ≤ l.length := (List.takeWhile_sublist _).length_le
          have lvl : ((l.dropWhile (· != 58)).drop 1).length ≤ l.length := by
            rw [List.length_drop]
            have := (List.dropWhile_sublist (l := l) (· != 58)).length_le
            omega
          have T := fun w => trimb_any ((l.dropWhile (· != 58)).drop 1) w (by omega)
          have ltr := trim_le ((l.dropWhile (· != 58)).drop 1)
          have TK := fun w => token_any (l.takeWhile (· != 58)) w (by omega)
          have TX := fun w => text_any (trim ((l.dropWhile (· != 58)).drop 1)) w (by omega)
          have SM := fun w hT ha => small_any (l.takeWhile (· != 58)) w hT (by omega) ha
          have ASC := @token_ascii (l.takeWhile (· != 58))
          have hH : headOf l = if (58 : UInt8) ∈ l ∧ okToken (l.takeWhile (· != 58)) = true ∧ okText (trim ((l.dropWhile (· != 58)).drop 1)) = true then some (small (l.takeWhile (· != 58)), trim ((l.dropWhile (· != 58)).drop 1)) else none := rfl
          obtain ⟨b1, t1⟩ : ∃ b, decide ((58 : UInt8) ∈ l) = b := ⟨_, rfl⟩
          have hH2 : headOf l = if b1 = true ∧ okToken (l.takeWhile (· != 58)) = true ∧ okText (trim ((l.dropWhile (· != 58)).drop 1)) = true then some (small (l.takeWhile (· != 58)), trim ((l.dropWhile (· != 58)).drop 1)) else none := by
            rw [hH, ← t1]
            simp only [decide_eq_true_eq]
          rw [t1] at C
          have hsm : (small (l.takeWhile (· != 58))).length = (l.takeWhile (· != 58)).length := by unfold small; simp
          generalize small (l.takeWhile (· != 58)) = sm at *
          generalize trim ((l.dropWhile (· != 58)).drop 1) = vl at *
          generalize (l.dropWhile (· != 58)).drop 1 = vr at *
          generalize l.takeWhile (· != 58) = tk at *
          obtain ⟨b2, t2⟩ : ∃ b, okToken tk = b := ⟨_, rfl⟩
          obtain ⟨b3, t3⟩ : ∃ b, okText vl = b := ⟨_, rfl⟩
          rw [t2] at TK ASC hH2
          rw [t3] at TX hH2
          clear t1 t2 t3 hH hl CELL H
          obtain ⟨q0, q1, q2, q3, q4, q5, q6, q7⟩ := blk4 hBr
          have qz := bk_lt hBr
          rcases b1 with _ | _ <;> rcases b2 with _ | _ <;> rcases b3 with _ | _
          rotate_left 7
          focus
            have HN := Lib.hid (HST.out.1 (sm, vl) (by rw [hH2]; rfl))
            have ASC2 := ASC rfl
            clear HST hH2 ASC
            go_wp2_with fail
            refine (C _ hWr).mono ?_
            rintro e w3 ⟨rfl, h3⟩
            have hq3 := hpr.trans h3
            clear q0 q1 q2 q3 q4 q5 q6 q7
            go_wp2_with fail
            refine (T _).mono ?_
            rintro e w4 ⟨rfl, h4⟩
            go_wp2_with fail
            refine (TK _).mono ?_
            rintro e w' ⟨rfl, rfl⟩
            go_wp2_with fail
            refine (TX _).mono ?_
            rintro e w' ⟨rfl, rfl⟩
            have hq := h3.trans h4
            have hB4 := bk_pur hBr hq
            have hown4 := ownsRow_pur hown hq
            have hW4 := hWr.pur hq
            have hp4 := hpr.trans hq
            obtain ⟨q0, q1, q2, q3, q4, q5, q6, q7⟩ := blk4 hB4
            have qz4 := bk_lt hB4
            have hnb : v.ownBlock ≠ some w1.heap.size := fun e => by have := (hown.lt _ e).1; omega
            clear hBr hown hWr hpr h3 h4 hq qz hq3 hc C T TK TX
            go_wp2_with fail
            go_region_law
              (first
                | (refine step_append_lies _ (by rfl) _ _ _ (by rfl) (w1.heap.size + 1) 79 i0 z0 2 32 Tryz.underlying59 hi hz0 hz1 hz2 hzs (by omega) v acc.length (fcells acc) (by rfl) (hown5.alloc _)
                    ⟨w5.heap.size, 0, none⟩ 1 1 [.string ⟨sm.toArray⟩, .string ⟨vl.toArray⟩] (by rfl) (by rfl) (World.news_of_block (cs := #[.string ⟨sm.toArray⟩, .string ⟨vl.toArray⟩]) (t := 79) (fr := (0, 0)) (heap_alloc_new w5 _)) (by simp [Value.oneCell'])
                    (by omega) (by unfold maxLen; omega) (by omega) (by simp; omega) (w5.heap.size + 1) (by simp) ?_; intro gg cap w6 hown6 hgrow hat hlt6; have q16 : w6.cell? ⟨w1.heap.size, 1, none⟩ = some v := (hgrow.cell_far _ (by simp; omega) (Ne.symm hnb)).trans ((((Pur.refl w5).alloc _).cell (by simp; omega)).trans q15); have q66 : w6.frozen? ⟨w1.heap.size, 1, none⟩ = false := (hgrow.frozen_far _ (by simp; omega) (Ne.symm hnb)).trans ((((Pur.refl w5).alloc _).frozen (by simp; omega)).trans q55))
                | (go_simp; go_at_call 38; refine (SM _ (hW4.pur (by first | exact Pur.refl _ | exact (Pur.refl _).drew)).tabs ASC2).mono ?_; rintro e w5 ⟨rfl, hpw⟩; have hp45 : Pur w4 w5 := (by first | exact hpw | exact ((Pur.refl _).drew).trans hpw); have hown5 := ownsRow_pur hown4 hp45; have qz5 : w1.heap.size < w5.heap.size := Nat.lt_of_lt_of_le qz4 hp45.size; have q15 : w5.cell? ⟨w1.heap.size, 1, none⟩ = some v := cell_pur q1 hp45; have q55 : w5.frozen? ⟨w1.heap.size, 1, none⟩ = false := (hp45.frozen (p := ⟨w1.heap.size, 1, none⟩) qz4).trans q5))
            all_goals
              have hB6 := (hgrow.block w1.heap.size (by simp; omega) (Ne.symm hnb)).trans (bk_alloc (bk_pur hB4 hp45) _)
              have hp6 := ((hp4.trans hp45).alloc _).grown hgrow (by have := (hp4.trans hp45).size; simp; omega) (fun k hk => by have := (hown4.lt k hk).1; omega)
              go_wp2
              go_roundw
              case rel =>
                refine ⟨n + 1, acc ++ [(sm, vl)], _, by omega, by go_num, by simp; omega, heap_setCell_same w6 w1.heap.size 1 _ _ _ hB6, ?_, hp6.setCell (Nat.le_refl _) _, HN⟩
                rw [List.length_append, ← fcells_snoc]
                exact Go.RowKit.ownsRow_setCell_below hown6 (by simp) _
              case measure => simp [intOf]; omega
          all_goals
            have HE := Lib.hid (RDH (HST.out.2 (by rw [hH2]; rfl)))
            clear HST hH2 SM ASC RDH RDT
            go_wp2_with fail
            refine (C _ hWr).mono ?_
            rintro e w3 ⟨rfl, h3⟩
            have K := Lib.hid ((h1.trans hpr).trans h3)
            clear h3 hWr q0 q1 q2 q3 q4 q5 q6 q7
            go_wp2_with (first
              | (go_at_call 35; refine (T _).mono ?_; rintro e w4 ⟨rfl, h4⟩; have K := Lib.hid (K.out.trans h4); clear h4)
              | (go_at_call 36; refine (TK _).mono ?_; rintro e w' ⟨rfl, rfl⟩)
              | (go_at_call 37; refine (TX _).mono ?_; rintro e w' ⟨rfl, rfl⟩))
            go_ret2
            rw [HE.out]
            exact give_err K.out
        · obtain rfl : n = r.length := by omega
          have hacc2 : headsOf r = some acc := by rw [H.out, List.drop_length, headsOf]; simp
          have HH := Lib.hid (RDT acc hacc2)
          have HFL := fst_len hacc2 hre nLength
          have hvb : v.ownBlock ≠ some w1.heap.size := fun e => by have := (hown.lt _ e).1; omega
          have hread := FRead.of_own hown
          have hWr := hW1.pur hpr
          have hal : acc.length ≤ 5000 := by omega
          have hlt' : decide ((r.length : Int) < r.length) = false := by simp
          clear CELL H hown RDH RDT hacc hn hre hacc2
          obtain ⟨q0, q1, q2, q3, q4, q5, q6, q7⟩ := blk4 hBr
          go_wp2_with fail
          refine (count_any w1.heap.size acc v nLength _ q1 hread (by omega)).mono ?_
          rintro e wa ⟨rfl, ha⟩
          have hBa := bk_pur hBr ha
          have hra := hread.pur ha
          have hpa := hpr.trans ha
          clear q0 q1 q2 q3 q4 q5 q6 q7 hBr hread ha
          obtain ⟨q0, q1, q2, q3, q4, q5, q6, q7⟩ := blk4 hBa
          go_wp2_with fail
          refine (count_any w1.heap.size acc v nHost _ q1 hra (by omega)).mono ?_
          rintro e wb ⟨rfl, hb⟩
          have hBb := bk_pur hBa hb
          have hrb := hra.pur hb
          have hpb := hpa.trans hb
          clear q0 q1 q2 q3 q4 q5 q6 q7 hBa hra hb hpa
          obtain ⟨q0, q1, q2, q3, q4, q5, q6, q7⟩ := blk4 hBb
          have RT := HH.out
          clear HH
          unfold rdTail sizeOf' at RT
          have CC := fun (wx : World) (qx : wx.cell? ⟨w1.heap.size, 1, none⟩ = some v) (hx : FRead wx v acc) => count_any w1.heap.size acc v nCoded wx qx hx (by omega)
          have s1l : (fst' acc nLength).length ≤ 100000 := by omega
          have n1l := cnt_le acc nLength
          have n2l := cnt_le acc nHost
          have n3l := cnt_le acc nCoded
          generalize cnt acc nLength = n1 at *
          generalize cnt acc nHost = n2 at *
          generalize cnt acc nCoded = n3 at *
          generalize fst' acc nLength = s1 at *
          by_cases hA : 1 < n1
          · rw [if_pos (.inl hA)] at RT
            have e1 : decide ((1 : Int) < n1) = true := decide_eq_true (by omega)
            have HE := Lib.hid RT
            have K := Lib.hid (h1.trans hpb)
            clear RT hA
            go_wp2
            go_ret2
            rw [HE.out]
            exact give_err K.out
          have e1 : decide ((1 : Int) < n1) = false := decide_eq_false (by omega)
          by_cases hHo : true = true ∧ n2 ≠ 1
          · rw [if_pos (.inr hHo)] at RT
            have e2 : ((n2 : Int) != 1) = true := by simp only [bne_iff_ne, ne_eq]; have := hHo.2; omega
            have HE := Lib.hid RT
            have K := Lib.hid (h1.trans hpb)
            clear RT hHo
            go_wp2
            go_ret2
            rw [HE.out]
            exact give_err K.out
          have e2 : ((n2 : Int) != 1) = false := by
            have : n2 = 1 := by by_cases h : n2 = 1; exact h; exact absurd ⟨rfl, h⟩ hHo
            simp [this]
          rw [if_neg (by rintro (h | h); exact hA h; exact hHo h)] at RT
          clear hHo
          by_cases hB1 : n1 = 1
          · rw [if_pos hB1] at RT
            subst hB1
            by_cases hC : s1 = [] ∨ 9 < s1.length ∨ digitsB s1 = false
            · rw [if_pos hC] at RT
              simp only at RT
              have HE := Lib.hid RT
              have K := Lib.hid (h1.trans hpb)
              clear RT
              by_cases hs0 : s1 = []
              · subst hs0
                go_wp2
                go_ret2
                rw [HE.out]
                exact give_err K.out
              · have q0' := isEmpty_no hs0
                have q0'' := beq_no hs0
                by_cases h9 : 9 < s1.length
                · have e9 : decide ((9 : Int) < s1.length) = true := decide_eq_true (by omega)
                  clear hC hs0
                  go_wp2
                  go_ret2
                  rw [HE.out]
                  exact give_err K.out
                · have e9 : decide ((9 : Int) < s1.length) = false := decide_eq_false (by omega)
                  have hdf : digitsB s1 = false := by
                    rcases hC with h | h | h
                    · exact absurd h hs0
                    · exact absurd h h9
                    · exact h
                  have hnz : ¬ Lib.trimS s1 dmarks = [] := fun h => by rw [trimD] at h; rw [h] at hdf; cases hdf
                  have t0 := isEmpty_no hnz
                  have t1 := beq_no hnz
                  have TD := fun w => trimd_any s1 w (by omega)
                  generalize Lib.trimS s1 dmarks = tr at *
                  clear hC hs0 hnz hdf
                  go_wp2_with fail
                  refine (TD _).mono ?_
                  rintro e wc ⟨rfl, hc⟩
                  have K2 := Lib.hid (K.out.trans hc)
                  clear K hc q0 q1 q2 q3 q4 q5 q6 q7
                  go_wp2
                  go_ret2
                  rw [HE.out]
                  exact give_err K2.out
            · rw [if_neg hC] at RT
              simp only at RT
              have hs0 : s1 ≠ [] := fun h => hC (.inl h)
              have h9 : s1.length ≤ 9 := by have := fun h => hC (.inr (.inl h)); omega
              have hd : digitsB s1 = true := by
                cases e : digitsB s1 with
                | true => rfl
                | false => exact absurd (.inr (.inr e)) hC
              have hz : Lib.trimS s1 dmarks = [] := (trimD s1).2 hd
              have q0' := isEmpty_no hs0
              have q0'' := beq_no hs0
              have e9 : decide ((9 : Int) < s1.length) = false := decide_eq_false (by omega)
              have TD := fun w => trimd_any s1 w (by omega)
              rw [hz] at TD
              have AT := fun w => atoid_any s1 w hs0 hd h9
              have hdv := dval_lt s1 0 hd
              have h10 : (10 : Nat) ^ s1.length ≤ 10 ^ 9 := Nat.pow_le_pow_right (by decide) h9
              have hsz : dval 0 s1 ≤ 1000000000 := by omega
              generalize dval 0 s1 = sz at *
              clear hC hs0 hd hz h9 hdv h10
              go_wp2_with fail
              refine (TD _).mono ?_
              rintro e wc ⟨rfl, hc⟩
              have hBc := bk_pur hBb hc
              have hrc := hrb.pur hc
              have hpc := hpb.trans hc
              clear q0 q1 q2 q3 q4 q5 q6 q7 hBb hrb hpb hc
              go_wp2_with fail
              refine (AT _).mono ?_
              rintro e wd ⟨rfl, hd⟩
              have hBd := bk_pur hBc hd
              have hrd := hrc.pur hd
              have hpd := hpc.trans hd
              clear hBc hrc hpc hd TD AT
              obtain ⟨q0, q1, q2, q3, q4, q5, q6, q7⟩ := blk4 hBd
              go_wp2_with fail
              refine (CC _ q1 hrd).mono ?_
              rintro e we ⟨rfl, he⟩
              have hBe := bk_pur hBd he
              have hre2 := hrd.pur he
              have hpe2 := hpd.trans he
              clear q0 q1 q2 q3 q4 q5 q6 q7 hBd hrd hpd he CC
              obtain ⟨q0, q1, q2, q3, q4, q5, q6, q7⟩ := blk4 hBe
              by_cases hD : 0 < n3 ∨ 4096 < sz
              · rw [if_pos hD] at RT
                have HE := Lib.hid RT
                have K := Lib.hid (h1.trans hpe2)
                clear RT
                by_cases h3 : 0 < n3
                · have e3 : decide ((0 : Int) < n3) = true := decide_eq_true (by omega)
                  have e3n : ¬ n3 = 0 := by omega
                  clear hD
                  go_wp2
                  all_goals
                    go_ret2
                    rw [HE.out]
                    exact give_err K.out
                · obtain rfl : n3 = 0 := by omega
                  have e4 : decide ((4096 : Int) < ((sz : Nat) : Int)) = true := decide_eq_true (by omega)
                  clear hD
                  go_wp2
                  all_goals
                    go_ret2
                    rw [HE.out]
                    exact give_err K.out
              rw [if_neg hD] at RT
              obtain rfl : n3 = 0 := by omega
              have e4 : decide ((4096 : Int) < ((sz : Nat) : Int)) = false := decide_eq_false (by omega)
              by_cases hE : b.length - (k + 4) < sz
              · rw [if_pos hE] at RT
                have HE := Lib.hid RT
                have K := Lib.hid (h1.trans hpe2)
                have e5 : decide ((b.length : Int) - ((k : Int) + 4) < ((sz : Nat) : Int)) = true := decide_eq_true (by omega)
                clear RT hD
                go_wp2
                all_goals
                  go_ret2
                  rw [HE.out]
                  exact give_err K.out
              rw [if_neg hE] at RT
              have e5 : decide ((b.length : Int) - ((k : Int) + 4) < ((sz : Nat) : Int)) = false := decide_eq_false (by omega)
              obtain ⟨m5, hm5⟩ : ∃ m5 : Nat, m5 = k + 4 + sz := ⟨_, rfl⟩
              have hsub : (b.drop (k + 4)).take sz = sub b (k + 4) m5 := by unfold sub; rw [hm5]; congr 1; omega
              have hn5 : k + 4 + sz = m5 := hm5.symm
              rw [hsub, hn5] at RT
              have hm5i : (k : Int) + 4 + ((sz : Nat) : Int) = (m5 : Int) := by omega
              have z1 : (0 : Int) ≤ (k : Int) + 4 := by omega
              have z2 : (k : Int) + 4 ≤ m5 := by omega
              have z3 : (m5 : Int) ≤ b.length := by omega
              have z4 : ((k : Int) + 4).toNat = k + 4 := by omega
              have hm5w : IntKind.i64.wrap (m5 : Int) = m5 := IntWalk.i64_in _ (by omega)
              have HE := Lib.hid RT
              have K := Lib.hid (h1.trans hpe2)
              have hwl : w.heap.size ≤ w1.heap.size := h1.size
              clear RT hD hE hsub hn5 hm5
              have qz5 := bk_lt hBe
              go_wp2
              go_region_held3 (fun w' => w'.cell? ⟨w1.heap.size, 3, none⟩ = some (.int .i64 ((k : Int) + 4)) ∧ w'.frozen? ⟨w1.heap.size, 2, none⟩ = false ∧ w'.frozen? ⟨w1.heap.size, 3, none⟩ = false)
                (first
                  | (go_keep; done)
                  | (go_split_ands
                     refine ⟨?_, ?_, ?_⟩
                     · (show World.cell? (World.setCell _ _ _) _ = _
                        rw [World.cell?_setCell_other _ _ _ _ (by simp)]
                        assumption)
                     · (go_keep; done)
                     · (go_keep; done)))
                (fail)
              all_goals
                go_wp2
                go_ret2
                rw [HE.out]
                refine ⟨w1.heap.size, v, rfl, heap_setCell_same _ _ 3 _ _ _ (heap_setCell_same _ _ 2 _ _ _ hBe), ?_, by simp only; omega, ?_⟩
                · first
                  | exact FRead.set (FRead.set hre2 hvb) hvb
                  | exact FRead.set ((FRead.set hre2 hvb).pur (Pur.refl _).drew) hvb
                  | exact (FRead.set (FRead.set hre2 hvb) hvb).pur (Pur.refl _).drew
                · have hpu := K.out
                  repeat (first | with_reducible exact hpu | refine Pur.setCell ?_ hwl _ | refine Pur.drew ?_)
          · rw [if_neg hB1] at RT
            simp only at RT
            have b1 : ((n1 : Int) == 1) = false := by simp only [beq_eq_false_iff_ne, ne_eq]; omega
            have hBd := hBb
            have hrd := hrb
            have hpd := hpb
            clear hB1 hBb hrb hpb
            go_wp2_with fail
            refine (CC _ q1 hrd).mono ?_
            rintro e we ⟨rfl, he⟩
            have hBe := bk_pur hBd he
            have hre2 := hrd.pur he
            have hpe2 := hpd.trans he
            clear q0 q1 q2 q3 q4 q5 q6 q7 hBd hrd hpd he CC
            obtain ⟨q0, q1, q2, q3, q4, q5, q6, q7⟩ := blk4 hBe
            by_cases hD : 0 < n3 ∨ 4096 < (0 : Nat)
            · rw [if_pos hD] at RT
              have HE := Lib.hid RT
              have K := Lib.hid (h1.trans hpe2)
              clear RT
              by_cases h3 : 0 < n3
              · have e3 : decide ((0 : Int) < n3) = true := decide_eq_true (by omega)
                have e3n : ¬ n3 = 0 := by omega
                clear hD
                go_wp2
                all_goals
                  go_ret2
                  rw [HE.out]
                  exact give_err K.out
              · obtain rfl : n3 = 0 := by omega
                have e4 : decide ((4096 : Int) < ((0 : Nat) : Int)) = true := decide_eq_true (by omega)
                clear hD
                go_wp2
                all_goals
                  go_ret2
                  rw [HE.out]
                  exact give_err K.out
            rw [if_neg hD] at RT
            obtain rfl : n3 = 0 := by omega
            have e4 : decide ((4096 : Int) < ((0 : Nat) : Int)) = false := decide_eq_false (by omega)
            rw [if_neg (by omega)] at RT
            have e5 : decide ((b.length : Int) - ((k : Int) + 4) < 0) = false := decide_eq_false (by omega)
            have hsub : (b.drop (k + 4)).take 0 = sub b (k + 4) (k + 4) := by simp [sub]
            rw [hsub, Nat.add_zero] at RT
            have z1 : (0 : Int) ≤ (k : Int) + 4 := by omega
            have z3 : (k : Int) + 4 ≤ b.length := by omega
            have z4 : ((k : Int) + 4).toNat = k + 4 := by omega
            have hm5w : IntKind.i64.wrap ((k : Int) + 4) = (k : Int) + 4 := IntWalk.i64_in _ (by omega)
            have hm5w0 : IntKind.i64.wrap ((k : Int) + 4 + 0) = (k : Int) + 4 := by rw [Int.add_zero]; exact hm5w
            have HE := Lib.hid RT
            have K := Lib.hid (h1.trans hpe2)
            have hwl : w.heap.size ≤ w1.heap.size := h1.size
            clear RT hD hsub
            have qz5 := bk_lt hBe
            go_wp2
            go_region_held3 (fun w' => w'.cell? ⟨w1.heap.size, 3, none⟩ = some (.int .i64 ((k : Int) + 4)) ∧ w'.frozen? ⟨w1.heap.size, 2, none⟩ = false ∧ w'.frozen? ⟨w1.heap.size, 3, none⟩ = false)
              (first
                | (go_keep; done)
                | (go_split_ands
                   refine ⟨?_, ?_, ?_⟩
                   · (show World.cell? (World.setCell _ _ _) _ = _
                      rw [World.cell?_setCell_other _ _ _ _ (by simp)]
                      assumption)
                   · (go_keep; done)
                   · (go_keep; done)))
              (fail)
            all_goals
              go_wp2
              go_ret2
              rw [HE.out]
              refine ⟨w1.heap.size, v, rfl, heap_setCell_same _ _ 3 _ _ _ (heap_setCell_same _ _ 2 _ _ _ hBe), ?_, by simp only; omega, ?_⟩
              · first
                | exact FRead.set (FRead.set hre2 hvb) hvb
                | exact FRead.set ((FRead.set hre2 hvb).pur (Pur.refl _).drew) hvb
                | exact (FRead.set (FRead.set hre2 hvb) hvb).pur (Pur.refl _).drew
              · have hpu := K.out
                repeat (first | with_reducible exact hpu | refine Pur.setCell ?_ hwl _ | refine Pur.drew ?_)
theorem readq_any (b : Bytes) (w : World) (hW : HW w) (hs : b.length ≤ 10000000) :
    Calls Tryz.prog 18 #[.string ⟨b.toArray⟩, .func (.func 19) #[] #[], .bool true] w fun e w' => ReadGives w (readMsg (fun s => (reqLine s).isSome) true b) e w' := by
  cases hi : idx crlf2 b with
  | none => exact readq_early b w hW hs (fun k hk => by rw [hi] at hk; cases hk)
  | some k =>
    by_cases hk : k + 4 ≤ 4096
    · exact readq_late b k w hW hs hi hk
    · exact readq_early b w hW hs (fun j hj => by rw [hi] at hj; obtain rfl := Option.some.inj hj; omega)
end Go.Proofs.YtlgdkaeiadhiaaaGreatDoor
