/- Layer 3, the document: Depth. Layer 3, the document: Depth, walked. Layer 3: TreeNests (1): parents of what is read; a tree whose parents are one less. -/
import Derived.Test.YtigfcchblfnnbaaGreatDoorTeF
import Derived.Test.YtigfcchblfnnbaaGreatDoorTeQ
import Derived.Test.YtigfcchblfnnbaaGreatDoorTeL
namespace Go.Proofs.YtigfcchblfnnbaaGreatDoor
open Go Go.RowKit
set_option linter.all false
namespace Te
/-- parents stand ahead -/
def WfP (ns : List NodeV) : Prop := ∀ (k : Nat) n, ns[k]? = some n → -1 ≤ n.par ∧ n.par < (k : Int)
theorem parAt_of {ns : List NodeV} {k : Nat} {n : NodeV} (h : ns[k]? = some n) : parAt ns (k : Int) = n.par := by
  unfold parAt; rw [show ((k : Int)).toNat = k from rfl, h]
theorem WfP.at {ns : List NodeV} (h : WfP ns) (k : Nat) (hk : k < ns.length) : -1 ≤ parAt ns k ∧ parAt ns k < k := by
  rw [parAt_of (List.getElem?_eq_getElem hk)]
  exact h k _ (List.getElem?_eq_getElem hk)
theorem dclimb_step (ns : List NodeV) (p : Int) (f : Nat) (k : Int) : climb ns p (f + 1) k = if 0 ≤ k ∧ k ≠ p then climb ns p f (parAt ns k) else k := rfl
theorem dclimb_fuel (ns : List NodeV) (hw : WfP ns) (p : Int) : ∀ (f g : Nat) (k : Int), k < f → k < g → k < ns.length → climb ns p f k = climb ns p g k
  | 0, g, k, h1, _, _ => by cases g with
    | zero => rfl
    | succ g => rw [dclimb_step, if_neg (by omega)]; rfl
  | f + 1, 0, k, _, h2, _ => by rw [dclimb_step, if_neg (by omega)]; rfl
  | f + 1, g + 1, k, h1, h2, h3 => by
    rw [dclimb_step, dclimb_step]
    by_cases h : 0 ≤ k ∧ k ≠ p
    · rw [if_pos h, if_pos h]
      obtain ⟨m, rfl⟩ : ∃ m : Nat, k = m := ⟨k.toNat, by omega⟩
      have := hw.at m (by omega)
      exact dclimb_fuel ns hw p f g _ (by omega) (by omega) (by omega)
    · rw [if_neg h, if_neg h]
theorem dcount_step (ns : List NodeV) (f : Nat) (k : Int) : count ns (f + 1) k = if 0 ≤ k then count ns f (parAt ns k) + 1 else 0 := rfl
theorem dcount_fuel (ns : List NodeV) (hw : WfP ns) : ∀ (f g : Nat) (k : Int), k < f → k < g → k < ns.length → count ns f k = count ns g k
  | 0, g, k, h1, _, _ => by cases g with
    | zero => rfl
    | succ g => rw [dcount_step, if_neg (by omega)]; rfl
  | f + 1, 0, k, _, h2, _ => by rw [dcount_step, if_neg (by omega)]; rfl
  | f + 1, g + 1, k, h1, h2, h3 => by
    rw [dcount_step, dcount_step]
    by_cases h : 0 ≤ k
    · rw [if_pos h, if_pos h]
      obtain ⟨m, rfl⟩ : ∃ m : Nat, k = m := ⟨k.toNat, by omega⟩
      have := hw.at m (by omega)
      rw [dcount_fuel ns hw f g _ (by omega) (by omega) (by omega)]
    · rw [if_neg h, if_neg h]
/-- climbing and counting, with fuel for all nodes -/
def climbA (ns : List NodeV) (p k : Int) : Int := climb ns p (ns.length + 1) k
def countA (ns : List NodeV) (k : Int) : Nat := count ns (ns.length + 1) k
theorem climbA_go (ns : List NodeV) (hw : WfP ns) (p : Int) (k : Nat) (hk : k < ns.length) (hp : (k : Int) ≠ p) : climbA ns p k = climbA ns p (parAt ns k) := by
  unfold climbA
  have := hw.at k hk
  rw [dclimb_step, if_pos ⟨by omega, hp⟩]
  exact dclimb_fuel ns hw p _ _ _ (by omega) (by omega) (by omega)
theorem climbA_end (ns : List NodeV) (p k : Int) (h : ¬ (0 ≤ k ∧ k ≠ p)) : climbA ns p k = k := by
  unfold climbA; rw [dclimb_step, if_neg h]
theorem countA_go (ns : List NodeV) (hw : WfP ns) (k : Nat) (hk : k < ns.length) : countA ns k = countA ns (parAt ns k) + 1 := by
  unfold countA
  have := hw.at k hk
  rw [dcount_step, if_pos (by omega), dcount_fuel ns hw ns.length (ns.length + 1) _ (by omega) (by omega) (by omega)]
theorem countA_end (ns : List NodeV) (k : Int) (h : k < 0) : countA ns k = 0 := by
  unfold countA; rw [dcount_step, if_neg (by omega)]
theorem depth_zero (ns : List NodeV) : depthR ns 0 = if parAt ns 0 = -1 then 1 else 0 := by unfold depthR; rw [if_pos rfl]
theorem depth_pos (ns : List NodeV) (hw : WfP ns) (i : Nat) (h0 : i ≠ 0) (hi : i < ns.length) : depthR ns i = if climbA ns (parAt ns i) ((i : Int) - 1) < 0 ∨ loAt ns (parAt ns i) = [] then 0 else 1 + countA ns (climbA ns (parAt ns i) ((i : Int) - 1)) := by
  have hc : climb ns (parAt ns i) (i + 1) ((i : Int) - 1) = climbA ns (parAt ns i) ((i : Int) - 1) := dclimb_fuel ns hw _ _ _ _ (by omega) (by omega) (by omega)
  unfold depthR
  rw [if_neg h0, hc]
  by_cases h : climbA ns (parAt ns i) ((i : Int) - 1) < 0 ∨ loAt ns (parAt ns i) = []
  · rw [if_pos h, if_pos h]
  · rw [if_neg h, if_neg h]
    have hlt : climbA ns (parAt ns i) ((i : Int) - 1) < i + 1 := by
      have H : ∀ (n : Nat) (k : Int), k < n → k < ns.length → climbA ns (parAt ns i) k ≤ k := by
        intro n
        induction n with
        | zero => intro k h1 h2; rw [climbA_end ns _ k (by omega)]; omega
        | succ n ih =>
          intro k h1 h2
          by_cases hk : 0 ≤ k ∧ k ≠ parAt ns i
          · obtain ⟨m, rfl⟩ : ∃ m : Nat, k = m := ⟨k.toNat, by omega⟩
            have := hw.at m (by omega)
            have := ih (parAt ns m) (by omega) (by omega)
            rw [climbA_go ns hw _ m (by omega) hk.2]; omega
          · rw [climbA_end ns _ k hk]; omega
      have := H i ((i : Int) - 1) (by omega) (by omega)
      omega
    have hlt2 : climbA ns (parAt ns i) ((i : Int) - 1) < ns.length := by omega
    unfold countA
    rw [dcount_fuel ns hw (i + 1) (ns.length + 1) _ (by omega) (by omega) hlt2]
end Te
end Go.Proofs.YtigfcchblfnnbaaGreatDoor
namespace Go.Proofs.YtigfcchblfnnbaaGreatDoor
open Go Go.RowKit
set_option linter.all false
namespace Te
set_option maxRecDepth 100000 in
set_option maxHeartbeats 16000000 in
theorem depth_any (ns : List NodeV) (v : Value) (i : Nat) (w : World) (h : NRead w v ns) (hwf : WfP ns) (hl : ns.length ≤ 1000000) (hi : i < ns.length) :
    Calls Tryz.prog 9 #[.agg #[v], .int .i64 (i : Int)] w fun e w' => e = .returned (.int .i64 (depthR ns i : Int)) ∧ Pur w w' := by
  obtain ⟨a, c, rfl⟩ := h.shape
  obtain ⟨-, hc, hm⟩ := h.len
  obtain ⟨w0, hw0⟩ : ∃ w0, w0 = w.alloc (.cells #[.slice a ns.length c] 29) := ⟨_, rfl⟩
  have hb0 : w0.heap[w.heap.size]? = some (.cells #[.slice a ns.length c] 29 (0, 0)) := by rw [hw0]; exact bk_new w _
  have hp0 : Pur w w0 := by rw [hw0]; exact (Pur.refl w).alloc _
  have h0 := h.pur hp0
  have t0 := bk_cell hb0 0 _ rfl
  have hc' : (ns.length : Int) ≤ c := by omega
  obtain ⟨g, o, ha, hg, KP, KL⟩ : ∃ g o, a = some ⟨g, o, none⟩ ∧ g < w0.heap.size ∧ (∀ k : Nat, k < ns.length → w0.cell? ⟨g, o + k * 7 + 4, none⟩ = some (.int .i64 (parAt ns k))) ∧ (∀ k : Nat, k < ns.length → w0.cell? ⟨g, o + k * 7 + 1, none⟩ = some (.string ⟨(loAt ns k).toArray⟩)) := by
    obtain ⟨n, hn⟩ : ∃ n, ns[i]? = some n := ⟨_, List.getElem?_eq_getElem hi⟩
    obtain ⟨g, o, ea, ec, p, q, rfl, hg, -⟩ := h0.node hn
    refine ⟨g, o, rfl, hg, fun k hk => ?_, fun k hk => ?_⟩
    all_goals
      obtain ⟨n, hn⟩ : ∃ n, ns[k]? = some n := ⟨_, List.getElem?_eq_getElem hk⟩
      obtain ⟨g', o', ea, ec, p, q, e, hg', HC⟩ := h0.node hn
      cases e
      obtain ⟨k0, k1, k2, k3, k4, -⟩ := HC w0 (Pur.refl _)
    · rw [parAt_of hn]; exact k4
    · unfold loAt; rw [show ((k : Int)).toNat = k from rfl, hn]; exact k1
  subst ha
  replace KP := Lib.hid KP
  replace KL := Lib.hid KL
  have WA := Lib.hid hwf.at
  by_cases hi0 : i = 0
  · subst hi0
    have kp := KP.out 0 hi
    have hi2 : (0 : Int) < ns.length := by omega
    rw [depth_zero]
    simp only [Nat.zero_mul, Nat.add_zero] at kp
    obtain ⟨P, hP⟩ : ∃ P, parAt ns (0 : Nat) = P := ⟨_, rfl⟩
    rw [hP] at kp
    have hP' : parAt ns 0 = P := hP
    rw [hP']
    clear hP hP' KP KL WA hwf
    by_cases h1 : P = -1
    · subst h1
      rw [if_pos rfl]
      go_enter Tryz.func9, Tryz.ntmps9
      go_upto_region 1 with (fail)
      rw [← hw0]
      clear hw0
      go_wp2
      go_ret
      exact ⟨rfl, hp0⟩
    · have d1 : (P == -1) = false := by rw [beq_eq_false_iff_ne]; exact h1
      rw [if_neg h1]
      go_enter Tryz.func9, Tryz.ntmps9
      go_upto_region 1 with (fail)
      rw [← hw0]
      clear hw0
      go_wp2
      go_ret
      exact ⟨rfl, hp0⟩
  · have d0 : ((i : Int) == 0) = false := by rw [beq_eq_false_iff_ne]; omega
    have kp := KP.out i hi
    have hDP := depth_pos ns hwf i hi0 hi
    obtain ⟨R, hR⟩ : ∃ R, R = depthR ns i := ⟨_, rfl⟩
    rw [← hR] at hDP ⊢
    obtain ⟨P, hP⟩ : ∃ P, parAt ns i = P := ⟨_, rfl⟩
    have hPb := WA.out i hi
    rw [hP] at kp hDP hPb
    obtain ⟨C, hC⟩ : ∃ C, C = climbA ns P ((i : Int) - 1) := ⟨_, rfl⟩
    rw [← hC] at hDP
    replace hDP := Lib.hid hDP
    replace hC := Lib.hid hC
    have hi2 : (i : Int) < ns.length := by omega
    have hwi : IntKind.i64.wrap ((i : Int) - 1) = (i : Int) - 1 := IntWalk.i64_in _ (by omega)
    clear hR hP
    go_enter Tryz.func9, Tryz.ntmps9
    go_upto_region 1 with (fail)
    rw [← hw0]
    clear hw0
    go_wp2
    go_loopw [6] (fun k wx => ∃ kk : Int, k = .int .i64 kk ∧ -1 ≤ kk ∧ kk < ns.length ∧ wx = w0 ∧ Hid (C = climbA ns P kk)) (fun k _ => (intOf k + 1).toNat)
    case atStart => exact ⟨(i : Int) - 1, by first | rfl | go_num, by omega, by omega, rfl, hC⟩
    case round =>
      obtain ⟨kk, rfl, hk1, hk2, e0, HC⟩ := hrel
      subst wr
      by_cases hk0 : 0 ≤ kk
      · obtain ⟨m, rfl⟩ : ∃ m : Nat, kk = m := ⟨kk.toNat, by omega⟩
        have hml : m < ns.length := by omega
        have d2 : decide ((0 : Int) ≤ (m : Int)) = true := decide_eq_true (by omega)
        have hm2 : (m : Int) < ns.length := by omega
        by_cases hkp : (m : Int) = P
        · -- the parent is there
          have d3 : ((m : Int) == P) = true := by rw [beq_iff_eq]; exact hkp
          have hCe : C = m := by rw [HC.out, climbA_end ns P m (by omega)]
          have kl := KL.out m hml
          have hPe : P = m := hkp.symm
          subst hPe
          obtain ⟨LO, hLO⟩ : ∃ LO, loAt ns (m : Int) = LO := ⟨_, rfl⟩
          rw [hLO] at kl
          have hD2 : R = if (m : Int) < 0 ∨ LO = [] then 0 else 1 + countA ns m := by rw [hDP.out, hCe, hLO]
          clear hLO hDP HC hC hCe kp hkp
          cases LO with
          | nil =>
            have hD3 := Lib.hid (show R = 0 by rw [hD2, if_pos (.inr rfl)])
            clear hD2 KP KL WA
            go_wp2
            go_ret
            exact ⟨by rw [hD3.out]; rfl, hp0⟩
          | cons lo0 lor =>
            have hD3 := Lib.hid (show R = 1 + countA ns m by rw [hD2, if_neg (by intro h; rcases h with h | h; omega; cases h)])
            have hle : (lo0 :: lor).isEmpty = false := rfl
            clear hD2 KL
            go_wp2
            go_loopw [6, 7] (fun k n wx => ∃ (kk : Int) (q : Nat), k = .int .i64 kk ∧ n = .int .i64 (q : Int) ∧ -1 ≤ kk ∧ kk < ns.length ∧ (q : Int) + kk ≤ ns.length + 1 ∧ wx = w0 ∧ Hid (R = q + countA ns kk)) (fun k _ _ => (intOf k + 1).toNat)
            case atStart => exact ⟨(m : Int), 1, rfl, rfl, by omega, by omega, by omega, rfl, Lib.hid (by rw [hD3.out])⟩
            case round =>
              obtain ⟨kk, q, rfl, rfl, hk1, hk2, hq, e0, HC⟩ := hrel
              subst wr
              by_cases hk0 : 0 ≤ kk
              · obtain ⟨s, rfl⟩ : ∃ s : Nat, kk = s := ⟨kk.toNat, by omega⟩
                have hsl : s < ns.length := by omega
                have d4 : decide ((0 : Int) ≤ (s : Int)) = true := decide_eq_true (by omega)
                have kq := KP.out s hsl
                have hs2 : (s : Int) < ns.length := by omega
                have wb := WA.out s hsl
                have HC2 := Lib.hid (show R = (q + 1) + countA ns (parAt ns s) by rw [HC.out, countA_go ns hwf s hsl]; omega)
                generalize parAt ns s = P2 at *
                have hwq : IntKind.i64.wrap ((q : Int) + 1) = (q : Int) + 1 := IntWalk.i64_in _ (by omega)
                clear HC hk0
                go_wp2
                go_roundw
                case rel => exact ⟨P2, q + 1, rfl, by go_num, by omega, by omega, by omega, trivial, HC2⟩
                case measure => simp [intOf]; omega
              · have d4 : decide ((0 : Int) ≤ kk) = false := decide_eq_false hk0
                have HC2 := Lib.hid (show R = q by rw [HC.out, countA_end ns kk (by omega)]; rfl)
                clear HC
                go_wp2
                go_ret
                exact ⟨by rw [HC2.out]; rfl, hp0⟩
        · have d3 : ((m : Int) == P) = false := by rw [beq_eq_false_iff_ne]; exact hkp
          have kq := KP.out m hml
          have hm2 : (m : Int) < ns.length := by omega
          have wb := WA.out m hml
          have HC2 := Lib.hid (show C = climbA ns P (parAt ns m) by rw [HC.out, climbA_go ns hwf P m hml hkp])
          generalize parAt ns m = P2 at *
          clear HC hk0 hkp
          go_wp2
          go_roundw
          case rel => exact ⟨P2, rfl, by omega, by omega, trivial, HC2⟩
          case measure => simp [intOf]; omega
      · have d2 : decide ((0 : Int) ≤ kk) = false := decide_eq_false hk0
        have hkk : kk = -1 := by omega
        subst hkk
        have hCe : C = -1 := by rw [HC.out, climbA_end ns P (-1) (by omega)]
        have hD3 := Lib.hid (show R = 0 by rw [hDP.out, hCe, if_pos (.inl (by omega))])
        clear hDP HC hC hCe KP KL WA kp
        go_wp2
        go_ret
        exact ⟨by rw [hD3.out]; rfl, hp0⟩
end Te
end Go.Proofs.YtigfcchblfnnbaaGreatDoor
namespace Go.Proofs.YtigfcchblfnnbaaGreatDoor
open Go Go.RowKit
set_option linter.all false
namespace Te
open Tk (TW TokV AttrV add_z)
theorem tokens_inv : ∀ (N : List TokV) (b bf : Bd), tokensGo N b = .ok bf → (∀ t ∈ N, t.kind = 1 → t.nm ≠ []) → Inv b → (b.stack ≠ [] → b.begun = true) → Inv bf
  | [], b, bf, h, _, I, _ => by rw [tokensGo] at h; cases h; exact I
  | t :: N, b, bf, h, hn, I, hs => by
    rw [tokensGo] at h
    rcases h1 : token b t with e | b1
    · rw [h1] at h; cases h
    · rw [h1] at h
      obtain ⟨I1, s1, -, -⟩ := token_inv h1 I (hn t (by simp)) hs
      exact tokens_inv N b1 bf h (fun x hx => hn x (by simp [hx])) I1 s1
theorem parse_wf {l : Bs} {ns : List NodeV} (h : parse l = .ok ns) : WfP ns := by
  unfold parse at h
  rcases hw : Tk.whole l with e | ts
  · rw [hw] at h; cases h
  rw [hw] at h
  dsimp only at h
  unfold build at h
  rcases h1 : tokensGo ts ⟨[], [], false⟩ with e | b
  · rw [h1] at h; cases h
  rw [h1] at h
  dsimp only at h
  have I := tokens_inv ts _ b h1 (fun t ht => (tokOk_of hw).nm t ht) Inv.init (by simp)
  split at h
  · cases h
  · split at h
    · cases h
      exact fun k n hk => I.par k n hk
    · cases h
theorem token_beg {b b1 : Bd} {t : TokV} (h : token b t = .ok b1) (hk : t.kind ≠ 1) : b1.begun = b.begun := by
  unfold token at h
  rw [if_neg hk] at h
  split at h
  · split at h
    · split at h
      · cases h; rfl
      · cases h
    · cases h
  · split at h
    · split at h
      · cases h; rfl
      · cases h
    · split at h
      · cases h
      · cases h; rfl
theorem tokens_ne : ∀ (N : List TokV) (b bf : Bd), tokensGo N b = .ok bf → (∀ t ∈ N, t.kind = 1 → t.nm ≠ []) → Inv b → (b.stack ≠ [] → b.begun = true) → (b.begun = true → 0 < b.nodes.length) → bf.begun = true → 0 < bf.nodes.length
  | [], b, bf, h, _, _, _, hj => by rw [tokensGo] at h; cases h; exact hj
  | t :: N, b, bf, h, hn, I, hs, hj => by
    rw [tokensGo] at h
    rcases h1 : token b t with e | b1
    · rw [h1] at h; cases h
    · rw [h1] at h
      obtain ⟨I1, s1, ⟨e, he⟩, k1⟩ := token_inv h1 I (hn t (by simp)) hs
      refine tokens_ne N b1 bf h (fun x hx => hn x (by simp [hx])) I1 s1 (fun hb => ?_)
      by_cases hk : t.kind = 1
      · have := (k1 hk).2.1; omega
      · rw [token_beg h1 hk] at hb
        have := hj hb
        rw [he, List.length_append]; omega
theorem parse_pos {l : Bs} {ns : List NodeV} (h : parse l = .ok ns) : 0 < ns.length := by
  unfold parse at h
  rcases hw : Tk.whole l with e | ts
  · rw [hw] at h; cases h
  rw [hw] at h
  dsimp only at h
  unfold build at h
  rcases h1 : tokensGo ts ⟨[], [], false⟩ with e | b
  · rw [h1] at h; cases h
  rw [h1] at h
  dsimp only at h
  have I := tokens_ne ts _ b h1 (fun t ht => (tokOk_of hw).nm t ht) Inv.init (by simp) (by simp)
  split at h
  · cases h
  · split at h
    · rename_i hb
      cases h
      exact I hb
    · cases h
theorem bare_nN {a b : NodeV} (h : nN a = nN b) : a.bare = b.bare := by
  obtain ⟨s1, l1, e1, t1, p1, q1⟩ := a
  obtain ⟨s2, l2, e2, t2, p2, q2⟩ := b
  unfold nN at h
  simp only [NodeV.mk.injEq, and_true] at h
  obtain ⟨rfl, rfl, he, rfl, rfl⟩ := h
  unfold NodeV.bare
  dsimp only
  have : e1.map ExV.bare = e2.map ExV.bare := by
    have h2 := congrArg (List.map ExV.bare) he
    simp only [List.map_map] at h2
    have e : ExV.bare ∘ nE = ExV.bare := by funext x; rfl
    rw [e] at h2
    exact h2
  rw [this]
/-- nodes whose parents from the first to the i-th are one less -/
def decP (ms : List NodeV) (i : Nat) : List NodeV := ms.mapIdx fun k m => if 1 ≤ k ∧ k ≤ i then { m with par := m.par - 1 } else m
theorem decP_len (ms : List NodeV) (i : Nat) : (decP ms i).length = ms.length := by simp [decP]
theorem decP_at (ms : List NodeV) (i k : Nat) (m : NodeV) (h : ms[k]? = some m) : (decP ms i)[k]? = some (if 1 ≤ k ∧ k ≤ i then { m with par := m.par - 1 } else m) := by
  unfold decP; rw [List.getElem?_mapIdx, h]; rfl
theorem decP_zero (ms : List NodeV) : decP ms 0 = ms := by
  apply List.ext_getElem?
  intro k
  cases h : ms[k]? with
  | none =>
    have := List.getElem?_eq_none_iff.1 h
    rw [List.getElem?_eq_none (by rw [decP_len]; exact this)]
  | some m => rw [decP_at ms 0 k m h, if_neg (by omega)]
theorem decP_set (ms : List NodeV) (i : Nat) (m : NodeV) (h : ms[i + 1]? = some m) : decP ms (i + 1) = (decP ms i).set (i + 1) { m with par := m.par - 1 } := by
  apply List.ext_getElem?
  intro k
  have hi := (List.getElem?_eq_some_iff.1 h).1
  by_cases hk : i + 1 = k
  · subst hk
    rw [decP_at ms _ _ m h, if_pos (by omega), List.getElem?_set_self (by rw [decP_len]; exact hi)]
  · rw [List.getElem?_set_ne hk]
    cases h2 : ms[k]? with
    | none =>
      have := List.getElem?_eq_none_iff.1 h2
      rw [List.getElem?_eq_none (by rw [decP_len]; exact this), List.getElem?_eq_none (by rw [decP_len]; exact this)]
    | some m2 =>
      rw [decP_at ms _ k m2 h2, decP_at ms _ k m2 h2]
      by_cases h3 : 1 ≤ k ∧ k ≤ i
      · rw [if_pos h3, if_pos (by omega)]
      · rw [if_neg h3, if_neg (by omega)]
theorem nodeCells_set : ∀ (evs : List Value) (ns : List NodeV) (k : Nat) (n : NodeV) (p : Int), evs.length = ns.length → ns[k]? = some n → (nodeCells evs ns).set (7 * k + 4) (.int .i64 p) = nodeCells evs (ns.set k { n with par := p })
  | e :: evs, m :: ns, 0, n, p, h, hk => by
    obtain rfl : m = n := by simpa using hk
    rfl
  | e :: evs, m :: ns, k + 1, n, p, h, hk => by
    have ih := nodeCells_set evs ns k n p (by simpa using h) (by simpa using hk)
    unfold nodeCells at ih ⊢
    rw [List.zip_cons_cons, List.flatMap_cons, List.set_cons_succ, List.zip_cons_cons, List.flatMap_cons, ← ih]
    have hl : (NodeV.cells e m).length = 7 := rfl
    rw [List.set_append_right _ _ (by rw [hl]; omega), hl, show 7 * (k + 1) + 4 - 7 = 7 * k + 4 by omega]
  | [], _, k, n, p, h, hk => by cases k <;> (cases ‹List NodeV› <;> simp at h hk)
/-- a part of a row of nodes, from the second on -/
theorem row_part {w : World} {g cap : Nat} {evs : List Value} {ns : List NodeV} (N : Nat) (h : w.ownsRow 0 38 7 (.slice (some ⟨g, 0, none⟩) ns.length cap) ns.length (nodeCells evs ns)) (hl : evs.length = ns.length)
    (hx : ∀ (j : Nat) u n, evs[j]? = some u → ns[j]? = some n → w.ownsRow 0 81 5 u n.ex.length (n.ex.flatMap ExV.cells)) (hN : N + 1 ≤ ns.length) (hc : N + 1 ≤ cap) :
    NRead w (.slice (some ⟨g, 7, none⟩) N (cap - 1)) ((ns.drop 1).take N) := by
  have hlen : ((ns.drop 1).take N).length = N := by simp; omega
  rcases h.2 with ⟨e, _⟩ | ⟨g', cap', cur, e, _, hg, hn, hcm, _⟩
  · cases e
  cases e
  refine ⟨some ⟨g, 7, none⟩, cap - 1, by rw [hlen], ⟨by rw [hlen]; omega, by rw [hlen]; unfold maxLen at hcm; omega⟩, fun i n hi => ?_⟩
  have hiN : i < N := by have := (List.getElem?_eq_some_iff.1 hi).1; omega
  rw [List.getElem?_take_of_lt hiN, List.getElem?_drop, Nat.add_comm 1 i] at hi
  obtain ⟨ev, hev⟩ : ∃ ev, evs[i + 1]? = some ev := by
    have := (List.getElem?_eq_some_iff.1 hi).1
    exact ⟨evs[i + 1]'(by omega), List.getElem?_eq_getElem _⟩
  have hc := h.cells (g := g) rfl
  simp only [add_z] at hc
  have hk := fun k (hk : k < 7) => node_cells evs ns (i + 1) k ev n hev hi hk
  have e0 : 7 + i * 7 = 7 * (i + 1) := by omega
  refine ⟨g, 7, ev, (n.at_.1 : Int), (n.at_.2 : Int), rfl, bk_lt hg, ?_, ?_, ?_, ?_, ?_, ?_, ?_, (XReadQ.of_own (hx (i + 1) ev n hev hi)).less⟩
  all_goals rw [e0]
  · exact hc (7 * (i + 1)) _ (by have := hk 0 (by omega); simpa [NodeV.cells] using this)
  · exact hc (7 * (i + 1) + 1) _ (by have := hk 1 (by omega); simpa [NodeV.cells] using this)
  · exact hc (7 * (i + 1) + 2) _ (by have := hk 2 (by omega); simpa [NodeV.cells] using this)
  · exact hc (7 * (i + 1) + 3) _ (by have := hk 3 (by omega); simpa [NodeV.cells] using this)
  · exact hc (7 * (i + 1) + 4) _ (by have := hk 4 (by omega); simpa [NodeV.cells] using this)
  · exact hc (7 * (i + 1) + 5) _ (by have := hk 5 (by omega); simpa [NodeV.cells] using this)
  · exact hc (7 * (i + 1) + 6) _ (by have := hk 6 (by omega); simpa [NodeV.cells] using this)
theorem bare_dec {m n : NodeV} (h : nN m = nN (upN n)) : NodeV.bare { m with par := m.par - 1 } = n.bare ∧ m.par = n.par + 1 := by
  have h1 := bare_nN h
  have h2 : m.par = n.par + 1 := by
    have := congrArg NodeV.par h
    exact this
  refine ⟨?_, h2⟩
  unfold NodeV.bare upN at h1
  unfold NodeV.bare
  simp only [Prod.mk.injEq] at h1 ⊢
  exact ⟨h1.1, h1.2.1, h1.2.2.1, h1.2.2.2.1, by omega⟩
theorem part_bare {ns ms : List NodeV} (hl : ns.length + 1 ≤ ms.length) (h : ∀ (i : Nat) n, ns[i]? = some n → ∃ m, ms[i + 1]? = some m ∧ nN m = nN (upN n)) : ns.map NodeV.bare = (((decP ms ns.length).drop 1).take ns.length).map NodeV.bare := by
  apply List.ext_getElem?
  intro i
  rw [List.getElem?_map, List.getElem?_map]
  by_cases hi : i < ns.length
  · have hn : ns[i]? = some ns[i] := List.getElem?_eq_getElem hi
    obtain ⟨m, h1, h2⟩ := h i _ hn
    rw [List.getElem?_take_of_lt hi, List.getElem?_drop, Nat.add_comm 1 i, decP_at ms _ _ m h1, if_pos (by omega), hn]
    simp only [Option.map_some]
    rw [(bare_dec h2).1]
  · rw [List.getElem?_eq_none (by omega), List.getElem?_eq_none (by simp; omega)]
end Te
end Go.Proofs.YtigfcchblfnnbaaGreatDoor
