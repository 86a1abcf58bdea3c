/- Layer 8: (*Heap).Put, whole. -/
import Derived.Test.YtfophnmnehpenaaDoorHm28
namespace Go.Proofs.YtfophnmnehpenaaDoor
open Go Go.RowKit
set_option linter.all false
theorem index_most {l : List UInt8} {n : Nat} (h : index l = some n) : n ≤ 2147483647 := by
  unfold index at h
  split at h
  · cases h
  · unfold most31 at h
    rcases hx : idxL (unitsOf l) 0 false with _ | k
    · rw [hx] at h; cases h
    · rw [hx] at h
      simp only [Option.bind_some] at h
      split at h
      · cases h
      · cases h; omega
theorem put_any (s : Hs) (i : Int) (key : List UInt8) (v : Va) (w : World) (h : HpAt w s) {G : Nat} (hok : s.d.Ok G) (hvw : v.wf) (hkl : key.length ≤ 1000000) :
    Calls Tryd.prog 16 #[.pointer (some ⟨s.h, 0, none⟩), .int .i64 i, .string ⟨key.toArray⟩, v.v] w fun e w' => e = .returned (.int .i64 (s.d.put i key v).1) ∧ Left w s w' (s.d.put i key v).2 := by
  unfold Hd.put
  rcases hx : s.d.obj i with _ | x
  · exact put_none s i key v w h hx
  · simp only
    rcases hr : v.right s.d.xs.length with _ | _
    · rw [if_pos rfl]
      exact put_wrong s i x key v w h hx hvw hr
    · rw [if_neg (by simp)]
      by_cases hl : x.kind = 2 ∧ key = lenKey
      · rw [if_pos hl]
        rcases hn : lenOf v with _ | m
        · exact put_len_bad s i x key v w h hok hx hvw hr hl.1 hl.2 hn
        · exact put_len s i x key v w h hok hx hvw hr hl.1 hl.2 m hn
      · rw [if_neg hl]
        rcases hi : (if x.kind = 2 then index key else none) with _ | m
        · simp only
          rcases hb : (x.props key).isSome with _ | _
          · rw [if_neg (by simp)]
            by_cases hlt : s.d.left < 1
            · rw [if_pos hlt]
              exact put_prop_full s i x key v w h hok hx hvw hr hkl hl hi hb hlt
            · rw [if_neg hlt]
              exact put_prop_new s i x key v w h hok hx hvw hr hkl hl hi hb hlt
          · rw [if_pos rfl]
            exact put_prop_old s i x key v w h hok hx hvw hr hkl hl hi hb
        · have hk : x.kind = 2 := Classical.byContradiction fun hk => by rw [if_neg hk] at hi; cases hi
          rw [if_pos hk] at hi
          have hne : ¬ key = lenKey := fun e => hl ⟨hk, e⟩
          have hm2 := index_most hi
          simp only
          by_cases hm : x.items.length ≤ m
          · rw [if_pos hm]
            by_cases hlt : s.d.left < (m : Int) + 1 - x.items.length
            · rw [if_pos hlt]
              exact put_full s i x key v w h hok hx hvw hr hk hkl hne m hi hm hm2 hlt
            · rw [if_neg hlt]
              exact put_grow s i x key v w h hok hx hvw hr hk hkl hne m hi hm hm2 hlt
          · rw [if_neg hm]
            exact put_item s i x key v w h hok hx hvw hr hk hkl hne m hi (by omega)
/-- the contract's answer, given beforehand -/
theorem put_at (s : Hs) (i : Int) (key : List UInt8) (v : Va) (w : World) (h : HpAt w s) {G : Nat} (hok : s.d.Ok G) (hvw : v.wf) (hkl : key.length ≤ 1000000) {R : Int × Hd} (hR : s.d.put i key v = R) :
    Calls Tryd.prog 16 #[.pointer (some ⟨s.h, 0, none⟩), .int .i64 i, .string ⟨key.toArray⟩, v.v] w fun e w' => e = .returned (.int .i64 R.1) ∧ ∃ s', HpAt w' s' ∧ Step w s w' s' ∧ s'.d = R.2 := by
  refine (put_any s i key v w h hok hvw hkl).mono ?_
  rintro e w' ⟨rfl, s', h1, h2, h3, -⟩
  rw [hR] at h3 ⊢
  exact ⟨rfl, s', h1, h2, h3⟩
end Go.Proofs.YtfophnmnehpenaaDoor
