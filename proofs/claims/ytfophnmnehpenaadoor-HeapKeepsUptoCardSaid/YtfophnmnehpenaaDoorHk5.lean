/- Layer 8: the law HeapKeeps in plain words: each step of it. -/
import Derived.Test.YtfophnmnehpenaaDoorHk3
namespace Go.Proofs.YtfophnmnehpenaaDoor
open Go Go.RowKit
set_option linter.all false
theorem num_right (x n : Nat) : (Va.num' x).right n = true := by simp [Va.right, Va.num']
section
variable (L : Int) (xs : List Ob) (p q : Int) (ks js : List (List UInt8)) (f g : List UInt8 → Option Va) (A B : Ob) (key : List UInt8) (v : Va)
theorem kx_wrong (hr : v.right (xs.length + 2) = false) : (Hd.mk L (xs ++ [oA p ks f, B])).put xs.length key v = (1, ⟨L, xs ++ [oA p ks f, B]⟩) := by
  rw [kp_put p ks f key v _ (kp_objA L xs _ B), kp_len, if_pos hr]
theorem kx_full (hr : v.right (xs.length + 2) = true) (hf : f key = none) (hL : L < 1) : (Hd.mk L (xs ++ [oA p ks f, B])).put xs.length key v = (112, ⟨L, xs ++ [oA p ks f, B]⟩) := by
  rw [kp_put p ks f key v _ (kp_objA L xs _ B), kp_len, hr, hf]
  simp [hL]
theorem kx_new (hr : v.right (xs.length + 2) = true) (hf : f key = none) (hL : ¬ L < 1) : (Hd.mk L (xs ++ [oA p ks f, B])).put xs.length key v = (0, ⟨L - 1, xs ++ [oA p (ks ++ [key]) (upd f key (some v)), B]⟩) := by
  rw [kp_put p ks f key v _ (kp_objA L xs _ B), kp_len, hr, hf, if_neg (by simp), if_neg (by simp), if_neg hL, kp_turnA]
theorem kx_old {u : Va} (hr : v.right (xs.length + 2) = true) (hf : f key = some u) : (Hd.mk L (xs ++ [oA p ks f, B])).put xs.length key v = (0, ⟨L, xs ++ [oA p ks (upd f key (some v)), B]⟩) := by
  rw [kp_put p ks f key v _ (kp_objA L xs _ B), kp_len, hr, hf, if_neg (by simp), if_pos (by simp), kp_turnA]
theorem kx_fullB (hr : v.right (xs.length + 2) = true) (hf : f key = none) (hL : L < 1) : (Hd.mk L (xs ++ [A, oA p ks f])).put (xs.length + 1) key v = (112, ⟨L, xs ++ [A, oA p ks f]⟩) := by
  rw [kp_put p ks f key v _ (kp_objB L xs A _), kp_len, hr, hf]
  simp [hL]
theorem kx_newB (hr : v.right (xs.length + 2) = true) (hf : f key = none) (hL : ¬ L < 1) : (Hd.mk L (xs ++ [A, oA p ks f])).put (xs.length + 1) key v = (0, ⟨L - 1, xs ++ [A, oA p (ks ++ [key]) (upd f key (some v))]⟩) := by
  rw [kp_put p ks f key v _ (kp_objB L xs A _), kp_len, hr, hf, if_neg (by simp), if_neg (by simp), if_neg hL, kp_turnB]
theorem kx_own (hf : f key = some v) : (Hd.mk L (xs ++ [oA p ks f, B])).own xs.length key = (v, true) := by
  rw [kp_own p ks f key _ (kp_objA L xs _ B), hf]; rfl
theorem kx_get (hg : g key = none) (hf : f key = some v) : (Hd.mk L (xs ++ [oA p ks f, oA xs.length js g])).get (xs.length + 1) key = (v, true) :=
  kp_get _ _ _ _ (kp_objB L xs _ _) hg (kp_objA L xs _ _) hf
theorem kx_keys : (Hd.mk L (xs ++ [oA p ks f, B])).keys xs.length = ks := kp_keys p ks f _ (kp_objA L xs _ B)
theorem kx_keysB : (Hd.mk L (xs ++ [A, oA p ks f])).keys (xs.length + 1) = ks := kp_keys p ks f _ (kp_objB L xs A _)
theorem kx_drop (hf : f key = some v) : (Hd.mk L (xs ++ [oA p ks f, B])).drop xs.length key = (true, ⟨L + 1, xs ++ [oA p (ks.filter fun k => !(k == key)) (upd f key none), B]⟩) := by
  rw [kp_drop p ks f key _ (kp_objA L xs _ B), hf, if_pos (by simp), kp_turnA]
theorem kx_undrop (hf : f key = none) : (Hd.mk L (xs ++ [oA p ks f, B])).drop xs.length key = (false, ⟨L, xs ++ [oA p ks f, B]⟩) := by
  rw [kp_drop p ks f key _ (kp_objA L xs _ B), hf, if_neg (by simp)]
end
theorem upd_at (f : List UInt8 → Option Va) (k : List UInt8) (x : Option Va) : upd f k x k = x := if_pos rfl
theorem upd_off (f : List UInt8 → Option Va) {k k' : List UInt8} (x : Option Va) (h : k' ≠ k) : upd f k x k' = f k' := if_neg h
theorem kx_filter (key : List UInt8) (c : UInt8) : ([key, key ++ [0, c]].filter fun k => !(k == key)) = [key ++ [0, c]] := by
  have h := key_ne key c
  have hb : (key ++ [0, c] == key) = false := beq_eq_false_iff_ne.2 h
  simp only [List.filter, hb, beq_self_eq_true, Bool.not_true, Bool.not_false]
end Go.Proofs.YtfophnmnehpenaaDoor
