/- append onto a row of the call's own, the source a slice that reads: nil, empty or not. -/
import Derived.Test.YtigfcchblfnnbaaGreatDoorBase
import Derived.Laws.AppendOwnNone
import Derived.Maps.AppendAt
namespace Go.Proofs.YtigfcchblfnnbaaGreatDoor
open Go Go.RowKit
set_option linter.all false
section
variable {P : Program} {w : World}
theorem run_append_nil (base : Nat) (t ty e : TypeId) (i : TypeInfo) (size : Nat) (ht : P.underlying t = some (.slice e)) (hi : P.info? e = some i) (v : Value) (n : Nat) (xs : List Value) (hown : w.ownsRow base e size v n xs) (c : Nat) :
    (Builtin.append_ #[t, t] ty #[v, .slice none 0 c]).run P w = .ok v w := by
  have h := run_append_owned_none (P := P) (w := w) base t ty e i size ht hi v n xs hown
  exact h
/-- what a slice value gives to an append: m elements of 'size' cells -/
def Feeds (w : World) (size : Nat) (a : Option Addr) (m : Nat) (news : List Value) : Prop :=
  news.length = m * size ∧ (0 < m → ∃ ad, a = some ad ∧ ∀ (j : Nat) u, news[j]? = some u → w.cell? (ad.add j) = some u)
theorem wp_append_feeds {o : Oper} {a : Act} {K : Act → World → Prop} {Q : Exit → Act → World → Prop} (s x : Operand) (t : TypeId)
    (ho : o.op = .call { callee := .builtin .append, args := #[s, x], argTypes := #[t, t] })
    (base : Nat) (e : TypeId) (i : TypeInfo) (z : Value) (size bytes : Nat) (ht : P.underlying t = some (.slice e)) (hi : P.info? e = some i) (hz : i.zero = some z)
    (hsize : i.size = size) (hby : i.bytes = bytes) (hzs : z.cells.size = size) (hsz : 0 < size)
    (v : Value) (n : Nat) (xs : List Value) (hs : a.eval s = v) (hown : w.ownsRow base e size v n xs)
    (A : Option Addr) (m c : Nat) (news : List Value) (hx : a.eval x = .slice A m c) (hf : Feeds w size A m news) (h1 : ∀ u ∈ news, u.oneCell' = true)
    (h63 : n + m ≤ maxLen) (hbytes : (n + m) * bytes ≤ 140737488355328) (hbase : base ≤ w.heap.size)
    (h : ∀ v' w', w'.ownsRow base e size v' (n + m) (xs ++ news) → w.grownBy w' v.ownBlock → K (a.put o.dst v') w') : o.wp P a w K Q := by
  cases A with
  | some ad =>
    refine wp_append_own w s x t ho base e i z size bytes ht hi hz hsize hby hzs hsz v n xs hs hown ad m c news hx hf.1 (fun j u hj => ?_) h1 h63 hbytes hbase fun v' w' g1 g2 _ => h v' w' g1 g2
    by_cases hm : 0 < m
    · obtain ⟨ad', e1, e2⟩ := hf.2 hm
      cases e1
      exact e2 j u hj
    · have : news = [] := List.length_eq_zero_iff.1 (by rw [hf.1, show m = 0 by omega, Nat.zero_mul])
      rw [this] at hj
      simp at hj
  | none =>
    have hm : m = 0 := by
      rcases Nat.eq_zero_or_pos m with h0 | h0
      · exact h0
      · obtain ⟨_, e1, _⟩ := hf.2 h0
        cases e1
    subst hm
    obtain rfl : news = [] := List.length_eq_zero_iff.1 (by rw [hf.1, Nat.zero_mul])
    have hrun := run_append_nil (P := P) (w := w) base t o.type e i size ht hi v n xs hown c
    unfold Oper.wp
    simp [execOp, ho, resolve, invoke, builtin, hs, hx, hrun, Result.andThen]
    exact h v w (by simpa using hown) (World.grownBy.refl w _)
/-- in a list, the operation guarded or not -/
theorem wpList_append_feeds {ops : Array Oper} {rest : List Oper} {o : Oper} {a : Act} {Q : Exit → Act → World → Prop} (hgd : Region.wanted o (yielded ops a.tmps) = true) (s x : Operand) (t : TypeId)
    (ho : o.op = .call { callee := .builtin .append, args := #[s, x], argTypes := #[t, t] })
    (base : Nat) (e : TypeId) (i : TypeInfo) (z : Value) (size bytes : Nat) (ht : P.underlying t = some (.slice e)) (hi : P.info? e = some i) (hz : i.zero = some z)
    (hsize : i.size = size) (hby : i.bytes = bytes) (hzs : z.cells.size = size) (hsz : 0 < size)
    (v : Value) (n : Nat) (xs : List Value) (hs : a.eval s = v) (hown : w.ownsRow base e size v n xs)
    (A : Option Addr) (m c : Nat) (news : List Value) (hx : a.eval x = .slice A m c) (hf : Feeds w size A m news) (h1 : ∀ u ∈ news, u.oneCell' = true)
    (h63 : n + m ≤ maxLen) (hbytes : (n + m) * bytes ≤ 140737488355328) (hbase : base ≤ w.heap.size)
    (h : ∀ v' w', w'.ownsRow base e size v' (n + m) (xs ++ news) → w.grownBy w' v.ownBlock → wpList P ops Q rest (a.put o.dst v') w') : wpList P ops Q (o :: rest) a w :=
  wpList_step fun K hK => by
    rw [if_pos hgd]
    exact wp_append_feeds s x t ho base e i z size bytes ht hi hz hsize hby hzs hsz v n xs hs hown A m c news hx hf h1 h63 hbytes hbase fun v' w' g1 g2 => hK _ _ (h v' w' g1 g2)
end
end Go.Proofs.YtigfcchblfnnbaaGreatDoor
