/- Layer 8: (*Heap).Plain. -/
import Derived.Test.YtfophnmnehpenaaDoorHm4
import Derived.Test.YtfophnmnehpenaaDoorHmPure
namespace Go.Proofs.YtfophnmnehpenaaDoor
open Go Go.RowKit
set_option linter.all false
theorem at_none {w : World} {s : Hs} (h : HpAt w s) (i : Int) : s.at i = none ↔ s.d.obj i = none := by
  unfold Hs.at Hd.obj Hs.d
  by_cases h1 : i < 0
  · simp [h1]
  · by_cases h2 : (s.ps.length : Int) ≤ i
    · have : s.xs.length ≤ i.toNat := by rw [h.len]; omega
      simp [h1, h2, List.getElem?_eq_none this]
    · have h3 : i.toNat < s.ps.length := by omega
      have h4 : i.toNat < s.xs.length := by rw [h.len]; exact h3
      simp [h1, h2, List.getElem?_eq_getElem h3, List.getElem?_eq_getElem h4]
/-- a call that turns nothing old -/
theorem Step.pur {w w' : World} {s : Hs} (h : Pur w w') : Step w s w' s :=
  ⟨⟨h.os, h.tape, h.output, h.size, fun k hk _ => h.block k hk⟩, rfl, fun _ hb => .inl hb⟩
/-- add, behind a new object -/
theorem add_new (s : Hs) (x : Ob) (kv iv mv : Value) (c : Int) (w w1 : World) (o : Nat) (hp : Pur w w1) (hlo : w.heap.size ≤ o) (h : HpAt w s)
    (ho : w1.heap[o]? = some (.cells #[.int .i64 x.kind, .int .i64 x.proto, .int .i64 x.a, .int .i64 x.b, .int .i64 x.scope, kv, mv, iv] 78 (0, 0)))
    (hk : x.keys = []) (hkv : kv = .slice none 0 0) (hpp : x.props = fun _ => none)
    (hiv : w1.ownsRow w.heap.size 33 4 iv x.items.length (x.items.flatMap Va.cells)) (hiv1 : iv.ownBlock ≠ some o) (hc : 0 ≤ c) {G : Nat} (hok : s.d.Ok G) :
    Calls Tryd.prog 38 #[.pointer (some ⟨s.h, 0, none⟩), .pointer (some ⟨o, 0, none⟩), .int .i64 c] w1 fun e w' =>
      e = .returned (.tuple #[.int .i64 (s.d.add x c).1.1, .int .i64 (s.d.add x c).1.2]) ∧ ∃ s', HpAt w' s' ∧ Step w s w' s' ∧ s'.d = (s.d.add x c).2 := by
  have hb := hok.bounds
  have hl := h.len
  simp only [Hs.d] at hb
  have hos : ∀ b, w.heap.size ≤ b → b ∉ s.blocks := fun b hb hm => by have := h.lt b hm; omega
  have hiv0 : w1.ownsRow 0 33 4 iv x.items.length (x.items.flatMap Va.cells) := by
    refine ⟨hiv.1, ?_⟩
    rcases hiv.2 with h2 | ⟨g, cap, cur, rfl, h1, h2, h3⟩
    · exact .inl h2
    · exact .inr ⟨g, cap, cur, rfl, Nat.zero_le _, h2, h3⟩
  refine (add_any s o x kv iv mv c w1 (h.pur hp) ho (hos o hlo) hk hkv hpp hiv0 hiv1 (fun b hb => hos b (hiv.lt b hb).1) hc hb.1 hb.2.1 (by omega)).mono ?_
  rintro e w' (⟨h1, rfl, rfl⟩ | ⟨h1, rfl, v', h2, h3, h4⟩)
  · have e1 : s.d.add x c = ((0, 112), s.d) := by unfold Hd.add; rw [if_pos (by simpa [Hs.d] using h1)]
    rw [e1]
    exact ⟨rfl, s, h.pur hp, Step.pur hp, rfl⟩
  · have e1 : s.d.add x c = (((s.xs.length : Int), 0), ⟨s.left - c, s.xs ++ [x]⟩) := by unfold Hd.add; rw [if_neg (by simp only [Hs.d]; omega)]; rfl
    rw [e1]
    refine ⟨by rw [hl], _, h2, ⟨⟨h3.os.trans hp.os, h3.tape.trans hp.tape, h3.output.trans hp.output, Nat.le_trans hp.size h3.size, fun k hk hn => ?_⟩, rfl, fun b hb => ?_⟩, rfl⟩
    · refine (h3.block k (Nat.lt_of_lt_of_le hk hp.size) ?_).trans (hp.block k hk)
      simp only [List.mem_cons, not_or]
      exact ⟨by omega, hn⟩
    · have hsz := hp.size
      unfold Hs.blocks at hb
      simp only [Hs.push, List.flatMap_append, List.flatMap_cons, List.flatMap_nil, List.append_nil] at hb
      rcases List.mem_cons.1 hb with rfl | hb
      · exact .inl (by simp [Hs.blocks])
      rcases List.mem_append.1 hb with hb | hb
      · rcases h4 with e | e
        · rw [e] at hb; exact .inl (by unfold Hs.blocks; exact List.mem_cons_of_mem _ (List.mem_append_left _ hb))
        · rw [e] at hb; simp at hb; exact .inr (by omega)
      rcases List.mem_append.1 hb with hb | hb
      · exact .inl (by unfold Hs.blocks; exact List.mem_cons_of_mem _ (List.mem_append_right _ hb))
      · unfold Pl.blocks at hb
        rcases List.mem_cons.1 hb with rfl | hb
        · exact .inr hlo
        rcases List.mem_cons.1 hb with rfl | hb
        · exact .inr hsz
        rw [hkv] at hb
        have hb' : iv.ownBlock = some b := by simpa [show (Value.slice none 0 0).ownBlock = none from rfl] using hb
        exact .inr (hiv.lt b hb').1
set_option maxRecDepth 100000 in
set_option maxHeartbeats 2000000 in
theorem plain_any (s : Hs) (p : Int) (w : World) (h : HpAt w s) {G : Nat} (hok : s.d.Ok G) :
    Calls Tryd.prog 21 #[.pointer (some ⟨s.h, 0, none⟩), .int .i64 p] w fun e w' =>
      e = .returned (.tuple #[.int .i64 (s.d.plain p).1.1, .int .i64 (s.d.plain p).1.2]) ∧ ∃ s', HpAt w' s' ∧ Step w s w' s' ∧ s'.d = (s.d.plain p).2 := by
  have AT := at_any s p w h
  have AD := add_new s (Ob.fresh 1 p 0 0 0 []) (.slice none 0 0) (.slice none 0 0) (.map none) 1 w (w.alloc (.cells #[.int .i64 1, .int .i64 p, .int .i64 0, .int .i64 0, .int .i64 0, .slice none 0 0, .map none, .slice none 0 0] 78)) w.heap.size ((Pur.refl w).alloc _) (Nat.le_refl _) h (bk_new _ _) rfl rfl rfl (World.ownsRow_nil _ _ _ _) (by simp [Value.ownBlock]) (by decide) hok
  have hat := at_none h p
  unfold Hd.plain
  by_cases h1 : p = -1
  · subst h1
    rw [if_neg (fun hc => hc.1 rfl)]
    generalize s.d.add _ _ = R at *
    clear h hat hok
    go_enter Tryd.func21, Tryd.ntmps21
    go_wp2_with fail
    refine AD.mono ?_
    rintro e w' ⟨rfl, hw⟩
    go_wp2
    go_ret2
    exact ⟨rfl, hw⟩
  · by_cases h2 : s.d.obj p = none
    · rw [if_pos ⟨h1, h2⟩]
      rw [hat.2 h2] at AT
      have hfin : ∃ s', HpAt w s' ∧ Step w s w s' ∧ s'.d = s.d := ⟨s, h, Step.refl w s, rfl⟩
      clear h hat hok AD
      go_enter Tryd.func21, Tryd.ntmps21
      go_wp2_with fail
      refine AT.mono ?_
      rintro e w' ⟨rfl, rfl⟩
      go_wp2
      go_ret2
      exact ⟨rfl, hfin⟩
    · rw [if_neg (fun hc => h2 hc.2)]
      obtain ⟨ad, had⟩ : ∃ ad, s.at p = some ad := Option.ne_none_iff_exists'.1 (fun e => h2 (hat.1 e))
      rw [had] at AT
      generalize s.d.add _ _ = R at *
      clear h hat hok
      go_enter Tryd.func21, Tryd.ntmps21
      go_wp2_with fail
      refine AT.mono ?_
      rintro e w' ⟨rfl, rfl⟩
      go_wp2_with fail
      refine AD.mono ?_
      rintro e w' ⟨rfl, hw⟩
      go_wp2
      go_ret2
      exact ⟨rfl, hw⟩
end Go.Proofs.YtfophnmnehpenaaDoor
