/- Layer 8: (*Heap).Own, whole. -/
import Derived.Test.YtfophnmnehpenaaDoorHm13
namespace Go.Proofs.YtfophnmnehpenaaDoor
open Go Go.RowKit
set_option linter.all false
theorem own_any (s : Hs) (i : Int) (key : List UInt8) (w : World) (h : HpAt w s) {G : Nat} (hok : s.d.Ok G) (hkl : key.length ≤ 1000000) :
    Calls Tryd.prog 20 #[.pointer (some ⟨s.h, 0, none⟩), .int .i64 i, .string ⟨key.toArray⟩] w fun e w' => e = .returned (.tuple #[(s.d.own i key).1.v, .bool (s.d.own i key).2]) ∧ Pur w w' := by
  unfold Hd.own
  rcases hx : s.d.obj i with _ | x
  · exact own_none s i key w h hx
  · have hb := hok.mem (Hd.obj_mem hx).1
    show Calls _ _ _ _ fun e w' => e = .returned (.tuple #[(x.own key).1.v, .bool (x.own key).2]) ∧ Pur w w'
    unfold Ob.own
    by_cases hk : x.kind = 2
    · by_cases hl : key = lenKey
      · rw [if_pos ⟨hk, hl⟩]
        subst hl
        exact own_len s i x w h hx hk hb.2
      · rw [if_neg (fun e => hl e.2), if_pos hk]
        rcases hi : index key with _ | n
        · exact own_arr s i x key w h hx hk hkl hl hi
        · by_cases hn : n < x.items.length
          · have := own_item s i x key n w h hx hk hkl hl hi _ (List.getElem?_eq_getElem hn)
            simp only [List.getElem?_eq_getElem hn, Option.getD_some, decide_eq_true hn]
            exact this
          · have := own_out s i x key n w h hx hk hkl hl hi (by omega)
            simp only [List.getElem?_eq_none (Nat.le_of_not_lt hn), Option.getD_none, decide_eq_false hn]
            exact this
    · rw [if_neg (fun e => hk e.1), if_neg hk]
      exact own_prop s i x key w h hx hk hkl
theorem own_pur (s : Hs) (i : Int) (key : List UInt8) (w : World) (h : HpAt w s) {G : Nat} (hok : s.d.Ok G) (hkl : key.length ≤ 1000000) {R : Va × Bool} (hR : s.d.own i key = R) :
    Calls Tryd.prog 20 #[.pointer (some ⟨s.h, 0, none⟩), .int .i64 i, .string ⟨key.toArray⟩] w fun e w' => e = .returned (.tuple #[R.1.v, .bool R.2]) ∧ Pur w w' := hR ▸ own_any s i key w h hok hkl
end Go.Proofs.YtfophnmnehpenaaDoor
