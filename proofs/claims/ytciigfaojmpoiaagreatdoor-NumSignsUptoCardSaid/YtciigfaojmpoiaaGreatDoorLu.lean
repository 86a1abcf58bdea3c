/- Those of the layer utf's contracts that this seat's dump has. -/
import Derived.Test.YtciigfaojmpoiaaGreatDoorChecked
import Derived.Test.YtciigfaojmpoiaaGreatDoorUtfPure
import Derived.Test.YtciigfaojmpoiaaGreatDoorUtX
import Derived.Test.YtciigfaojmpoiaaGreatDoorShelf
namespace Go.Proofs.YtciigfaojmpoiaaGreatDoor
open Go Go.RowKit
set_option linter.all false
theorem length_any (l : List UInt8) (w : World) (hs : l.length ≤ 9223372036854775807) :
    Calls Tryz.prog 59 #[.string ⟨l.toArray⟩] w fun e w' => e = .returned (.int .i64 (l.length / 2 : Nat)) ∧ w = w' := by
  go_enter Tryz.func59, Tryz.ntmps59
  go_wp2
  go_ret
  exact ⟨rfl, rfl⟩
theorem at_in (l : List UInt8) (i : Nat) (w : World) (hs : l.length ≤ 9223372036854775807) (h : i < l.length / 2) :
    Calls Tryz.prog 61 #[.string ⟨l.toArray⟩, .int .i64 i] w fun e w' => e = .returned (.tuple #[.int .i64 (at16 l i), .bool true]) ∧ Pur w w' := by
  have b2 : 2 * (i : Int) + 1 < l.length := by omega
  have n0 : (i : Int) < (l.length : Int) / 2 := by omega
  have hw : IntKind.i64.wrap (2 * (i:Int)) = 2 * (i:Int) := IntWalk.i64_in _ (by omega)
  have hw1 : IntKind.i64.wrap (2 * (i:Int) + 1) = 2 * (i:Int) + 1 := IntWalk.i64_in _ (by omega)
  have l1 := by8_lt l (2*i)
  have l2 := by8_lt l (2*i+1)
  have H := Lib.hid (or_join 8 (by8 l (2*i) * 256) (by8 l (2*i+1)) (by omega) (by omega) (by omega) (by omega))
  go_enter Tryz.func61, Tryz.ntmps61
  go_wp2
  go_quiet (fail)
  go_wp2
  go_ret2
  refine ⟨?_, (Pur.refl w).drewN nq⟩
  show Ending.returned (Value.tuple #[.int .i64 (bits BinOp.or IntKind.i64 (((by8 l (2*i) : Nat) : Int) * 256) ((by8 l (2*i+1) : Nat) : Int)), .bool true]) = _
  have h' := H.out
  rw [Int.natCast_mul] at h'
  rw [show ((256 : Nat) : Int) = 256 from rfl] at h'
  rw [h']
  rfl
theorem at_out (l : List UInt8) (i : Int) (w : World) (hs : l.length ≤ 9223372036854775807) (h : i < 0 ∨ (l.length / 2 : Nat) ≤ i) :
    Calls Tryz.prog 61 #[.string ⟨l.toArray⟩, .int .i64 i] w fun e w' => e = .returned (.tuple #[.int .i64 0, .bool false]) ∧ Pur w w' := by
  by_cases h0 : i < 0
  · go_enter Tryz.func61, Tryz.ntmps61
    go_wp2
    go_ret2
    exact ⟨rfl, Pur.refl w⟩
  · have h1 : (l.length / 2 : Nat) ≤ i := by omega
    clear h
    go_enter Tryz.func61, Tryz.ntmps61
    go_wp2
    go_ret2
    exact ⟨rfl, Pur.refl w⟩
theorem runit_any (u : Int) (w : World) (h0 : 0 ≤ u) (hu : u < 65536) :
    Calls Tryz.prog 40 #[.int .i64 u] w fun e w' => e = .returned (.string ⟨(unit8 u.toNat).toArray⟩) ∧ Pur w w' := by
  obtain ⟨u, rfl⟩ := Int.eq_ofNat_of_zero_le h0
  rw [Int.toNat_natCast]
  go_enter Tryz.func40, Tryz.ntmps40
  go_wp2
  go_ret
  refine ⟨?_, (Pur.refl w).alloc _⟩
  show Ending.returned (Value.string ⟨[B8 ((u : Int) / 256), B8 ((u : Int) % 256)].toArray⟩) = _
  rfl
theorem by8_ge (l : List UInt8) (i : Nat) (h : l.length ≤ i) : by8 l i = 0 := by
  unfold by8; rw [List.getD_eq_getElem?_getD, List.getElem?_eq_none (by omega)]; rfl
theorem chrN_bd (l : List UInt8) (i n c low : Nat) : (chrN l i n c low).1 ≤ 1114111 ∧ (chrN l i n c low).2 ≤ n := by
  unfold chrN
  split
  · rename_i h; exact ⟨h.2.2.2.1, Nat.le_refl _⟩
  · exact ⟨Nat.zero_le _, Nat.zero_le _⟩
theorem chr_bd (l : List UInt8) (i : Nat) : (chr l i).1 ≤ 1114111 ∧ (chr l i).2 ≤ 4 := by
  have := by8_lt l i
  unfold chr
  split
  · simp
  split
  · exact ⟨by simp only; omega, by simp⟩
  split
  · have := chrN_bd l i 2 (by8 l i - 192) 128; omega
  split
  · have := chrN_bd l i 3 (by8 l i - 224) 2048; omega
  split
  · have := chrN_bd l i 4 (by8 l i - 240) 65536; omega
  · simp
theorem decode_pos (s : ByteArray) (i : Nat) : 1 ≤ (Utf8.decode s i).2 := by
  unfold Utf8.decode
  simp only
  repeat' split
  all_goals simp
theorem chrN_succ (l : List UInt8) (i m c low : Nat) : chrN l i (m + 1) c low = if i + (m + 1) ≤ l.length ∧ contB l i m = true ∧ low ≤ valB l i c m ∧ valB l i c m ≤ 1114111 ∧ ¬ (55296 ≤ valB l i c m ∧ valB l i c m < 57344) then (valB l i c m, m + 1) else (0, 0) := rfl
theorem contB_le (l : List UInt8) (i : Nat) {a b : Nat} (h : a ≤ b) (hb : contB l i b = true) : contB l i a = true := by
  induction b with
  | zero => obtain rfl : a = 0 := by omega
            exact hb
  | succ b ih =>
    by_cases he : a = b + 1
    · subst he; exact hb
    · have hb' : (contB l i b && (decide (128 ≤ by8 l (i + b + 1)) && decide (by8 l (i + b + 1) < 192))) = true := hb
      rw [Bool.and_eq_true] at hb'
      exact ih (by omega) hb'.1
theorem valB_le (l : List UInt8) (i c m : Nat) (hc : c < 32) (hm : m ≤ 3) (h : contB l i m = true) : valB l i c m < 8388608 := by
  have h1 := valB_lt l i c hc m h
  have h2 : 64 ^ m ≤ 64 ^ 3 := Nat.pow_le_pow_right (by decide) hm
  omega
/-- bytes as they lie in a row -/
def bv (l : List UInt8) : List Value := l.map fun b => Value.int .u8 (b.toNat : Int)
theorem bv_append (a b : List UInt8) : bv (a ++ b) = bv a ++ bv b := List.map_append
theorem infoU8 : (Tryz.prog.info? 5).map (fun i => (i.zero, i.size, i.bytes)) = some (some (.int .u8 0), 1, 1) := by kernel_rfl
theorem bv_unit8 (u : Nat) (hu : u < 65536) : bv (unit8 u) = [.int .u8 ((u : Int) / 256), .int .u8 ((u : Int) % 256)] := by
  have h1 : (UInt8.ofNat (u / 256)).toNat = u / 256 := by rw [UInt8.toNat_ofNat']; omega
  have h2 : (UInt8.ofNat (u % 256)).toNat = u % 256 := by rw [UInt8.toNat_ofNat']; omega
  simp only [bv, unit8, List.map_cons, List.map_nil, h1, h2]
  rfl
theorem Pur.trans' {a b c : World} (h : Pur a b) (k : Below a.heap.size b c) : Pur a c := Below.trans h k
theorem ownsRow_pur {w w' : World} {base : Nat} {e : TypeId} {size : Nat} {v : Value} {n : Nat} {xs : List Value} (h : w.ownsRow base e size v n xs) (hp : Pur w w') : w'.ownsRow base e size v n xs :=
  h.kept (row := none) ⟨hp.os, hp.tape, hp.output, hp.size, fun k hk _ => hp.block k hk⟩ (by cases v.ownBlock <;> simp)
theorem run_str_of_own {P : Program} (w : World) (src dst e : TypeId) (B : Nat) (v : Value) (n : Nat) (l : List UInt8) (hn : l.length = n) (hs : P.underlying src = some (.slice e)) (he : P.underlying e = some (.int .u8)) (hd : P.underlying dst = some .string)
    (h : w.ownsRow B e 1 v n (bv l)) : (convert src dst v).run P w = .ok (.string ⟨l.toArray⟩) w := by
  subst hn
  obtain ⟨h1, h2⟩ := id h
  rcases h2 with ⟨rfl, h0⟩ | ⟨g, cap, cur, rfl, _⟩
  · obtain rfl : l = [] := List.length_eq_zero_iff.1 h0
    rw [run_convert_bytes_string w src dst e _ _ _ hs he hd]
    simp [Conv.bytesToString]
    rfl
  · have hm : (l.map fun b => ((b.toNat : Nat) : Int)).map B8 = l := by
      rw [List.map_map]
      conv => rhs; rw [← List.map_id l]
      exact List.map_congr_left fun b _ => B8_toNat b
    rw [run_str_of_cells w src dst e ⟨g, 0, none⟩ _ cap (l.map fun b => ((b.toNat : Nat) : Int)) (by simp) hs he hd fun j hj => ?_, hm]
    have ha : (Addr.mk g 0 none).add j = ⟨g, j, none⟩ := by unfold Addr.add; split <;> simp_all
    rw [ha, h.cellAt j (by omega)]
    simp [bv, hj]
end Go.Proofs.YtciigfaojmpoiaaGreatDoor
