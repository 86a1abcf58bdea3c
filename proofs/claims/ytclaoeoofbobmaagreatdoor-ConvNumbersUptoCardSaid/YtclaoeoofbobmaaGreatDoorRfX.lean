/- The library's rounding of a number written by sixteens. ParseFloat at a number written by sixteens (small and whole). -/
import Derived.Test.YtclaoeoofbobmaaGreatDoorRf1
import Derived.Test.YtclaoeoofbobmaaGreatDoorTbE
import Derived.Laws.ShiftsVarLaws
import Derived.LaidEqlPtr
import Derived.Test.YtclaoeoofbobmaaGreatDoorRf2
namespace Go.Proofs.YtclaoeoofbobmaaGreatDoor
open Go Go.RowKit
set_option linter.all false
namespace Rf
def up : Nat → Nat → Int → Nat × Int
  | 0, m, e => (m, e)
  | f + 1, m, e => if m ≠ 0 ∧ m / 18014398509481984 = 0 then up f (m * 2) (e - 1) else (m, e)
def dn : Nat → Nat → Int → Nat × Int
  | 0, m, e => (m, e)
  | f + 1, m, e => if m / 36028797018963968 ≠ 0 then dn f (m / 2 ||| m % 2) (e + 1) else (m, e)
theorem up_bd : ∀ (f m : Nat) (e : Int), e - f ≤ (up f m e).2 ∧ (up f m e).2 ≤ e
  | 0, m, e => by simp [up]
  | f + 1, m, e => by
    rw [up]
    split
    · have := up_bd f (m * 2) (e - 1); omega
    · simp only; omega
def bigN : Nat := 36028797018963968
/-- the library's variable of 64 bit numbers -/
structure F64 (w : World) : Prop where
  c0 : w.cell? ⟨9, 0, none⟩ = some (.int .u64 52)
  c1 : w.cell? ⟨9, 1, none⟩ = some (.int .u64 11)
  c2 : w.cell? ⟨9, 2, none⟩ = some (.int .i64 (-1023))
  g64 : ∃ cs t, w.heap[9]? = some (.cells cs t (0, 0))
  g32 : ∃ cs t, w.heap[8]? = some (.cells cs t (0, 0))
theorem F64.pur {w w' : World} (h : F64 w) (hp : Pur w w') : F64 w' := by
  have k : ∀ {a : Addr} {v : Value}, w.cell? a = some v → w'.cell? a = some v := fun h => (hp.cell (World.block_lt_of_cell? w _ h)).trans h
  obtain ⟨a, b, h1⟩ := h.g64
  obtain ⟨c, d, h2⟩ := h.g32
  exact ⟨k h.c0, k h.c1, k h.c2, ⟨a, b, bk_pur h1 hp⟩, ⟨c, d, bk_pur h2 hp⟩⟩
theorem fi_info : (Tryz.prog.info? 219).map (·.size) = some 3 := by kernel_rfl
set_option maxRecDepth 100000 in
set_option maxHeartbeats 32000000 in
theorem hex_any (s : List UInt8) (m : Nat) (p : Int) (w : World) (hF : F64 w) (hm : m < 18446744073709551616) (hp0 : 0 ≤ p) (hp : p ≤ 900) (hU4 : (up 64 m (p + 52)).1 % 4 = 0) (hU5 : 18014398509481984 ≤ (up 64 m (p + 52)).1) (hU6 : (up 64 m (p + 52)).1 < 36028797018963968) :
    Calls Tryz.prog 164 #[.string ⟨s.toArray⟩, .pointer (some ⟨9, 0, none⟩), .int .u64 (m : Int), .int .i64 p, .bool false, .bool false] w fun e w' => e = .returned (.tuple #[.float .f64 ((up 64 m (p + 52)).1 / 4 % 4503599627370496 + ((up 64 m (p + 52)).2 + 1025).toNat * 4503599627370496), .nilIface]) ∧ Pur w w' := by
  have c0 := fun x : PW w => (hF.pur x.pur).c0
  have c1 := fun x : PW w => (hF.pur x.pur).c1
  have c2 := fun x : PW w => (hF.pur x.pur).c2
  have h6 := @run_callFunc_extern Tryz.prog 172 _ Go.Extern.MathFloatBits.float64frombits Tryz.func172 (by kernel_rfl) (by kernel_rfl) (by kernel_rfl) (by kernel_rfl)
  have fb : ∀ (n : Int) (w : World), (Go.Extern.MathFloatBits.float64frombits #[.int .u64 n]).run Tryz.prog w = .ok (.float .f64 n.toNat) w := fun n w => rfl
  obtain ⟨jf, hfi, hfz⟩ := Option.map_eq_some_iff.1 fi_info
  clear hm
  obtain ⟨U, hU⟩ : ∃ U, up 64 m (p + 52) = U := ⟨_, rfl⟩
  have HU := Lib.hid (show U = up 64 m (p + 52) from hU.symm)
  have hUe := up_bd 64 m (p + 52)
  have HR := Lib.hid (show (up 64 m (p + 52)).1 / 4 % 4503599627370496 + ((up 64 m (p + 52)).2 + 1025).toNat * 4503599627370496 = U.1 / 4 % 4503599627370496 + (U.2 + 1025).toNat * 4503599627370496 by rw [hU])
  rw [hU] at hU4 hU5 hU6 hUe
  rw [HR.out]
  clear hU
  go_enter Tryz.func164, Tryz.ntmps164
  go_wp2
  refine wp_region_pur (by kernel_rfl) (by kernel_rfl) ?_
  repeat (go_big_quiet_step (fail))
  refine wpQuiet_nil ?_
  intro w1 h1
  have z0 := (hF.pur h1).c0
  have z1 := (hF.pur h1).c1
  have z2 := (hF.pur h1).c2
  clear c0 c1 c2
  have wp52 : IntKind.i64.wrap (p + 52) = p + 52 := IntWalk.i64_in _ (by omega)
  go_upto_block 0 with (fail)
  go_cut [2, 3] from 42 to 57 (fun a b wx => a = .int .u64 (U.1 : Int) ∧ b = .int .i64 U.2 ∧ w1 = wx)
  case first =>
    clear z1 z2 hU4 hU5 hU6 HR hUe
    have HM := Lib.hid (show m = 0 ∨ 18014398509481984 ≤ m * 2 ^ 64 by omega)
    go_wp2_with fail
    go_loopw [2, 3] (fun a b wr => ∃ (k f : Nat) (e : Int), a = .int .u64 (k : Int) ∧ b = .int .i64 e ∧ f ≤ 64 ∧ p + f - 12 ≤ e ∧ e ≤ p + 52 ∧ Hid (U = up f k e) ∧ Hid (k = 0 ∨ 18014398509481984 ≤ k * 2 ^ f) ∧ wr = w1) (fun a _ _ => bigN - (intOf a).toNat)
    case atStart => exact ⟨m, 64, p + 52, rfl, rfl, by omega, by omega, by omega, HU, HM, (by first | rfl | trivial)⟩
    case round =>
      obtain ⟨k, f, e, rfl, rfl, f1, e1, e2, H, HK, rfl⟩ := hrel
      clear HU HM
      by_cases hk : k = 0
      · have d1 : ((k : Int) != 0) = false := by rw [hk]; rfl
        have HN := Lib.hid (show U = (k, e) by
          rw [H.out]
          cases f with
          | zero => rfl
          | succ f => rw [up, if_neg (fun h => h.1 hk)])
        clear hk H HK
        go_wp2
        go_meet
        rw [HN.out]
        exact ⟨rfl, rfl, rfl⟩
      · have d1 : ((k : Int) != 0) = true := by rw [bne_iff_ne]; omega
        by_cases hq : k / 18014398509481984 = 0
        · obtain ⟨f, rfl⟩ : ∃ g, f = g + 1 := by
            cases f with
            | zero => rcases HK.out with h | h <;> omega
            | succ f => exact ⟨f, rfl⟩
          have d2 : ((k : Int) / 18014398509481984 == 0) = true := by rw [beq_iff_eq]; omega
          have w2 : IntKind.u64.wrap ((k : Int) * 2) = (k : Int) * 2 := IntWalk.u64_in _ (by omega)
          have w3 : IntKind.i64.wrap (e - 1) = e - 1 := IntWalk.i64_in _ (by omega)
          have HN := Lib.hid (show U = up f (k * 2) (e - 1) by rw [H.out, up, if_pos ⟨hk, hq⟩])
          have HK2 := Lib.hid (show k * 2 = 0 ∨ 18014398509481984 ≤ k * 2 * 2 ^ f by
            rcases HK.out with h | h
            · exact absurd h hk
            · right; rw [Nat.pow_succ] at h; rw [Nat.mul_assoc, Nat.mul_comm 2]; exact h)
          have hd := Lib.hid (show bigN - k * 2 < bigN - k by unfold bigN; omega)
          clear H HK hk hq
          go_wp2
          go_roundw
          case rel => exact ⟨k * 2, f, e - 1, by push_cast; rfl, rfl, by omega, by omega, by omega, HN, HK2, (by first | rfl | trivial)⟩
          case measure => exact hd.out
        · have d2 : ((k : Int) / 18014398509481984 == 0) = false := by rw [beq_eq_false_iff_ne]; omega
          have HN := Lib.hid (show U = (k, e) by
            rw [H.out]
            cases f with
            | zero => rfl
            | succ f => rw [up, if_neg (fun h => hq h.2)])
          clear hk H HK hq
          go_wp2
          go_meet
          rw [HN.out]
          exact ⟨rfl, rfl, rfl⟩
  case rest =>
    obtain ⟨rfl, rfl, rfl⟩ := hcut
    clear HU
    obtain ⟨hE1, hE2⟩ := hUe
    obtain ⟨k, hk⟩ : ∃ k, U.1 = k := ⟨_, rfl⟩
    obtain ⟨e, he⟩ : ∃ e, U.2 = e := ⟨_, rfl⟩
    rw [hk] at hU4 hU5 hU6 HR ⊢
    rw [he] at hE1 hE2 HR ⊢
    have HK := Lib.hid hk
    have HE := Lib.hid he
    clear hk he
    obtain ⟨Q, hQ⟩ : ∃ Q, k / 4 = Q := ⟨_, rfl⟩
    have hq4 : (k : Int) / 4 = (Q : Int) := by omega
    have hQ1 : 4503599627370496 ≤ Q := by omega
    have hQ2 : Q < 9007199254740992 := by omega
    have d1 : ((k : Int) / 36028797018963968 != 0) = false := by rw [bne_eq_false_iff_eq]; omega
    have d2 : decide (e < -1024) = false := by rw [decide_eq_false_iff_not]; omega
    have d2' : decide ((1 : Int) < (k : Int)) = true := by rw [decide_eq_true_eq]; omega
    have b1 : bits .and .u64 (k : Int) 3 = 0 := by
      have := u64_and_nat k 3 (by omega) (by decide)
      rw [show ((3 : Nat) : Int) = 3 from rfl] at this
      rw [this, show (k &&& 3) = k % 4 from Nat.and_two_pow_sub_one_eq_mod k 2, hU4]
      rfl
    obtain ⟨x, hx⟩ : ∃ x, Q % 2 = x := ⟨_, rfl⟩
    have b2 : bits .and .u64 (Q : Int) 1 = (x : Int) := by
      have := u64_and_nat Q 1 (by omega) (by decide)
      rw [show ((1 : Nat) : Int) = 1 from rfl] at this
      rw [this, show (Q &&& 1) = Q % 2 from Nat.and_two_pow_sub_one_eq_mod Q 1, hx]
    have b3 : bits .or .u64 0 (x : Int) = (x : Int) := by
      have := u64_or_nat 0 x (by decide) (by omega)
      rw [show ((0 : Nat) : Int) = 0 from rfl] at this
      rw [this, Nat.zero_or]
    have d3 : ((x : Int) == 3) = false := by rw [beq_eq_false_iff_ne]; omega
    have d4 : ((Q : Int) / 4503599627370496 == 0) = false := by rw [beq_eq_false_iff_ne]; omega
    have w4 : IntKind.i64.wrap (e + 2) = e + 2 := IntWalk.i64_in _ (by omega)
    have d5 : decide ((1023 : Int) < e + 2) = false := by rw [decide_eq_false_iff_not]; omega
    obtain ⟨y, hy⟩ : ∃ y, Q % 4503599627370496 = y := ⟨_, rfl⟩
    have b4 : bits .and .u64 (Q : Int) 4503599627370495 = (y : Int) := by
      have := u64_and_nat Q 4503599627370495 (by omega) (by decide)
      rw [show ((4503599627370495 : Nat) : Int) = 4503599627370495 from rfl] at this
      rw [this, show (Q &&& 4503599627370495) = Q % 4503599627370496 from Nat.and_two_pow_sub_one_eq_mod Q 52, hy]
    have w6 : IntKind.i64.wrap (e + 2 + 1023) = e + 2 + 1023 := IntWalk.i64_in _ (by omega)
    obtain ⟨z, hz⟩ := Int.eq_ofNat_of_zero_le (show 0 ≤ e + 1025 by omega)
    have hz2 : z < 2047 := by omega
    have hzz : e + 2 + 1023 = (z : Int) := by omega
    have w7 : IntKind.i64.wrap (e + 2 + 1023) = (z : Int) := by rw [w6, hzz]
    have b5 : bits .and .i64 (z : Int) 2047 = (z : Int) := by
      have := bits_mask .i64 63 (by decide) wraps_i64 11 (by decide) (z : Int) (by omega) (by omega)
      rw [show ((2 : Int) ^ 11 - 1) = 2047 from rfl] at this
      rw [this]; omega
    have w8 : IntKind.u64.wrap ((z : Int) * 4503599627370496) = (z : Int) * 4503599627370496 := IntWalk.u64_in _ (by omega)
    have hy2 : y < 4503599627370496 := by rw [← hy]; exact Nat.mod_lt _ (by decide)
    have b6 : bits .or .u64 (y : Int) ((z : Int) * 4503599627370496) = ((y + z * 4503599627370496 : Nat) : Int) := by
      have := u64_or_nat y (z * 4503599627370496) (by omega) (by omega)
      rw [show (((z * 4503599627370496 : Nat)) : Int) = (z : Int) * 4503599627370496 from Int.natCast_mul z 4503599627370496] at this
      rw [this, Nat.or_comm, show z * 4503599627370496 = z <<< 52 by rw [Nat.shiftLeft_eq], ← Nat.shiftLeft_add_eq_or_of_lt (by omega), Nat.add_comm]
    have HZ := Lib.hid hzz
    clear hzz w6 hy2
    have HQ := Lib.hid hQ
    have HY := Lib.hid hy
    clear hQ hx hU4 hU5 hU6 hy
    have W1 := Lib.hid h1
    go_wp2
    go_loopw [2, 3] (fun a b wr => a = .int .u64 (k : Int) ∧ b = .int .i64 e ∧ Hid (wr = w1)) (fun _ _ _ => 0)
    case atStart => exact ⟨rfl, rfl, Lib.hid rfl⟩
    case round =>
      obtain ⟨rfl, rfl, hw⟩ := hrel
      have hw := hw.out
      subst hw
      go_wp2
      go_loopw [2, 3] (fun a b wr2 => a = .int .u64 (k : Int) ∧ b = .int .i64 e ∧ Hid (wr2 = wr)) (fun _ _ _ => 0)
      case atStart => exact ⟨rfl, rfl, Lib.hid rfl⟩
      case round =>
        obtain ⟨rfl, rfl, hw⟩ := hrel
        have hw := hw.out
        subst hw
        go_wp2
        have c0 := fun x : PW wr => (hF.pur (W1.out.trans x.pur)).c0
        have c1 := fun x : PW wr => (hF.pur (W1.out.trans x.pur)).c1
        have c2 := fun x : PW wr => (hF.pur (W1.out.trans x.pur)).c2
        refine wp_region_pur (by kernel_rfl) (by kernel_rfl) ?_
        repeat (go_big_quiet_step (fail))
        refine wpQuiet_nil ?_
        intro w3 h3
        have hF3 := hF.pur (W1.out.trans h3)
        obtain ⟨ca, ta, hca⟩ := hF3.g64
        obtain ⟨cb, tb, hcb⟩ := hF3.g32
        have PE : (binOp BinOp.eql 217 (.pointer (some ⟨9, 0, none⟩)) (.pointer (some ⟨8, 0, none⟩))).run Tryz.prog w3 = .ok (.bool false) w3 :=
          run_eql_ptr_other w3 Tryz.underlying217 hfi (by rw [hfz]; decide) (by decide) hca hcb
        clear hca hcb
        go_wp2
        go_ret2
        refine ⟨?_, W1.out.trans h3⟩
        show Ending.returned (.tuple #[.float .f64 (y + z * 4503599627370496), .nilIface]) = _
        rw [HK.out, HE.out, HQ.out, HY.out, show (e + 1025).toNat = z by have := HZ.out; omega]
end Rf
end Go.Proofs.YtclaoeoofbobmaaGreatDoor
namespace Go.Proofs.YtclaoeoofbobmaaGreatDoor
open Go Go.RowKit
set_option linter.all false
namespace Rf
set_option maxRecDepth 100000 in
set_option maxHeartbeats 4000000 in
theorem special_no (l : List UInt8) (w : World) (h0 : 0 < l.length) (h1 : by8 l 0 ≠ 43) (h2 : by8 l 0 ≠ 45) (h3 : by8 l 0 ≠ 105) (h4 : by8 l 0 ≠ 73) (h5 : by8 l 0 ≠ 110) (h6 : by8 l 0 ≠ 78) :
    Calls Tryz.prog 162 #[.string ⟨l.toArray⟩] w fun e w' => e = .returned (.tuple #[.float .f64 0, .int .i64 0, .bool false]) ∧ w = w' := by
  have h0' : (0 : Int) < l.length := by omega
  have hne : ¬ l = [] := by intro e; rw [e] at h0; simp at h0
  have d1 : ((by8 l 0 : Int) == 43) = false := by rw [beq_eq_false_iff_ne]; omega
  have d2 : ((by8 l 0 : Int) == 45) = false := by rw [beq_eq_false_iff_ne]; omega
  have d3 : ((by8 l 0 : Int) == 105) = false := by rw [beq_eq_false_iff_ne]; omega
  have d4 : ((by8 l 0 : Int) == 73) = false := by rw [beq_eq_false_iff_ne]; omega
  have d5 : ((by8 l 0 : Int) == 110) = false := by rw [beq_eq_false_iff_ne]; omega
  have d6 : ((by8 l 0 : Int) == 78) = false := by rw [beq_eq_false_iff_ne]; omega
  clear h1 h2 h3 h4 h5 h6
  go_enter Tryz.func162, Tryz.ntmps162
  go_wp2
  go_ret3
  exact ⟨rfl, rfl⟩
/-- what readFloat says of a number written by sixteens -/
def RF (l : List UInt8) (m : Nat) (p : Int) : Prop :=
  ∀ w, Calls Tryz.prog 163 #[.string ⟨l.toArray⟩] w fun e w' => e = .returned (.tuple #[.int .u64 (m : Int), .int .i64 p, .bool false, .bool false, .bool true, .int .i64 (l.length : Int), .bool true]) ∧ w = w'
/-- the bits of m * 2^p -/
def bitsOf (m : Nat) (p : Int) : Nat := (up 64 m (p + 52)).1 / 4 % 4503599627370496 + ((up 64 m (p + 52)).2 + 1025).toNat * 4503599627370496
structure Small (m : Nat) (p : Int) : Prop where
  sm : m < 18446744073709551616
  q0 : 0 ≤ p
  q1 : p ≤ 900
  u4 : (up 64 m (p + 52)).1 % 4 = 0
  u5 : 18014398509481984 ≤ (up 64 m (p + 52)).1
  u6 : (up 64 m (p + 52)).1 < 36028797018963968
set_option maxRecDepth 100000 in
set_option maxHeartbeats 4000000 in
theorem atof_hex {l : List UInt8} {m : Nat} {p : Int} {w : World} (hR : RF l m p) (hF : F64 w) (hs : Small m p) (hl : l.length ≤ 1000000) (h0 : 0 < l.length) (h48 : by8 l 0 = 48) :
    Calls Tryz.prog 134 #[.string ⟨l.toArray⟩] w fun e w' => e = .returned (.tuple #[.float .f64 (bitsOf m p), .int .i64 (l.length : Int), .nilIface]) ∧ Pur w w' := by
  have SP := fun w => special_no l w h0 (by omega) (by omega) (by omega) (by omega) (by omega) (by omega)
  have HX := fun s w (h : F64 w) => hex_any s m p w h hs.sm hs.q0 hs.q1 hs.u4 hs.u5 hs.u6
  unfold RF at hR
  have HB := Lib.hid (show bitsOf m p = (up 64 m (p + 52)).1 / 4 % 4503599627370496 + ((up 64 m (p + 52)).2 + 1025).toNat * 4503599627370496 from rfl)
  generalize bitsOf m p = B at *
  have HX2 : ∀ s w, F64 w → Calls Tryz.prog 164 #[.string ⟨List.toArray s⟩, .pointer (some ⟨9, 0, none⟩), .int .u64 (m : Int), .int .i64 p, .bool false, .bool false] w fun e w' => e = .returned (.tuple #[.float .f64 B, .nilIface]) ∧ Pur w w' := fun s w h => by
    rw [HB.out]; exact HX s w h
  clear HX HB hs h48
  go_enter Tryz.func134, Tryz.ntmps134
  go_wp2_with fail
  refine (SP _).mono ?_
  rintro e w1 ⟨rfl, rfl⟩
  go_wp2_with fail
  refine (hR _).mono ?_
  rintro e w1 ⟨rfl, rfl⟩
  go_wp2_with fail
  refine (HX2 _ _ hF).mono ?_
  rintro e w1 ⟨rfl, p1⟩
  go_wp2
  go_ret3
  exact ⟨rfl, p1⟩
set_option maxRecDepth 100000 in
set_option maxHeartbeats 4000000 in
theorem parse_hex {l : List UInt8} {m : Nat} {p : Int} {w : World} (hR : RF l m p) (hF : F64 w) (hs : Small m p) (hl : l.length ≤ 1000000) (h0 : 0 < l.length) (h48 : by8 l 0 = 48) :
    Calls Tryz.prog 63 #[.string ⟨l.toArray⟩, .int .i64 64] w fun e w' => e = .returned (.tuple #[.float .f64 (bitsOf m p), .nilIface]) ∧ Pur w w' := by
  have A1 := atof_hex hR hF hs hl h0 h48
  have P1 : Calls Tryz.prog 110 #[.string ⟨l.toArray⟩, .int .i64 64] w fun e w' => e = .returned (.tuple #[.float .f64 (bitsOf m p), .int .i64 (l.length : Int), .nilIface]) ∧ Pur w w' := by
    clear hR hF hs h48
    generalize bitsOf m p = B at *
    go_enter Tryz.func110, Tryz.ntmps110
    go_wp2_with fail
    refine A1.mono ?_
    rintro e w1 ⟨rfl, p1⟩
    go_wp2
    go_ret3
    exact ⟨rfl, p1⟩
  have I1 : Calls Tryz.prog 90 #[.string ⟨l.toArray⟩, .int .i64 64] w fun e w' => e = .returned (.tuple #[.float .f64 (bitsOf m p), .nilIface]) ∧ Pur w w' := by
    clear hR hF hs h48 A1
    generalize bitsOf m p = B at *
    go_enter Tryz.func90, Tryz.ntmps90
    go_wp2_with fail
    refine P1.mono ?_
    rintro e w1 ⟨rfl, p1⟩
    go_wp2
    go_ret2
    exact ⟨rfl, p1⟩
  clear hR hF hs h48 A1 P1
  generalize bitsOf m p = B at *
  go_enter Tryz.func63, Tryz.ntmps63
  go_wp2_with fail
  refine I1.mono ?_
  rintro e w1 ⟨rfl, p1⟩
  go_wp2
  go_ret2
  exact ⟨rfl, p1⟩
/-- "0x1Fp0" -/
def l1F : List UInt8 := [48, 120, 49, 70, 112, 48]
theorem by1F : ∀ i, by8 l1F i ≠ 95 := by
  intro i
  rcases Nat.lt_or_ge i 6 with h | h
  · revert i; decide
  · have e : by8 l1F i = 0 := by
      unfold by8
      rw [List.getD_eq_getElem?_getD, List.getElem?_eq_none (show l1F.length ≤ i from h)]
      rfl
    rw [e]
    decide
theorem rf_1F : RF l1F 31 0 := by
  intro w
  have h := readFloat_hex l1F w (by decide) (by decide) by1F ?_ (by decide)
  · refine h.mono ?_
    rintro e w' h
    unfold RfPost at h
    exact h
  · unfold Whole
    refine ⟨by decide, .inr ⟨by decide, by decide, by decide, ?_⟩⟩
    intro k h1 h2
    have : k = 5 := by
      have a : exAt l1F (digs l1F (hexAt l1F (sgn l1F)) (from0 l1F)).i = 5 := by decide
      have b : l1F.length = 6 := rfl
      omega
    subst this
    decide
theorem small_1F : Small 31 0 := ⟨by decide, by decide, by decide, by decide, by decide, by decide⟩
theorem bits_1F : bitsOf 31 0 = 4629418941960159232 := by decide
end Rf
end Go.Proofs.YtclaoeoofbobmaaGreatDoor
