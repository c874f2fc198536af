/-
  LEB128 numbers, written.
-/
import Derived.Test.YtbbpeggljhkjhaaByt
import Derived.Laws.BitsAllLaws
namespace Go.Proofs.Ytbbpeggljhkjhaa
open Go.RowKit Go.Fd

def leb : Nat → Nat → List UInt8
  | 0, n => [UInt8.ofNat n]
  | k + 1, n => if n < 128 then [UInt8.ofNat n] else UInt8.ofNat (n % 128 + 128) :: leb k (n / 128)

theorem leb_small (k n : Nat) (h : n < 128) : leb k n = [UInt8.ofNat n] := by
  cases k with
  | zero => rfl
  | succ k => rw [leb, if_pos h]
theorem leb_big (k n : Nat) (h : ¬ n < 128) : leb (k + 1) n = UInt8.ofNat (n % 128 + 128) :: leb k (n / 128) := by rw [leb, if_neg h]

theorem or128 (x : Nat) (h : x < 256) : x ||| 128 = x % 128 + 128 := by
  have : ∀ x : Fin 256, x.val ||| 128 = x.val % 128 + 128 := by decide +kernel
  exact this ⟨x, h⟩

theorem bits_or128 (x : Nat) : bits .or .u8 ((x : Int) % 256) 128 = ((x % 128 + 128 : Nat) : Int) := by
  rw [show (x : Int) % 256 = ((x % 256 : Nat) : Int) by omega, show (128 : Int) = ((128 : Nat) : Int) from rfl, u8_or_nat _ _ (by omega) (by omega), or128 _ (by omega)]
  congr 1; omega

theorem refLeb_any (n : Nat) (w : World) (hn : n < 18446744073709551616) :
    Calls Try.prog 13 #[.int .u64 n] w fun e w' => ∃ v, e = .returned v ∧ OB w' w.heap.size v (leb 9 n) ∧ Below w.heap.size w w' := by
  go_enter Try.func13, Try.ntmps13
  go_wp2
  go_loopw [0, 3] (fun m v wr => ∃ (k j : Nat) (pre : List UInt8), m = .int .u64 k ∧ pre ++ leb j k = leb 9 n ∧ k < 128 ^ (j + 1) ∧ k < 18446744073709551616 ∧ pre.length + j = 9 ∧ OB wr w.heap.size v pre ∧ Below w.heap.size w wr) (fun m _ _ => (intOf m).toNat)
  case atStart => exact ⟨n, 9, [], rfl, rfl, Nat.lt_trans hn (by decide), hn, rfl, OB.nil _ _, Below.refl _ _⟩
  case round =>
    obtain ⟨k, j, pre, rfl, hp, hk, hk2, hj, hown, hb⟩ := hrel
    have HP := Lib.hid hp
    have HJ := Lib.hid hj
    have hj' : pre.length ≤ 9 := by omega
    clear hp hj
    by_cases h : k < 128
    · have HS := Lib.hid (leb_small j k h)
      go_wp2_with (at_builtin; refine wpList_pushB hown rfl rfl (UInt8.ofNat k) (by rw [u8_of]; omega) (by omega) hb.size ?_; intro v1 w1 hown1 _ hb1)
      go_ret
      exact ⟨_, rfl, by rw [← HP.out, HS.out]; exact hown1, hb.trans hb1⟩
    · obtain ⟨j, rfl⟩ : ∃ i, j = i + 1 := by
        cases j with
        | zero => exact absurd hk (by omega)
        | succ j => exact ⟨j, rfl⟩
      have HS := Lib.hid (leb_big j k h)
      have HK := Lib.hid hk
      clear hk
      go_wp2_with (at_builtin; refine wpList_pushB hown rfl rfl (UInt8.ofNat (k % 128 + 128)) (by rw [u8_of]; omega) (by omega) hb.size ?_; intro v1 w1 hown1 _ hb1)
      go_roundw
      case rel => exact ⟨k / 128, j, pre ++ [UInt8.ofNat (k % 128 + 128)], by go_num, by rw [← HP.out, HS.out]; simp, by have := HK.out; rw [Nat.pow_succ] at this; omega, by omega, by have := HJ.out; simp; omega, hown1, hb.trans hb1⟩
      case measure => simp [intOf] <;> omega

set_option maxRecDepth 100000 in
theorem octLeb_any (n : Nat) (w : World) (hn : n < 18446744073709551616) :
    Calls Try.prog 11 #[.int .u64 n] w fun e w' => ∃ v, e = .returned v ∧ OB w' w.heap.size v (leb 9 n) ∧ Below w.heap.size w w' := by
  go_enter Try.func11, Try.ntmps11
  go_wp2
  go_loopw [0, 3] (fun m v wr => ∃ (k j : Nat) (pre : List UInt8), m = .int .u64 k ∧ pre ++ leb j k = leb 9 n ∧ k < 128 ^ (j + 1) ∧ k < 18446744073709551616 ∧ pre.length + j = 9 ∧ OB wr w.heap.size v pre ∧ Below w.heap.size w wr) (fun m _ _ => (intOf m).toNat)
  case atStart => exact ⟨n, 9, [], rfl, rfl, Nat.lt_trans hn (by decide), hn, rfl, OB.nil _ _, Below.refl _ _⟩
  case round =>
    obtain ⟨k, j, pre, rfl, hp, hk, hk2, hj, hown, hb⟩ := hrel
    have HP := Lib.hid hp
    have HJ := Lib.hid hj
    have hj' : pre.length ≤ 9 := by omega
    clear hp hj
    by_cases h : k < 128
    · have HS := Lib.hid (leb_small j k h)
      go_wp2_with (at_builtin; refine wpList_pushB hown rfl rfl (UInt8.ofNat k) (by rw [u8_of]; omega) (by omega) hb.size ?_; intro v1 w1 hown1 _ hb1)
      go_ret
      exact ⟨_, rfl, by rw [← HP.out, HS.out]; exact hown1, hb.trans hb1⟩
    · obtain ⟨j, rfl⟩ : ∃ i, j = i + 1 := by
        cases j with
        | zero => exact absurd hk (by omega)
        | succ j => exact ⟨j, rfl⟩
      have HS := Lib.hid (leb_big j k h)
      have HK := Lib.hid hk
      clear hk
      go_wp2_with (at_builtin; refine wpList_pushB hown rfl rfl (UInt8.ofNat (k % 128 + 128)) ((bits_or128 k).trans (by rw [u8_of]; omega)) (by omega) hb.size ?_; intro v1 w1 hown1 _ hb1)
      go_roundw
      case rel => exact ⟨k / 128, j, pre ++ [UInt8.ofNat (k % 128 + 128)], by go_num, by rw [← HP.out, HS.out]; simp, by have := HK.out; rw [Nat.pow_succ] at this; omega, by omega, by have := HJ.out; simp; omega, hown1, hb.trans hb1⟩
      case measure => simp [intOf] <;> omega

def sleb : Nat → Int → List UInt8
  | 0, n => [UInt8.ofNat (n % 128).toNat]
  | k + 1, n => if -64 ≤ n ∧ n ≤ 63 then [UInt8.ofNat (n % 128).toNat] else UInt8.ofNat ((n % 128).toNat + 128) :: sleb k (n / 128)

theorem sleb_small (k : Nat) (n : Int) (h : -64 ≤ n ∧ n ≤ 63) : sleb k n = [UInt8.ofNat (n % 128).toNat] := by
  cases k with
  | zero => rfl
  | succ k => rw [sleb, if_pos h]
theorem sleb_big (k : Nat) (n : Int) (h : ¬ (-64 ≤ n ∧ n ≤ 63)) : sleb (k + 1) n = UInt8.ofNat ((n % 128).toNat + 128) :: sleb k (n / 128) := by rw [sleb, if_neg h]

theorem wrap_mod128 (k : Int) : (IntKind.u64.wrap k).tmod 128 = k % 128 := by
  rw [IntKind.wrap_u64, Int.tmod_eq_emod_of_nonneg (by omega)]; omega
theorem sleb_byte (k : Int) : ((k % 128).toNat : Int) = ((UInt8.ofNat (k % 128).toNat).toNat : Int) := by rw [u8_of]; omega

set_option maxRecDepth 100000 in
theorem refSleb_any (n : Int) (w : World) (h1 : -9223372036854775808 ≤ n) (h2 : n < 9223372036854775808) :
    Calls Try.prog 14 #[.int .i64 n] w fun e w' => ∃ v, e = .returned v ∧ OB w' w.heap.size v (sleb 9 n) ∧ Below w.heap.size w w' := by
  go_enter Try.func14, Try.ntmps14
  go_wp2
  go_loopw [0, 3] (fun m v wr => ∃ (k : Int) (j : Nat) (pre : List UInt8), m = .int .i64 k ∧ pre ++ sleb j k = sleb 9 n ∧ -(64 * 128 ^ j : Nat) ≤ k ∧ k < (64 * 128 ^ j : Nat) ∧ -9223372036854775808 ≤ k ∧ k < 9223372036854775808 ∧ pre.length + j = 9 ∧ OB wr w.heap.size v pre ∧ Below w.heap.size w wr)
    (fun m _ _ => (intOf m).natAbs)
  case atStart => exact ⟨n, 9, [], rfl, rfl, by simp; omega, by simp; omega, h1, h2, rfl, OB.nil _ _, Below.refl _ _⟩
  case round =>
    obtain ⟨k, j, pre, rfl, hp, hk1, hk2, hk3, hk4, hj, hown, hb⟩ := hrel
    have HP := Lib.hid hp
    have HJ := Lib.hid hj
    have hj' : pre.length ≤ 9 := by omega
    clear hp hj
    by_cases h : -64 ≤ k ∧ k ≤ 63
    · have HS := Lib.hid (sleb_small j k h)
      obtain ⟨ha, hc⟩ := h
      clear hk1 hk2
      go_wp2_with (at_builtin; refine wpList_pushB hown rfl rfl (UInt8.ofNat (k % 128).toNat) (by (try rw [wrap_mod128]); rw [u8_of]; omega) (by omega) hb.size ?_; intro v1 w1 hown1 _ hb1)
      go_ret
      exact ⟨_, rfl, by rw [← HP.out, HS.out]; exact hown1, hb.trans hb1⟩
    · obtain ⟨j, rfl⟩ : ∃ i, j = i + 1 := by
        cases j with
        | zero => exact absurd hk1 (by omega)
        | succ j => exact ⟨j, rfl⟩
      have HS := Lib.hid (sleb_big j k h)
      have HK := Lib.hid (And.intro hk1 hk2)
      clear hk1 hk2
      have hx1 : 0 ≤ (IntKind.u64.wrap k).tmod 128 := by rw [wrap_mod128]; omega
      have hx2 : (IntKind.u64.wrap k).tmod 128 < 128 := by rw [wrap_mod128]; omega
      by_cases hneg : k < -64
      all_goals
        go_wp2_with (at_builtin; go_must (refine wpList_pushB hown rfl rfl (UInt8.ofNat ((k % 128).toNat + 128)) (by (try rw [wrap_mod128]); rw [u8_of]; omega) (by omega) hb.size ?_; intro v1 w1 hown1 _ hb1))
        go_roundw
        case rel => exact ⟨k / 128, j, pre ++ [UInt8.ofNat ((k % 128).toNat + 128)], by go_num, by rw [← HP.out, HS.out]; simp, by have := HK.out; rw [Nat.pow_succ] at this; omega, by have := HK.out; rw [Nat.pow_succ] at this; omega, by omega, by omega, by have := HJ.out; simp; omega, hown1, hb.trans hb1⟩
        case measure => simp [intOf] <;> omega

theorem u8_wrap_and (k : Int) : bits .and .u8 (k % 256) 127 = (k % 128) := by
  rw [show k % 256 = (((k % 256).toNat : Nat) : Int) by omega, show (127 : Int) = ((127 : Nat) : Int) from rfl, u8_and_nat _ _ (by omega) (by omega), nat_mask7]
  omega
theorem u8_wrap_or (k : Int) : bits .or .u8 (k % 256) 128 = (k % 128) + 128 := by
  rw [show k % 256 = (((k % 256).toNat : Nat) : Int) by omega, show (128 : Int) = ((128 : Nat) : Int) from rfl, u8_or_nat _ _ (by omega) (by omega), or128 _ (by omega)]
  omega

set_option maxRecDepth 100000 in
theorem octSleb_any (n : Int) (w : World) (h1 : -9223372036854775808 ≤ n) (h2 : n < 9223372036854775808) :
    Calls Try.prog 12 #[.int .i64 n] w fun e w' => ∃ v, e = .returned v ∧ OB w' w.heap.size v (sleb 9 n) ∧ Below w.heap.size w w' := by
  go_enter Try.func12, Try.ntmps12
  go_wp2
  go_loopw [0, 3] (fun m v wr => ∃ (k : Int) (j : Nat) (pre : List UInt8), m = .int .i64 k ∧ pre ++ sleb j k = sleb 9 n ∧ -(64 * 128 ^ j : Nat) ≤ k ∧ k < (64 * 128 ^ j : Nat) ∧ -9223372036854775808 ≤ k ∧ k < 9223372036854775808 ∧ pre.length + j = 9 ∧ OB wr w.heap.size v pre ∧ Below w.heap.size w wr)
    (fun m _ _ => (intOf m).natAbs)
  case atStart => exact ⟨n, 9, [], rfl, rfl, by simp; omega, by simp; omega, h1, h2, rfl, OB.nil _ _, Below.refl _ _⟩
  case round =>
    obtain ⟨k, j, pre, rfl, hp, hk1, hk2, hk3, hk4, hj, hown, hb⟩ := hrel
    have HP := Lib.hid hp
    have HJ := Lib.hid hj
    have hj' : pre.length ≤ 9 := by omega
    clear hp hj
    by_cases h : -64 ≤ k ∧ k ≤ 63
    · have HS := Lib.hid (sleb_small j k h)
      obtain ⟨ha, hc⟩ := h
      clear hk1 hk2
      go_wp2_with (at_builtin; go_must (refine wpList_pushB hown rfl rfl (UInt8.ofNat (k % 128).toNat) (by (try rw [u8_wrap_and]); rw [u8_of]; omega) (by omega) hb.size ?_; intro v1 w1 hown1 _ hb1))
      go_ret
      exact ⟨_, rfl, by rw [← HP.out, HS.out]; exact hown1, hb.trans hb1⟩
    · obtain ⟨j, rfl⟩ : ∃ i, j = i + 1 := by
        cases j with
        | zero => exact absurd hk1 (by omega)
        | succ j => exact ⟨j, rfl⟩
      have HS := Lib.hid (sleb_big j k h)
      have HK := Lib.hid (And.intro hk1 hk2)
      clear hk1 hk2
      by_cases hneg : k < -64
      all_goals
        go_wp2_with (at_builtin; go_must (refine wpList_pushB hown rfl rfl (UInt8.ofNat ((k % 128).toNat + 128)) (by (try rw [u8_wrap_or]); rw [u8_of]; omega) (by omega) hb.size ?_; intro v1 w1 hown1 _ hb1))
        go_roundw
        case rel => exact ⟨k / 128, j, pre ++ [UInt8.ofNat ((k % 128).toNat + 128)], by go_num, by rw [← HP.out, HS.out]; simp, by have := HK.out; rw [Nat.pow_succ] at this; omega, by have := HK.out; rw [Nat.pow_succ] at this; omega, by omega, by omega, by have := HJ.out; simp; omega, hown1, hb.trans hb1⟩
        case measure => simp [intOf] <;> omega
end Go.Proofs.Ytbbpeggljhkjhaa
