/-
  Numbers as bytes: what the reference's small functions compute.
-/
import Derived.Test.YtgknmmnffgikbaaByt
namespace Go.Proofs.Ytgknmmnffgikbaa
open Go.RowKit Go.Fd

def fixed : Nat → Nat → List UInt8
  | _, 0 => []
  | n, k + 1 => UInt8.ofNat n :: fixed (n / 256) k
theorem length_fixed (n s : Nat) : (fixed n s).length = s := by
  induction s generalizing n with
  | zero => rfl
  | succ s ih => simp [fixed, ih]
theorem fixed_snoc (n s : Nat) : fixed n (s + 1) = fixed n s ++ [UInt8.ofNat (n / 256 ^ s)] := by
  induction s generalizing n with
  | zero => simp [fixed]
  | succ s ih => rw [fixed, ih (n / 256), fixed, List.cons_append, Nat.div_div_eq_div_mul]; congr 4; rw [Nat.pow_succ, Nat.mul_comm]

theorem fixed_any (n : Nat) (s : Nat) (w : World) (hn : n < 18446744073709551616) (hs : s ≤ 8) :
    Calls Try.prog 62 #[.int .u64 n, .int .i64 s] w fun e w' =>
      ∃ v, e = .returned v ∧ OB w' w.heap.size v (fixed n s) ∧ Below w.heap.size w w' := by
  go_enter Try.func62, Try.ntmps62
  go_wp2
  go_loopw [0, 5, 6] (fun m v i wr => ∃ k : Nat, k ≤ s ∧ i = .int .i64 k ∧ m = .int .u64 ((n / 256 ^ k : Nat)) ∧ OB wr w.heap.size v (fixed n k) ∧ Below w.heap.size w wr) (fun _ _ i _ => s - (intOf i).toNat)
  case atStart => exact ⟨0, Nat.zero_le _, rfl, by simp, OB.nil _ _, Below.refl _ _⟩
  case round =>
    obtain ⟨k, hk, rfl, rfl, hown, hb⟩ := hrel
    have hm : n / 256 ^ k < 18446744073709551616 := Nat.lt_of_le_of_lt (Nat.div_le_self _ _) hn
    have HF := Lib.hid (fixed_snoc n k)
    have HP := Lib.hid (show n / 256 ^ k / 256 = n / 256 ^ (k + 1) by rw [Nat.div_div_eq_div_mul, Nat.pow_succ])
    have hL := length_fixed n k
    have HL := Lib.hid hL
    clear hL
    generalize n / 256 ^ k = m at *
    by_cases hlt : k < s
    · go_wp2_with (at_builtin; refine wpList_pushB hown rfl rfl (UInt8.ofNat m) (by rw [u8_of]; omega) (by rw [HL.out]; omega) hb.size ?_; intro v1 w1 hown1 _ hb1)
      go_roundw
      case rel => exact ⟨k + 1, by omega, by go_num, by rw [← HP.out]; go_num, by rw [HF.out]; exact hown1, hb.trans hb1⟩
      case measure => simp [intOf] <;> omega
    · obtain rfl : k = s := by omega
      go_wp2
      go_ret
      exact ⟨_, rfl, hown, hb⟩
theorem fixed_int (n : Nat) (s : Int) (w : World) (hn : n < 18446744073709551616) (h0 : 0 ≤ s) (hs : s ≤ 8) :
    Calls Try.prog 62 #[.int .u64 n, .int .i64 s] w fun e w' =>
      ∃ v, e = .returned v ∧ OB w' w.heap.size v (fixed n s.toNat) ∧ Below w.heap.size w w' := by
  obtain ⟨k, rfl⟩ := Int.eq_ofNat_of_zero_le h0
  rw [Int.toNat_natCast]
  exact fixed_any n k w hn (by omega)
end Go.Proofs.Ytgknmmnffgikbaa
