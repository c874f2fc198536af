/-
  A number's bytes: octet.bytesOf.
-/
import Derived.Test.YtbbpeggljhkjhaaOct1
namespace Go.Proofs.Ytbbpeggljhkjhaa
open Go.RowKit Go.Fd

set_option maxRecDepth 100000 in
theorem bytesOf8_any (n s : Nat) (w : World) (hn : n < 256) (hs : s ≤ 8) :
    Calls Try.prog 43 #[.int .u8 n, .int .i64 s] w fun e w' => ∃ v, e = .returned v ∧ OB w' w.heap.size v (fixed n s) ∧ Below w.heap.size w w' := by
  go_enter Try.func43, Try.ntmps43
  go_wp2_with (with_reducible show wpList _ _ _ (⟨_, .makeSlice _ _ _, _, _, _, _⟩ :: _) _ _; refine wpList_make0 TB s rfl rfl rfl (by omega) (by omega) ?_; intro v0 w0 hv0 hb0)
  go_loopw [0, 5, 9] (fun m v i wr => ∃ k : Nat, k ≤ s ∧ i = .int .i64 k ∧ m = .int .u8 ((n / 256 ^ k : Nat)) ∧ OB wr w.heap.size v (fixed n k) ∧ Below w.heap.size w wr) (fun _ _ i _ => s - (intOf i).toNat)
  case atStart => exact ⟨0, Nat.zero_le _, rfl, by simp, hv0, hb0⟩
  case round =>
    obtain ⟨k, hk, rfl, rfl, hown, hb⟩ := hrel
    have hm : n / 256 ^ k < 256 := Nat.lt_of_le_of_lt (Nat.div_le_self _ _) hn
    have HF := Lib.hid (fixed_snoc n k)
    have HP := Lib.hid (show n / 256 ^ k / 256 = n / 256 ^ (k + 1) by rw [Nat.div_div_eq_div_mul, Nat.pow_succ])
    have HL := Lib.hid (length_fixed n k)
    generalize n / 256 ^ k = m at *
    by_cases hlt : k < s
    · go_wp2_with (at_builtin; go_must (refine wpList_pushB hown rfl rfl (UInt8.ofNat m) (by rw [u8_of]; omega) (by rw [HL.out]; omega) hb.size ?_; intro v1 w1 hown1 _ hb1))
      go_roundw
      case rel => exact ⟨k + 1, by omega, by go_num, by rw [← HP.out]; go_num, by rw [HF.out]; exact hown1, hb.trans hb1⟩
      case measure => simp [intOf] <;> omega
    · obtain rfl : k = s := by omega
      go_wp2
      go_ret
      exact ⟨_, rfl, hown, hb⟩

set_option maxRecDepth 100000 in
theorem bytesOf16_any (n s : Nat) (w : World) (hn : n < 65536) (hs : s ≤ 8) :
    Calls Try.prog 44 #[.int .u16 n, .int .i64 s] w fun e w' => ∃ v, e = .returned v ∧ OB w' w.heap.size v (fixed n s) ∧ Below w.heap.size w w' := by
  go_enter Try.func44, Try.ntmps44
  go_wp2_with (with_reducible show wpList _ _ _ (⟨_, .makeSlice _ _ _, _, _, _, _⟩ :: _) _ _; refine wpList_make0 TB s rfl rfl rfl (by omega) (by omega) ?_; intro v0 w0 hv0 hb0)
  go_loopw [0, 5, 9] (fun m v i wr => ∃ k : Nat, k ≤ s ∧ i = .int .i64 k ∧ m = .int .u16 ((n / 256 ^ k : Nat)) ∧ OB wr w.heap.size v (fixed n k) ∧ Below w.heap.size w wr) (fun _ _ i _ => s - (intOf i).toNat)
  case atStart => exact ⟨0, Nat.zero_le _, rfl, by simp, hv0, hb0⟩
  case round =>
    obtain ⟨k, hk, rfl, rfl, hown, hb⟩ := hrel
    have hm : n / 256 ^ k < 65536 := Nat.lt_of_le_of_lt (Nat.div_le_self _ _) hn
    have HF := Lib.hid (fixed_snoc n k)
    have HP := Lib.hid (show n / 256 ^ k / 256 = n / 256 ^ (k + 1) by rw [Nat.div_div_eq_div_mul, Nat.pow_succ])
    have HL := Lib.hid (length_fixed n k)
    generalize n / 256 ^ k = m at *
    by_cases hlt : k < s
    · go_wp2_with (at_builtin; go_must (refine wpList_pushB hown rfl rfl (UInt8.ofNat m) (by rw [u8_of]; omega) (by rw [HL.out]; omega) hb.size ?_; intro v1 w1 hown1 _ hb1))
      go_roundw
      case rel => exact ⟨k + 1, by omega, by go_num, by rw [← HP.out]; go_num, by rw [HF.out]; exact hown1, hb.trans hb1⟩
      case measure => simp [intOf] <;> omega
    · obtain rfl : k = s := by omega
      go_wp2
      go_ret
      exact ⟨_, rfl, hown, hb⟩

set_option maxRecDepth 100000 in
theorem bytesOf32_any (n s : Nat) (w : World) (hn : n < 4294967296) (hs : s ≤ 8) :
    Calls Try.prog 45 #[.int .u32 n, .int .i64 s] w fun e w' => ∃ v, e = .returned v ∧ OB w' w.heap.size v (fixed n s) ∧ Below w.heap.size w w' := by
  go_enter Try.func45, Try.ntmps45
  go_wp2_with (with_reducible show wpList _ _ _ (⟨_, .makeSlice _ _ _, _, _, _, _⟩ :: _) _ _; refine wpList_make0 TB s rfl rfl rfl (by omega) (by omega) ?_; intro v0 w0 hv0 hb0)
  go_loopw [0, 5, 9] (fun m v i wr => ∃ k : Nat, k ≤ s ∧ i = .int .i64 k ∧ m = .int .u32 ((n / 256 ^ k : Nat)) ∧ OB wr w.heap.size v (fixed n k) ∧ Below w.heap.size w wr) (fun _ _ i _ => s - (intOf i).toNat)
  case atStart => exact ⟨0, Nat.zero_le _, rfl, by simp, hv0, hb0⟩
  case round =>
    obtain ⟨k, hk, rfl, rfl, hown, hb⟩ := hrel
    have hm : n / 256 ^ k < 4294967296 := Nat.lt_of_le_of_lt (Nat.div_le_self _ _) hn
    have HF := Lib.hid (fixed_snoc n k)
    have HP := Lib.hid (show n / 256 ^ k / 256 = n / 256 ^ (k + 1) by rw [Nat.div_div_eq_div_mul, Nat.pow_succ])
    have HL := Lib.hid (length_fixed n k)
    generalize n / 256 ^ k = m at *
    by_cases hlt : k < s
    · go_wp2_with (at_builtin; go_must (refine wpList_pushB hown rfl rfl (UInt8.ofNat m) (by rw [u8_of]; omega) (by rw [HL.out]; omega) hb.size ?_; intro v1 w1 hown1 _ hb1))
      go_roundw
      case rel => exact ⟨k + 1, by omega, by go_num, by rw [← HP.out]; go_num, by rw [HF.out]; exact hown1, hb.trans hb1⟩
      case measure => simp [intOf] <;> omega
    · obtain rfl : k = s := by omega
      go_wp2
      go_ret
      exact ⟨_, rfl, hown, hb⟩

set_option maxRecDepth 100000 in
theorem bytesOf64_any (n s : Nat) (w : World) (hn : n < 18446744073709551616) (hs : s ≤ 8) :
    Calls Try.prog 46 #[.int .u64 n, .int .i64 s] w fun e w' => ∃ v, e = .returned v ∧ OB w' w.heap.size v (fixed n s) ∧ Below w.heap.size w w' := by
  go_enter Try.func46, Try.ntmps46
  go_wp2_with (with_reducible show wpList _ _ _ (⟨_, .makeSlice _ _ _, _, _, _, _⟩ :: _) _ _; refine wpList_make0 TB s rfl rfl rfl (by omega) (by omega) ?_; intro v0 w0 hv0 hb0)
  go_loopw [0, 5, 9] (fun m v i wr => ∃ k : Nat, k ≤ s ∧ i = .int .i64 k ∧ m = .int .u64 ((n / 256 ^ k : Nat)) ∧ OB wr w.heap.size v (fixed n k) ∧ Below w.heap.size w wr) (fun _ _ i _ => s - (intOf i).toNat)
  case atStart => exact ⟨0, Nat.zero_le _, rfl, by simp, hv0, hb0⟩
  case round =>
    obtain ⟨k, hk, rfl, rfl, hown, hb⟩ := hrel
    have hm : n / 256 ^ k < 18446744073709551616 := Nat.lt_of_le_of_lt (Nat.div_le_self _ _) hn
    have HF := Lib.hid (fixed_snoc n k)
    have HP := Lib.hid (show n / 256 ^ k / 256 = n / 256 ^ (k + 1) by rw [Nat.div_div_eq_div_mul, Nat.pow_succ])
    have HL := Lib.hid (length_fixed n k)
    generalize n / 256 ^ k = m at *
    by_cases hlt : k < s
    · go_wp2_with (at_builtin; go_must (refine wpList_pushB hown rfl rfl (UInt8.ofNat m) (by rw [u8_of]; omega) (by rw [HL.out]; omega) hb.size ?_; intro v1 w1 hown1 _ hb1))
      go_roundw
      case rel => exact ⟨k + 1, by omega, by go_num, by rw [← HP.out]; go_num, by rw [HF.out]; exact hown1, hb.trans hb1⟩
      case measure => simp [intOf] <;> omega
    · obtain rfl : k = s := by omega
      go_wp2
      go_ret
      exact ⟨_, rfl, hown, hb⟩

theorem bytesOf8_int (n s : Nat) (m k : Int) (w : World) (hm : m = n) (hk : k = s) (hn : n < 256) (hs : s ≤ 8) :
    Calls Try.prog 43 #[.int .u8 m, .int .i64 k] w fun e w' => ∃ v, e = .returned v ∧ OB w' w.heap.size v (fixed n s) ∧ Below w.heap.size w w' := by
  subst hm; subst hk
  exact bytesOf8_any n s w hn hs

theorem bytesOf16_int (n s : Nat) (m k : Int) (w : World) (hm : m = n) (hk : k = s) (hn : n < 65536) (hs : s ≤ 8) :
    Calls Try.prog 44 #[.int .u16 m, .int .i64 k] w fun e w' => ∃ v, e = .returned v ∧ OB w' w.heap.size v (fixed n s) ∧ Below w.heap.size w w' := by
  subst hm; subst hk
  exact bytesOf16_any n s w hn hs

theorem bytesOf32_int (n s : Nat) (m k : Int) (w : World) (hm : m = n) (hk : k = s) (hn : n < 4294967296) (hs : s ≤ 8) :
    Calls Try.prog 45 #[.int .u32 m, .int .i64 k] w fun e w' => ∃ v, e = .returned v ∧ OB w' w.heap.size v (fixed n s) ∧ Below w.heap.size w w' := by
  subst hm; subst hk
  exact bytesOf32_any n s w hn hs

theorem bytesOf64_int (n s : Nat) (m k : Int) (w : World) (hm : m = n) (hk : k = s) (hn : n < 18446744073709551616) (hs : s ≤ 8) :
    Calls Try.prog 46 #[.int .u64 m, .int .i64 k] w fun e w' => ∃ v, e = .returned v ∧ OB w' w.heap.size v (fixed n s) ∧ Below w.heap.size w w' := by
  subst hm; subst hk
  exact bytesOf64_any n s w hn hs
end Go.Proofs.Ytbbpeggljhkjhaa
