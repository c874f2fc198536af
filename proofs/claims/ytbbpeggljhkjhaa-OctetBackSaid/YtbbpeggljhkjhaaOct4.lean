/-
  Numbers as bytes: the reference's Num, get, U, BigU.
-/
import Derived.Test.YtbbpeggljhkjhaaOct3
import Derived.Laws.BitsAllLaws
namespace Go.Proofs.Ytbbpeggljhkjhaa
open Go.RowKit Go.Fd

def numLE : List UInt8 → Nat
  | [] => 0
  | c :: r => c.toNat + 256 * numLE r

theorem numLE_lt (l : List UInt8) : numLE l < 256 ^ l.length := by
  induction l with
  | nil => simp [numLE]
  | cons c r ih =>
    have := c.toNat_lt
    rw [numLE, List.length_cons, Nat.pow_succ]
    omega

theorem numLE_drop (l : List UInt8) (k : Nat) (h : k < l.length) : numLE (l.drop k) = (l[k]?.getD 0).toNat + 256 * numLE (l.drop (k + 1)) := by
  rw [List.drop_eq_getElem_cons h, numLE, List.getElem?_eq_getElem h]; rfl

theorem numLE_lt' (l : List UInt8) (m : Nat) (h : l.length ≤ m) : numLE l < 256 ^ m := Nat.lt_of_lt_of_le (numLE_lt l) (Nat.pow_le_pow_right (by omega) h)

theorem or_byte (n : Nat) (c : UInt8) (hn : n < 72057594037927936) : bits .or .u64 ((n : Int) * 256) (c.toNat : Int) = ((c.toNat + 256 * n : Nat) : Int) := by
  have hc := c.toNat_lt
  rw [show (n : Int) * 256 = ((n * 256 : Nat) : Int) by omega, u64_or_nat _ _ (by omega) (by omega), nat_join 8 _ _ (by omega) (by omega)]
  congr 1; omega

theorem num_any (l : List UInt8) (v : Value) (w : World) (hl : l.length ≤ 8) (hv : Bs w v l) : Calls Try.prog 52 #[v] w fun e w' =>
    e = .returned (.int .u64 (numLE l)) ∧ w = w' := by
  obtain ⟨a, cap, rfl, hcap, _, hc⟩ := hv.open
  have HC := Lib.hid hc
  clear hc
  go_enter Try.func52, Try.ntmps52
  go_wp2
  go_loop [3, 4] (fun n i => ∃ k : Nat, k ≤ l.length ∧ i = .int .i64 ((k : Int) - 1) ∧ n = .int .u64 (numLE (l.drop k))) (fun _ i => (intOf i + 1).toNat)
  case atStart => exact ⟨l.length, Nat.le_refl _, rfl, by simp [numLE]⟩
  case round =>
    obtain ⟨k, hk, rfl, rfl⟩ := hrel
    by_cases h : 0 < k
    · obtain ⟨k, rfl⟩ : ∃ j, k = j + 1 := ⟨k - 1, by omega⟩
      obtain ⟨b, off, rfl, hcell⟩ := HC.out k (by omega)
      have hb : numLE (l.drop (k + 1)) < 256 ^ 7 := numLE_lt' _ 7 (by rw [List.length_drop]; omega)
      have HB := Lib.hid (numLE_drop l k (by omega))
      have HO := Lib.hid (or_byte (numLE (l.drop (k + 1))) (l[k]?.getD 0) hb)
      have hb' : (numLE (l.drop (k + 1)) : Int) < 72057594037927936 := by omega
      have hu := (l[k]?.getD 0).toNat_lt
      generalize numLE (l.drop (k + 1)) = m at *
      go_wp2
      go_round
      case rel => exact ⟨k, by omega, by go_num, by rw [HB.out, ← HO.out]⟩
      case measure => simp [intOf] <;> omega
    · obtain rfl : k = 0 := by omega
      go_wp2
      go_ret
      exact ⟨rfl, rfl⟩

def getR (l : List UInt8) (at_ size : Int) (big : Bool) : Nat × Int :=
  if Sized size then (if at_ < 0 ∨ (l.length : Int) < at_ then (0, 5) else if (l.length : Int) - at_ < size then (0, 2)
    else (numLE (if big then ((l.drop at_.toNat).take size.toNat).reverse else (l.drop at_.toNat).take size.toNat), 0)) else (0, 1)

theorem cut_len (l : List UInt8) (at_ size : Int) (hs : Sized size) : ((l.drop at_.toNat).take size.toNat).length ≤ 8 := by
  rw [List.length_take]; have := sized_bounds hs; omega

set_option maxHeartbeats 1000000 in
theorem refget_any (l : List UInt8) (at_ size : Int) (big : Bool) (v : Value) (w : World) (hl : l.length ≤ 1000000000) (hv : Bs w v l) (hat : at_ < 9223372036854775808) :
    Calls Try.prog 39 #[v, .int .i64 at_, .int .i64 size, .bool big] w fun e w' =>
      e = .returned (.tuple #[.int .u64 (getR l at_ size big).1, .int .i64 (getR l at_ size big).2]) ∧ Below w.heap.size w w' := by
  by_cases hs : Sized size
  · have hb1 := (sized_bounds hs).1
    have hb2 := (sized_bounds hs).2
    obtain ⟨a, cap, rfl, hcap, _, _⟩ := hv.open
    by_cases h1 : at_ < 0
    · have HR := Lib.hid (show getR l at_ size big = (0, 5) by rw [getR, if_pos hs, if_pos (.inl h1)])
      go_enter Try.func39, Try.ntmps39
      go_wp2_with (go_at_call 49; refine (refSized_yes _ _ hs).mono ?_; rintro e w' ⟨rfl, rfl⟩)
      go_ret2
      exact ⟨by rw [HR.out]; rfl, Below.refl _ _⟩
    by_cases h2 : (l.length : Int) < at_
    · have HR := Lib.hid (show getR l at_ size big = (0, 5) by rw [getR, if_pos hs, if_pos (.inr h2)])
      go_enter Try.func39, Try.ntmps39
      go_wp2_with (go_at_call 49; refine (refSized_yes _ _ hs).mono ?_; rintro e w' ⟨rfl, rfl⟩)
      go_ret2
      exact ⟨by rw [HR.out]; rfl, Below.refl _ _⟩
    by_cases h3 : (l.length : Int) - at_ < size
    · have HR := Lib.hid (show getR l at_ size big = (0, 2) by rw [getR, if_pos hs, if_neg (by omega), if_pos h3])
      go_enter Try.func39, Try.ntmps39
      go_wp2_with (go_at_call 49; refine (refSized_yes _ _ hs).mono ?_; rintro e w' ⟨rfl, rfl⟩)
      go_ret2
      exact ⟨by rw [HR.out]; rfl, Below.refl _ _⟩
    have HR := Lib.hid (show getR l at_ size big = (numLE (if big then ((l.drop at_.toNat).take size.toNat).reverse else (l.drop at_.toNat).take size.toNat), 0) by rw [getR, if_pos hs, if_neg (by omega), if_neg h3])
    have HL := Lib.hid (cut_len l at_ size hs)
    obtain ⟨v', hrun, hv'⟩ := run_sliceB hv (i := at_) (j := at_ + size) (k := .i64) (k' := .i64) (by omega) (by omega) (by omega)
    rw [show at_ + size - at_ = size by omega] at hv'
    have HRUN := Lib.hid hrun
    clear hrun
    cases big
    · go_enter Try.func39, Try.ntmps39
      go_wp2_with (first
        | (go_at_call 49; refine (refSized_yes _ _ hs).mono ?_; rintro e w' ⟨rfl, rfl⟩)
        | (with_reducible show wpList _ _ _ (⟨some 33, _, _, _, _, _⟩ :: _) _ _; refine wpList_val rfl (exec_slice2 HRUN.out rfl rfl rfl) ?_)
        | (go_at_call 52; refine (num_any _ _ _ HL.out hv').mono ?_; rintro e w' ⟨rfl, rfl⟩))
      go_ret2
      exact ⟨by rw [HR.out]; rfl, Below.refl _ _⟩
    · go_enter Try.func39, Try.ntmps39
      go_wp2_with (first
        | (go_at_call 49; refine (refSized_yes _ _ hs).mono ?_; rintro e w' ⟨rfl, rfl⟩)
        | (with_reducible show wpList _ _ _ (⟨some 33, _, _, _, _, _⟩ :: _) _ _; refine wpList_val rfl (exec_slice2 HRUN.out rfl rfl rfl) ?_)
        | (go_at_call 51; refine (turned_any _ _ _ (by have := HL.out; omega) hv').mono ?_; rintro e w2 ⟨v2, rfl, hf2, hb2⟩)
        | (go_at_call 52; refine (num_any _ _ _ (by rw [List.length_reverse]; exact HL.out) hf2.bs).mono ?_; rintro e w' ⟨rfl, rfl⟩))
      go_ret2
      exact ⟨by rw [HR.out]; rfl, hb2⟩
  · have HR := Lib.hid (show getR l at_ size big = (0, 1) by rw [getR, if_neg hs])
    go_enter Try.func39, Try.ntmps39
    go_wp2_with (go_at_call 49; refine (refSized_no _ _ hs).mono ?_; rintro e w' ⟨rfl, rfl⟩)
    go_ret2
    exact ⟨by rw [HR.out]; rfl, Below.refl _ _⟩

theorem refU_any (l : List UInt8) (at_ size : Int) (v : Value) (w : World) (hl : l.length ≤ 1000000000) (hv : Bs w v l) (hat : at_ < 9223372036854775808) :
    Calls Try.prog 26 #[v, .int .i64 at_, .int .i64 size] w fun e w' =>
      e = .returned (.tuple #[.int .u64 (getR l at_ size false).1, .int .i64 (getR l at_ size false).2]) ∧ Below w.heap.size w w' := by
  go_enter Try.func26, Try.ntmps26
  go_wp2_with (go_at_call 39; refine (refget_any l at_ size false v w hl hv hat).mono ?_; rintro e w1 ⟨rfl, hb1⟩)
  go_ret2
  exact ⟨rfl, hb1⟩

theorem refBigU_any (l : List UInt8) (at_ size : Int) (v : Value) (w : World) (hl : l.length ≤ 1000000000) (hv : Bs w v l) (hat : at_ < 9223372036854775808) :
    Calls Try.prog 27 #[v, .int .i64 at_, .int .i64 size] w fun e w' =>
      e = .returned (.tuple #[.int .u64 (getR l at_ size true).1, .int .i64 (getR l at_ size true).2]) ∧ Below w.heap.size w w' := by
  go_enter Try.func27, Try.ntmps27
  go_wp2_with (go_at_call 39; refine (refget_any l at_ size true v w hl hv hat).mono ?_; rintro e w1 ⟨rfl, hb1⟩)
  go_ret2
  exact ⟨rfl, hb1⟩
end Go.Proofs.Ytbbpeggljhkjhaa
