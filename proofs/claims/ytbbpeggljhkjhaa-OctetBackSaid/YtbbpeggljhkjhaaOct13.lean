/-
  Numbers out of bytes: octet.field, U, BigU.
-/
import Derived.Test.YtbbpeggljhkjhaaOct4
import Derived.Test.YtbbpeggljhkjhaaOct12
namespace Go.Proofs.Ytbbpeggljhkjhaa
open Go.RowKit Go.Fd

def fieldR (l : List UInt8) (at_ size : Int) : List UInt8 × Int :=
  if Sized size then (if at_ < 0 ∨ (l.length : Int) < at_ then ([], 5) else if (l.length : Int) - at_ < size then ([], 2) else ((l.drop at_.toNat).take size.toNat, 0)) else ([], 1)

theorem getR_eq (l : List UInt8) (at_ size : Int) (big : Bool) : getR l at_ size big = (numLE (if big then (fieldR l at_ size).1.reverse else (fieldR l at_ size).1), (fieldR l at_ size).2) := by
  unfold getR fieldR
  split
  · split
    · cases big <;> rfl
    · split
      · cases big <;> rfl
      · rfl
  · cases big <;> rfl
theorem fieldR_len (l : List UInt8) (at_ size : Int) : (fieldR l at_ size).1.length ≤ 8 := by
  unfold fieldR
  split
  · next h =>
    split
    · simp
    · split
      · simp
      · exact cut_len l at_ size h
  · simp

set_option maxRecDepth 100000 in
theorem field_any (l : List UInt8) (at_ size : Int) (v : Value) (w : World) (hl : l.length ≤ 1000000000) (hv : Bs w v l) :
    Calls Try.prog 35 #[v, .int .i64 at_, .int .i64 size] w fun e w' =>
      ∃ v', e = .returned (.tuple #[v', .int .i64 (fieldR l at_ size).2]) ∧ Bs w v' (fieldR l at_ size).1 ∧ w = w' := by
  by_cases hs : Sized size
  · have hb1 := (sized_bounds hs).1
    have hb2 := (sized_bounds hs).2
    obtain ⟨a, cap, rfl, hcap, _, _⟩ := hv.open
    by_cases h1 : at_ < 0
    · have HR := Lib.hid (show fieldR l at_ size = ([], 5) by rw [fieldR, if_pos hs, if_pos (.inl h1)])
      go_enter Try.func35, Try.ntmps35
      go_wp2_with (go_at_call 42; refine (octSized_yes _ _ hs).mono ?_; rintro e w' ⟨rfl, rfl⟩)
      go_ret2
      exact ⟨_, by rw [HR.out]; rfl, by rw [HR.out]; exact Bs.nil _, rfl⟩
    by_cases h2 : (l.length : Int) < at_
    · have HR := Lib.hid (show fieldR l at_ size = ([], 5) by rw [fieldR, if_pos hs, if_pos (.inr h2)])
      go_enter Try.func35, Try.ntmps35
      go_wp2_with (go_at_call 42; refine (octSized_yes _ _ hs).mono ?_; rintro e w' ⟨rfl, rfl⟩)
      go_ret2
      exact ⟨_, by rw [HR.out]; rfl, by rw [HR.out]; exact Bs.nil _, rfl⟩
    by_cases h3 : (l.length : Int) - at_ < size
    · have HR := Lib.hid (show fieldR l at_ size = ([], 2) by rw [fieldR, if_pos hs, if_neg (by omega), if_pos h3])
      go_enter Try.func35, Try.ntmps35
      go_wp2_with (go_at_call 42; refine (octSized_yes _ _ hs).mono ?_; rintro e w' ⟨rfl, rfl⟩)
      go_ret2
      exact ⟨_, by rw [HR.out]; rfl, by rw [HR.out]; exact Bs.nil _, rfl⟩
    have HR := Lib.hid (show fieldR l at_ size = ((l.drop at_.toNat).take size.toNat, 0) by rw [fieldR, if_pos hs, if_neg (by omega), if_neg h3])
    obtain ⟨v', hrun, hv'⟩ := run_sliceB hv (i := at_) (j := at_ + size) (k := .i64) (k' := .i64) (by omega) (by omega) (by omega)
    rw [show at_ + size - at_ = size by omega] at hv'
    have HRUN := Lib.hid hrun
    clear hrun
    go_enter Try.func35, Try.ntmps35
    go_wp2_with (first
      | (go_at_call 42; refine (octSized_yes _ _ hs).mono ?_; rintro e w' ⟨rfl, rfl⟩)
      | (with_reducible show wpList _ _ _ (⟨some 33, _, _, _, _, _⟩ :: _) _ _; go_must (refine wpList_val rfl (exec_slice2 HRUN.out rfl rfl rfl) ?_)))
    go_ret2
    exact ⟨_, by rw [HR.out]; rfl, by rw [HR.out]; exact hv', rfl⟩
  · have HR := Lib.hid (show fieldR l at_ size = ([], 1) by rw [fieldR, if_neg hs])
    go_enter Try.func35, Try.ntmps35
    go_wp2_with (go_at_call 42; refine (octSized_no _ _ hs).mono ?_; rintro e w' ⟨rfl, rfl⟩)
    go_ret2
    exact ⟨_, by rw [HR.out]; rfl, by rw [HR.out]; exact Bs.nil _, rfl⟩

set_option maxRecDepth 100000 in
theorem octU_any (l : List UInt8) (at_ size : Int) (v : Value) (w : World) (hl : l.length ≤ 1000000000) (hv : Bs w v l) :
    Calls Try.prog 18 #[v, .int .i64 at_, .int .i64 size] w fun e w' =>
      e = .returned (.tuple #[.int .u64 (getR l at_ size false).1, .int .i64 (getR l at_ size false).2]) ∧ w = w' := by
  have HW := Lib.hid (field_any l at_ size v w hl hv)
  have HL := Lib.hid (fieldR_len l at_ size)
  have HP := Lib.hid (getR_eq l at_ size false)
  generalize fieldR l at_ size = r at *
  obtain ⟨x, e⟩ := r
  have hx : x.length ≤ 8 := HL.out
  go_enter Try.func18, Try.ntmps18
  go_wp2_with (go_at_call 35; go_must (refine HW.out.mono ?_; rintro e w1 ⟨v1, rfl, hf, rfl⟩; obtain ⟨a, cap, rfl, hcap, _, hc⟩ := hf.open; have HC := Lib.hid hc; clear hc))
  go_loop [10, 11] (fun n i => ∃ k : Nat, k ≤ x.length ∧ i = .int .i64 ((k : Int) - 1) ∧ n = .int .u64 (numLE (x.drop k))) (fun _ i => (intOf i + 1).toNat)
  case atStart => exact ⟨x.length, Nat.le_refl _, rfl, by simp [numLE]⟩
  case round =>
    obtain ⟨k, hk, rfl, rfl⟩ := hrel
    by_cases h : 0 < k
    · obtain ⟨k, rfl⟩ : ∃ j, k = j + 1 := ⟨k - 1, by omega⟩
      obtain ⟨b, off, rfl, hcell⟩ := HC.out k (by omega)
      have hb : numLE (x.drop (k + 1)) < 256 ^ 7 := numLE_lt' _ 7 (by rw [List.length_drop]; omega)
      have HB := Lib.hid (numLE_drop x k (by omega))
      have HO := Lib.hid (or_byte (numLE (x.drop (k + 1))) (x[k]?.getD 0) hb)
      have hb' : (numLE (x.drop (k + 1)) : Int) < 72057594037927936 := by omega
      have hu := (x[k]?.getD 0).toNat_lt
      generalize numLE (x.drop (k + 1)) = m at *
      go_wp2
      go_round
      case rel => exact ⟨k, by omega, by go_num, by rw [HB.out, ← HO.out]⟩
      case measure => simp [intOf] <;> omega
    · obtain rfl : k = 0 := by omega
      go_wp2
      go_ret2
      exact ⟨by rw [HP.out]; rfl, rfl⟩

theorem numLE_rev (x : List UInt8) (k : Nat) (h : k < x.length) : numLE (x.take (k + 1)).reverse = (x[k]?.getD 0).toNat + 256 * numLE (x.take k).reverse := by
  rw [List.take_succ_eq_append_getElem h, List.reverse_append, List.reverse_cons, List.reverse_nil, List.nil_append, List.singleton_append, numLE, List.getElem?_eq_getElem h]; rfl

set_option maxRecDepth 100000 in
theorem octBigU_any (l : List UInt8) (at_ size : Int) (v : Value) (w : World) (hl : l.length ≤ 1000000000) (hv : Bs w v l) :
    Calls Try.prog 19 #[v, .int .i64 at_, .int .i64 size] w fun e w' =>
      e = .returned (.tuple #[.int .u64 (getR l at_ size true).1, .int .i64 (getR l at_ size true).2]) ∧ w = w' := by
  have HW := Lib.hid (field_any l at_ size v w hl hv)
  have HL := Lib.hid (fieldR_len l at_ size)
  have HP := Lib.hid (getR_eq l at_ size true)
  generalize fieldR l at_ size = r at *
  obtain ⟨x, e⟩ := r
  have hx : x.length ≤ 8 := HL.out
  go_enter Try.func19, Try.ntmps19
  go_wp2_with (go_at_call 35; go_must (refine HW.out.mono ?_; rintro e w1 ⟨v1, rfl, hf, rfl⟩; obtain ⟨a, cap, rfl, hcap, _, hc⟩ := hf.open; have HC := Lib.hid hc; clear hc))
  go_loop [10, 22] (fun n i => ∃ k : Nat, k ≤ x.length ∧ i = .int .i64 k ∧ n = .int .u64 (numLE (x.take k).reverse)) (fun _ i => x.length - (intOf i).toNat)
  case atStart => exact ⟨0, Nat.zero_le _, rfl, by simp [numLE]⟩
  case round =>
    obtain ⟨k, hk, rfl, rfl⟩ := hrel
    by_cases h : k < x.length
    · obtain ⟨b, off, rfl, hcell⟩ := HC.out k (by omega)
      have hb : numLE (x.take k).reverse < 256 ^ 7 := numLE_lt' _ 7 (by rw [List.length_reverse, List.length_take]; omega)
      have HB := Lib.hid (numLE_rev x k (by omega))
      have HO := Lib.hid (or_byte (numLE (x.take k).reverse) (x[k]?.getD 0) hb)
      have hb' : (numLE (x.take k).reverse : Int) < 72057594037927936 := by omega
      have hu := (x[k]?.getD 0).toNat_lt
      generalize numLE (x.take k).reverse = m at *
      generalize x[k]?.getD 0 = c at *
      go_wp2
      go_round
      case rel => exact ⟨k + 1, by omega, by go_num, by rw [HB.out, ← HO.out]⟩
      case measure => simp [intOf] <;> omega
    · obtain rfl : k = x.length := by omega
      have HE := Lib.hid (show (x.take x.length).reverse = x.reverse by rw [List.take_length])
      go_wp2
      go_ret2
      exact ⟨by rw [HP.out, ← HE.out]; rfl, rfl⟩
end Go.Proofs.Ytbbpeggljhkjhaa
