/-
  Numbers out of bytes: octet.field, U (cut from my own octet texts, for seats without the rest).
-/
import Derived.Test.YtgknmmnffgikbaaNum
namespace Go.Proofs.Ytgknmmnffgikbaa
open Go.RowKit Go.Fd

/-- May a number have so many bytes? -/
def Sized (n : Int) : Prop := n = 1 ∨ n = 2 ∨ n = 4 ∨ n = 8
instance (n : Int) : Decidable (Sized n) := by unfold Sized; infer_instance

theorem octSized_yes (n : Int) (w : World) (h : Sized n) : Calls Try.prog 128 #[.int .i64 n] w fun e w' => e = .returned (.bool true) ∧ w = w' := by
  rcases h with rfl | rfl | rfl | rfl
  all_goals
    go_enter Try.func128, Try.ntmps128
    go_wp2
    go_ret
    exact ⟨rfl, rfl⟩

theorem octSized_no (n : Int) (w : World) (h : ¬ Sized n) : Calls Try.prog 128 #[.int .i64 n] w fun e w' => e = .returned (.bool false) ∧ w = w' := by
  unfold Sized at h
  have h1 : (n == 1) = false := beq_eq_false_iff_ne.2 (by omega)
  have h2 : (n == 2) = false := beq_eq_false_iff_ne.2 (by omega)
  have h3 : (n == 4) = false := beq_eq_false_iff_ne.2 (by omega)
  have h4 : (n == 8) = false := beq_eq_false_iff_ne.2 (by omega)
  clear h
  go_enter Try.func128, Try.ntmps128
  go_wp2
  go_ret
  exact ⟨rfl, rfl⟩

theorem sized_bounds {size : Int} (h : Sized size) : 1 ≤ size ∧ size ≤ 8 := by unfold Sized at h; omega
def getR (l : List UInt8) (at_ size : Int) (big : Bool) : Nat × Int :=
  if Sized size then (if at_ < 0 ∨ (l.length : Int) < at_ then (0, 5) else if (l.length : Int) - at_ < size then (0, 2)
    else (numLE (if big then ((l.drop at_.toNat).take size.toNat).reverse else (l.drop at_.toNat).take size.toNat), 0)) else (0, 1)

theorem cut_len (l : List UInt8) (at_ size : Int) (hs : Sized size) : ((l.drop at_.toNat).take size.toNat).length ≤ 8 := by
  rw [List.length_take]; have := sized_bounds hs; omega

def fieldR (l : List UInt8) (at_ size : Int) : List UInt8 × Int :=
  if Sized size then (if at_ < 0 ∨ (l.length : Int) < at_ then ([], 5) else if (l.length : Int) - at_ < size then ([], 2) else ((l.drop at_.toNat).take size.toNat, 0)) else ([], 1)

theorem getR_eq (l : List UInt8) (at_ size : Int) (big : Bool) : getR l at_ size big = (numLE (if big then (fieldR l at_ size).1.reverse else (fieldR l at_ size).1), (fieldR l at_ size).2) := by
  unfold getR fieldR
  split
  · split
    · cases big <;> rfl
    · split
      · cases big <;> rfl
      · rfl
  · cases big <;> rfl
theorem fieldR_len (l : List UInt8) (at_ size : Int) : (fieldR l at_ size).1.length ≤ 8 := by
  unfold fieldR
  split
  · next h =>
    split
    · simp
    · split
      · simp
      · exact cut_len l at_ size h
  · simp

set_option maxRecDepth 100000 in
theorem field_any (l : List UInt8) (at_ size : Int) (v : Value) (w : World) (hl : l.length ≤ 1000000000) (hv : Bs w v l) :
    Calls Try.prog 121 #[v, .int .i64 at_, .int .i64 size] w fun e w' =>
      ∃ v', e = .returned (.tuple #[v', .int .i64 (fieldR l at_ size).2]) ∧ Bs w v' (fieldR l at_ size).1 ∧ w = w' := by
  by_cases hs : Sized size
  · have hb1 := (sized_bounds hs).1
    have hb2 := (sized_bounds hs).2
    obtain ⟨a, cap, rfl, hcap, _, _⟩ := hv.open
    by_cases h1 : at_ < 0
    · have HR := Lib.hid (show fieldR l at_ size = ([], 5) by rw [fieldR, if_pos hs, if_pos (.inl h1)])
      go_enter Try.func121, Try.ntmps121
      go_wp2_with (go_at_call 128; refine (octSized_yes _ _ hs).mono ?_; rintro e w' ⟨rfl, rfl⟩)
      go_ret2
      exact ⟨_, by rw [HR.out]; rfl, by rw [HR.out]; exact Bs.nil _, rfl⟩
    by_cases h2 : (l.length : Int) < at_
    · have HR := Lib.hid (show fieldR l at_ size = ([], 5) by rw [fieldR, if_pos hs, if_pos (.inr h2)])
      go_enter Try.func121, Try.ntmps121
      go_wp2_with (go_at_call 128; refine (octSized_yes _ _ hs).mono ?_; rintro e w' ⟨rfl, rfl⟩)
      go_ret2
      exact ⟨_, by rw [HR.out]; rfl, by rw [HR.out]; exact Bs.nil _, rfl⟩
    by_cases h3 : (l.length : Int) - at_ < size
    · have HR := Lib.hid (show fieldR l at_ size = ([], 2) by rw [fieldR, if_pos hs, if_neg (by omega), if_pos h3])
      go_enter Try.func121, Try.ntmps121
      go_wp2_with (go_at_call 128; refine (octSized_yes _ _ hs).mono ?_; rintro e w' ⟨rfl, rfl⟩)
      go_ret2
      exact ⟨_, by rw [HR.out]; rfl, by rw [HR.out]; exact Bs.nil _, rfl⟩
    have HR := Lib.hid (show fieldR l at_ size = ((l.drop at_.toNat).take size.toNat, 0) by rw [fieldR, if_pos hs, if_neg (by omega), if_neg h3])
    obtain ⟨v', hrun, hv'⟩ := run_sliceB hv (i := at_) (j := at_ + size) (k := .i64) (k' := .i64) (by omega) (by omega) (by omega)
    rw [show at_ + size - at_ = size by omega] at hv'
    have HRUN := Lib.hid hrun
    clear hrun
    go_enter Try.func121, Try.ntmps121
    go_wp2_with (first
      | (go_at_call 128; refine (octSized_yes _ _ hs).mono ?_; rintro e w' ⟨rfl, rfl⟩)
      | (with_reducible show wpList _ _ _ (⟨some 33, _, _, _, _, _⟩ :: _) _ _; go_must (refine wpList_val rfl (exec_slice2 HRUN.out rfl rfl rfl) ?_)))
    go_ret2
    exact ⟨_, by rw [HR.out]; rfl, by rw [HR.out]; exact hv', rfl⟩
  · have HR := Lib.hid (show fieldR l at_ size = ([], 1) by rw [fieldR, if_neg hs])
    go_enter Try.func121, Try.ntmps121
    go_wp2_with (go_at_call 128; refine (octSized_no _ _ hs).mono ?_; rintro e w' ⟨rfl, rfl⟩)
    go_ret2
    exact ⟨_, by rw [HR.out]; rfl, by rw [HR.out]; exact Bs.nil _, rfl⟩

set_option maxRecDepth 100000 in
theorem octU_any (l : List UInt8) (at_ size : Int) (v : Value) (w : World) (hl : l.length ≤ 1000000000) (hv : Bs w v l) :
    Calls Try.prog 100 #[v, .int .i64 at_, .int .i64 size] w fun e w' =>
      e = .returned (.tuple #[.int .u64 (getR l at_ size false).1, .int .i64 (getR l at_ size false).2]) ∧ w = w' := by
  have HW := Lib.hid (field_any l at_ size v w hl hv)
  have HL := Lib.hid (fieldR_len l at_ size)
  have HP := Lib.hid (getR_eq l at_ size false)
  generalize fieldR l at_ size = r at *
  obtain ⟨x, e⟩ := r
  have hx : x.length ≤ 8 := HL.out
  go_enter Try.func100, Try.ntmps100
  go_wp2_with (go_at_call 121; go_must (refine HW.out.mono ?_; rintro e w1 ⟨v1, rfl, hf, rfl⟩; obtain ⟨a, cap, rfl, hcap, _, hc⟩ := hf.open; have HC := Lib.hid hc; clear hc))
  go_loop [10, 11] (fun n i => ∃ k : Nat, k ≤ x.length ∧ i = .int .i64 ((k : Int) - 1) ∧ n = .int .u64 (numLE (x.drop k))) (fun _ i => (intOf i + 1).toNat)
  case atStart => exact ⟨x.length, Nat.le_refl _, rfl, by simp [numLE]⟩
  case round =>
    obtain ⟨k, hk, rfl, rfl⟩ := hrel
    by_cases h : 0 < k
    · obtain ⟨k, rfl⟩ : ∃ j, k = j + 1 := ⟨k - 1, by omega⟩
      obtain ⟨b, off, rfl, hcell⟩ := HC.out k (by omega)
      have hb : numLE (x.drop (k + 1)) < 256 ^ 7 := numLE_lt' _ 7 (by rw [List.length_drop]; omega)
      have HB := Lib.hid (numLE_drop x k (by omega))
      have HO := Lib.hid (or_byte (numLE (x.drop (k + 1))) (x[k]?.getD 0) hb)
      have hb' : (numLE (x.drop (k + 1)) : Int) < 72057594037927936 := by omega
      have hu := (x[k]?.getD 0).toNat_lt
      generalize numLE (x.drop (k + 1)) = m at *
      go_wp2
      go_round
      case rel => exact ⟨k, by omega, by go_num, by rw [HB.out, ← HO.out]⟩
      case measure => simp [intOf] <;> omega
    · obtain rfl : k = 0 := by omega
      go_wp2
      go_ret2
      exact ⟨by rw [HP.out]; rfl, rfl⟩

end Go.Proofs.Ytgknmmnffgikbaa
