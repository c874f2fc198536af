/-
  Numbers as bytes: the reference's put.
-/
import Derived.Test.YtbbpeggljhkjhaaOct2
namespace Go.Proofs.Ytbbpeggljhkjhaa
open Go.RowKit Go.Fd

def putR (l : List UInt8) (n : Nat) (size : Int) (big : Bool) : List UInt8 × Int :=
  if Sized size then (if n < 256 ^ size.toNat then (l ++ (if big then (fixed n size.toNat).reverse else fixed n size.toNat), 0) else ([], 3)) else ([], 1)

theorem below_nilgrown {w w' : World} (hg : w.grownBy w' (Value.ownBlock (.slice none 0 0))) : Below w.heap.size w w' :=
  ⟨hg.os, hg.tape, hg.output, hg.size, fun k hk => hg.block k hk (by simp [Value.ownBlock])⟩

theorem shift_test (n : Nat) (size : Int) (h0 : 0 ≤ size) (b : Bool) (h : decide (n < 256 ^ size.toNat) = !b) : ((n : Int) / 2 ^ (8 * size).toNat != 0) = b := by
  obtain ⟨k, rfl⟩ := Int.eq_ofNat_of_zero_le h0
  have e1 : (8 * (k : Int)).toNat = 8 * k := by omega
  have e2 : (2 : Nat) ^ (8 * k) = 256 ^ k := by rw [Nat.pow_mul]
  have e3 : (n : Int) / 2 ^ (8 * k) = ((n / 256 ^ k : Nat) : Int) := by rw [← e2]; simp
  rw [e1, e3]
  rw [Int.toNat_natCast] at h
  have hp : 0 < 256 ^ k := Nat.pow_pos (by omega)
  generalize 256 ^ k = m at *
  clear e1 e2 e3 h0
  cases b
  · have h' : n < m := of_decide_eq_true h
    rw [Nat.div_eq_of_lt h']; rfl
  · have h' : ¬ n < m := of_decide_eq_false h
    have := Nat.div_pos (Nat.le_of_not_lt h') hp
    rw [bne_iff_ne]
    omega

theorem sized_bounds {size : Int} (h : Sized size) : 1 ≤ size ∧ size ≤ 8 := by unfold Sized at h; omega

theorem fixed_len_int (n : Nat) {size : Int} (h : Sized size) : (fixed n size.toNat).length ≤ 8 := by rw [length_fixed]; have := sized_bounds h; omega

set_option maxHeartbeats 1000000 in
theorem refput_ok (l : List UInt8) (n : Nat) (size : Int) (big : Bool) (v : Value) (w : World) (hl : l.length ≤ 1000000) (hn : n < 18446744073709551616) (hv : Bs w v l) (hs : Sized size)
    (hr : n < 256 ^ size.toNat) :
    Calls Try.prog 38 #[v, .int .u64 n, .int .i64 size, .bool big] w fun e w' =>
      ∃ v', e = .returned (.tuple #[v', .int .i64 0]) ∧ OB w' w.heap.size v' (l ++ (if big then (fixed n size.toNat).reverse else fixed n size.toNat)) ∧ Below w.heap.size w w' := by
  have h0 := (sized_bounds hs).1
  have h8 := (sized_bounds hs).2
  have HL := Lib.hid (fixed_len_int n hs)
  have ht := shift_test n size (by omega) false (by simp [hr])
  clear hr
  by_cases hlt : size < 8
  all_goals
    cases big
    · go_enter Try.func38, Try.ntmps38
      go_wp2_with (first
        | (go_at_call 49; refine (refSized_yes _ _ hs).mono ?_; rintro e w' ⟨rfl, rfl⟩)
        | (go_at_call 50; refine (fixed_int _ _ _ hn (by omega) (by omega)).mono ?_; rintro e w1 ⟨v1, rfl, hf, hb1⟩)
        | (with_reducible show wpList _ _ _ (⟨some 31, _, _, _, _, _⟩ :: _) _ _; refine wpList_catB (OB.nil _ w.heap.size) (hv.mono hb1) rfl rfl (by simp; omega) hb1.size ?_; intro v3 w3 hv3 hg3 hb3)
        | (with_reducible show wpList _ _ _ (⟨some 33, _, _, _, _, _⟩ :: _) _ _; refine wpList_catB hv3 (hf.bs.mono (below_nilgrown hg3)) rfl rfl (by have := HL.out; simp; omega) (Nat.le_trans hb1.size hb3.size) ?_; intro v4 w4 hv4 _ hb4))
      go_ret2
      exact ⟨_, rfl, by simpa using hv4, hb1.trans (hb3.trans hb4)⟩
    · go_enter Try.func38, Try.ntmps38
      go_wp2_with (first
        | (go_at_call 49; refine (refSized_yes _ _ hs).mono ?_; rintro e w' ⟨rfl, rfl⟩)
        | (go_at_call 50; refine (fixed_int _ _ _ hn (by omega) (by omega)).mono ?_; rintro e w1 ⟨v1, rfl, hf, hb1⟩)
        | (go_at_call 51; refine (turned_any _ _ _ (by have := HL.out; omega) hf.bs).mono ?_; rintro e w2 ⟨v2, rfl, hf2, hb2⟩; have hb12 := hb1.trans (hb2.mono hb1.size))
        | (with_reducible show wpList _ _ _ (⟨some 31, _, _, _, _, _⟩ :: _) _ _; refine wpList_catB (OB.nil _ w.heap.size) (hv.mono hb12) rfl rfl (by simp; omega) hb12.size ?_; intro v3 w3 hv3 hg3 hb3)
        | (with_reducible show wpList _ _ _ (⟨some 33, _, _, _, _, _⟩ :: _) _ _; refine wpList_catB hv3 (hf2.bs.mono (below_nilgrown hg3)) rfl rfl (by have := HL.out; simp; omega) (Nat.le_trans hb12.size hb3.size) ?_; intro v4 w4 hv4 _ hb4))
      go_ret2
      exact ⟨_, rfl, by simpa using hv4, hb12.trans (hb3.trans hb4)⟩

theorem refput_any (l : List UInt8) (n : Nat) (size : Int) (big : Bool) (v : Value) (w : World) (hl : l.length ≤ 1000000) (hn : n < 18446744073709551616) (hv : Bs w v l) :
    Calls Try.prog 38 #[v, .int .u64 n, .int .i64 size, .bool big] w fun e w' =>
      ∃ v', e = .returned (.tuple #[v', .int .i64 (putR l n size big).2]) ∧ OB w' w.heap.size v' (putR l n size big).1 ∧ Below w.heap.size w w' := by
  by_cases hs : Sized size
  · by_cases hr : n < 256 ^ size.toNat
    · have hput : putR l n size big = (l ++ (if big then (fixed n size.toNat).reverse else fixed n size.toNat), 0) := by rw [putR, if_pos hs, if_pos hr]
      rw [hput]
      exact refput_ok l n size big v w hl hn hv hs hr
    · have hput : putR l n size big = ([], 3) := by rw [putR, if_pos hs, if_neg hr]
      have HP := Lib.hid hput
      clear hput
      have h0 := (sized_bounds hs).1
      have hlt : size < 8 := by
        rcases hs with rfl | rfl | rfl | rfl
        · decide
        · decide
        · decide
        · exact absurd hn (by simpa using hr)
      have ht := shift_test n size (by omega) true (by simp [hr])
      clear hr
      go_enter Try.func38, Try.ntmps38
      go_wp2_with (go_at_call 49; refine (refSized_yes _ _ hs).mono ?_; rintro e w' ⟨rfl, rfl⟩)
      go_ret2
      exact ⟨_, by rw [HP.out]; rfl, by rw [HP.out]; exact OB.nil _ _, Below.refl _ _⟩
  · have hput : putR l n size big = ([], 1) := by rw [putR, if_neg hs]
    have HP := Lib.hid hput
    clear hput
    go_enter Try.func38, Try.ntmps38
    go_wp2_with (go_at_call 49; refine (refSized_no _ _ hs).mono ?_; rintro e w' ⟨rfl, rfl⟩)
    go_ret2
    exact ⟨_, by rw [HP.out]; rfl, by rw [HP.out]; exact OB.nil _ _, Below.refl _ _⟩

theorem refPut_any (l : List UInt8) (n : Nat) (size : Int) (v : Value) (w : World) (hl : l.length ≤ 1000000) (hn : n < 18446744073709551616) (hv : Bs w v l) :
    Calls Try.prog 23 #[v, .int .u64 n, .int .i64 size] w fun e w' =>
      ∃ v', e = .returned (.tuple #[v', .int .i64 (putR l n size false).2]) ∧ OB w' w.heap.size v' (putR l n size false).1 ∧ Below w.heap.size w w' := by
  go_enter Try.func23, Try.ntmps23
  go_wp2_with (go_at_call 38; refine (refput_any l n size false v w hl hn hv).mono ?_; rintro e w1 ⟨v1, rfl, hf, hb1⟩)
  go_ret2
  exact ⟨_, rfl, hf, hb1⟩

theorem refBig_any (l : List UInt8) (n : Nat) (size : Int) (v : Value) (w : World) (hl : l.length ≤ 1000000) (hn : n < 18446744073709551616) (hv : Bs w v l) :
    Calls Try.prog 24 #[v, .int .u64 n, .int .i64 size] w fun e w' =>
      ∃ v', e = .returned (.tuple #[v', .int .i64 (putR l n size true).2]) ∧ OB w' w.heap.size v' (putR l n size true).1 ∧ Below w.heap.size w w' := by
  go_enter Try.func24, Try.ntmps24
  go_wp2_with (go_at_call 38; refine (refput_any l n size true v w hl hn hv).mono ?_; rintro e w1 ⟨v1, rfl, hf, hb1⟩)
  go_ret2
  exact ⟨_, rfl, hf, hb1⟩
end Go.Proofs.Ytbbpeggljhkjhaa
