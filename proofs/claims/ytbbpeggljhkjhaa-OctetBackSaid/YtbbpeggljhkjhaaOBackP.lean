/-
  What is written is read as it was: plain laws of bytes.
-/
import Derived.Test.YtbbpeggljhkjhaaOct5
import Derived.Test.YtbbpeggljhkjhaaOct7
import Derived.Test.YtbbpeggljhkjhaaOct13
namespace Go.Proofs.Ytbbpeggljhkjhaa
open Go.RowKit Go.Fd

theorem numLE_fixed (n s : Nat) : numLE (fixed n s) = n % 256 ^ s := by
  induction s generalizing n with
  | zero => simp [fixed, numLE, Nat.mod_one]
  | succ s ih =>
    rw [fixed, numLE, ih, u8_of, Nat.pow_succ, Nat.mul_comm (256 ^ s) 256, Nat.mod_mul]

theorem get_put (l : List UInt8) (n : Nat) (size : Int) (big : Bool) (h : (putR l n size big).2 = 0) : getR (putR l n size big).1 l.length size big = (n, 0) ∧ ((putR l n size big).1.length : Int) = l.length + size := by
  unfold putR at h ⊢
  by_cases hs : Sized size
  · rw [if_pos hs] at h ⊢
    by_cases hn : n < 256 ^ size.toNat
    · rw [if_pos hn] at h ⊢
      simp only
      have hb := sized_bounds hs
      have hx : (if big then (fixed n size.toNat).reverse else fixed n size.toNat).length = size.toNat := by cases big <;> simp [length_fixed]
      constructor
      · unfold getR
        rw [if_pos hs, if_neg (by rw [List.length_append]; omega), if_neg (by rw [List.length_append, hx]; omega), Int.toNat_natCast, List.drop_left, List.take_of_length_le (by omega)]
        have hv : numLE (fixed n size.toNat) = n := by rw [numLE_fixed, Nat.mod_eq_of_lt hn]
        cases big
        · simp [hv]
        · simp [hv]
      · rw [List.length_append, hx]; omega
    · rw [if_neg hn] at h; simp at h
  · rw [if_neg hs] at h; simp at h

theorem leb_sevens (r : List UInt8) (k n : Nat) (h : n < 128 ^ (k + 1)) : sevens (leb k n ++ r) = some (leb k n) := by
  induction k generalizing n with
  | zero =>
    simp at h
    rw [leb, List.singleton_append, sevens, u8_of, if_pos (by omega)]
  | succ k ih =>
    by_cases hn : n < 128
    · rw [leb_small _ _ hn, List.singleton_append, sevens, u8_of, if_pos (by omega)]
    · rw [leb_big _ _ hn, List.cons_append, sevens, u8_of, if_neg (by omega), ih (n / 128) (by rw [Nat.pow_succ] at h; omega)]
      rfl
theorem leb_val (k n : Nat) (h : n < 128 ^ (k + 1)) : lebVal (low7 (leb k n)) = n := by
  induction k generalizing n with
  | zero =>
    simp at h
    rw [leb]
    simp only [low7, List.map_cons, List.map_nil, lebVal, u8_of]
    omega
  | succ k ih =>
    by_cases hn : n < 128
    · rw [leb_small _ _ hn]
      simp only [low7, List.map_cons, List.map_nil, lebVal, u8_of]
      omega
    · have := ih (n / 128) (by rw [Nat.pow_succ] at h; omega)
      rw [leb_big _ _ hn]
      simp only [low7, List.map_cons, lebVal, u8_of] at this ⊢
      rw [this]
      omega
theorem lebVal_digit (g : List Nat) (i : Nat) : (g[i]?.getD 0) * 128 ^ i ≤ lebVal g := by
  induction g generalizing i with
  | nil => simp
  | cons d g ih =>
    cases i with
    | zero => simp [lebVal]
    | succ i =>
      rw [List.getElem?_cons_succ, lebVal, Nat.pow_succ]
      have := ih i
      calc g[i]?.getD 0 * (128 ^ i * 128) = (g[i]?.getD 0 * 128 ^ i) * 128 := by rw [Nat.mul_assoc]
        _ ≤ lebVal g * 128 := Nat.mul_le_mul_right _ this
        _ ≤ _ := by omega

theorem read_leb (l r : List UInt8) (n : Nat) (hn : n < 18446744073709551616) : readLebR (l ++ leb 9 n ++ r) l.length = (n, (leb 9 n).length, 0) := by
  have hl : (leb 9 n).length ≤ 10 := by
    have : ∀ k n, (leb k n).length ≤ k + 1 := by
      intro k
      induction k with
      | zero => intro n; simp [leb]
      | succ k ih => intro n; rw [leb]; split <;> simp; exact ih _
    exact this 9 n
  have hs : sevenR (l ++ leb 9 n ++ r) l.length = (leb 9 n, 0) := by
    unfold sevenR
    rw [if_neg (by simp only [List.length_append]; omega), Int.toNat_natCast, List.append_assoc, List.drop_left, leb_sevens r 9 n (Nat.lt_trans hn (by decide))]
    simp only
    rw [if_neg (by omega)]
  have hv := leb_val 9 n (Nat.lt_trans hn (by decide))
  unfold readLebR
  rw [hs]
  simp only
  rw [if_neg (by simp), if_neg, hv]
  intro h
  have := lebVal_digit (low7 (leb 9 n)) 9
  rw [hv] at this
  have h2 := h.2
  have h3 : (128 : Nat) ^ 9 = 9223372036854775808 := by decide
  rw [h3] at this
  omega

theorem sleb_sevens (r : List UInt8) (k : Nat) (n : Int) (h1 : -(64 * 128 ^ k : Nat) ≤ n) (h2 : n < (64 * 128 ^ k : Nat)) : sevens (sleb k n ++ r) = some (sleb k n) := by
  induction k generalizing n with
  | zero => rw [sleb, List.singleton_append, sevens, u8_of, if_pos (by omega)]
  | succ k ih =>
    by_cases hn : -64 ≤ n ∧ n ≤ 63
    · rw [sleb_small _ _ hn, List.singleton_append, sevens, u8_of, if_pos (by omega)]
    · rw [sleb_big _ _ hn, List.cons_append, sevens, u8_of, if_neg (by omega), ih (n / 128) (by rw [Nat.pow_succ] at h1; omega) (by rw [Nat.pow_succ] at h2; omega)]
      rfl

theorem sleb_val (k : Nat) (n : Int) (h1 : -(64 * 128 ^ k : Nat) ≤ n) (h2 : n < (64 * 128 ^ k : Nat)) :
    1 ≤ (low7 (sleb k n)).length ∧ (lebVal (low7 (sleb k n)) : Int) - (if 64 ≤ (low7 (sleb k n))[(low7 (sleb k n)).length - 1]?.getD 0 then ((128 ^ (low7 (sleb k n)).length : Nat) : Int) else 0) = n := by
  have small : ∀ n : Int, -64 ≤ n → n ≤ 63 → 1 ≤ (low7 [UInt8.ofNat (n % 128).toNat]).length ∧ (lebVal (low7 [UInt8.ofNat (n % 128).toNat]) : Int) - (if 64 ≤ (low7 [UInt8.ofNat (n % 128).toNat])[(low7 [UInt8.ofNat (n % 128).toNat]).length - 1]?.getD 0 then ((128 ^ (low7 [UInt8.ofNat (n % 128).toNat]).length : Nat) : Int) else 0) = n := by
    intro n ha hb
    simp only [low7, List.map_cons, List.map_nil, lebVal, u8_of, List.length_cons, List.length_nil, Nat.zero_add, Nat.sub_self, List.getElem?_cons_zero, Option.getD_some, Nat.pow_one]
    refine ⟨Nat.le_refl _, ?_⟩
    split <;> omega
  induction k generalizing n with
  | zero =>
    simp at h1 h2
    rw [sleb]
    exact small n (by omega) (by omega)
  | succ k ih =>
    by_cases hn : -64 ≤ n ∧ n ≤ 63
    · rw [sleb_small _ _ hn]
      exact small n hn.1 hn.2
    · obtain ⟨i1, i2⟩ := ih (n / 128) (by rw [Nat.pow_succ] at h1; omega) (by rw [Nat.pow_succ] at h2; omega)
      rw [sleb_big _ _ hn]
      have e : low7 (UInt8.ofNat ((n % 128).toNat + 128) :: sleb k (n / 128)) = (n % 128).toNat :: low7 (sleb k (n / 128)) := by
        simp only [low7, List.map_cons, u8_of]
        congr 1
        omega
      rw [e]
      generalize low7 (sleb k (n / 128)) = q at *
      rw [List.length_cons, lebVal, Nat.add_sub_cancel]
      have e2 : ((n % 128).toNat :: q)[q.length]? = q[q.length - 1]? := by
        rw [show q.length = (q.length - 1) + 1 by omega, List.getElem?_cons_succ, Nat.add_sub_cancel]
      rw [e2, Nat.pow_succ]
      refine ⟨by omega, ?_⟩
      split at i2
      · next h64 => rw [if_pos h64]; omega
      · next h64 => rw [if_neg h64]; omega

theorem read_sleb (l r : List UInt8) (n : Int) (h1 : -9223372036854775808 ≤ n) (h2 : n < 9223372036854775808) : readSlebR (l ++ sleb 9 n ++ r) l.length = (n, (sleb 9 n).length, 0) := by
  have hl : (sleb 9 n).length ≤ 10 := by
    have : ∀ k n, (sleb k n).length ≤ k + 1 := by
      intro k
      induction k with
      | zero => intro n; simp [sleb]
      | succ k ih => intro n; rw [sleb]; split <;> simp; exact ih _
    exact this 9 n
  have e9 : (128 : Nat) ^ 9 = 9223372036854775808 := by decide
  have hs : sevenR (l ++ sleb 9 n ++ r) l.length = (sleb 9 n, 0) := by
    unfold sevenR
    rw [if_neg (by simp only [List.length_append]; omega), Int.toNat_natCast, List.append_assoc, List.drop_left, sleb_sevens r 9 n (by rw [e9]; omega) (by rw [e9]; omega)]
    simp only
    rw [if_neg (by omega)]
  obtain ⟨hv1, hv2⟩ := sleb_val 9 n (by rw [e9]; omega) (by rw [e9]; omega)
  have hlen : (low7 (sleb 9 n)).length = (sleb 9 n).length := by simp [low7]
  have hlt := low7_lt (sleb 9 n)
  unfold readSlebR
  rw [hs]
  simp only
  rw [if_neg (by simp), ← hlen]
  rw [← hlen] at hl
  generalize low7 (sleb 9 n) = q at *
  have hval : slebVal q = n := by
    unfold slebVal
    by_cases h64 : 64 ≤ q[q.length - 1]?.getD 0
    · rw [if_pos h64] at hv2
      by_cases h10 : q.length < 10
      · rw [if_pos ⟨h10, h64⟩, ← hv2]; simp
      · rw [if_neg (by omega), wrapEq, wrap64]
        have hq : q.length = 10 := by omega
        rw [hq] at hv2
        have e10 : (128 : Nat) ^ 10 = 1180591620717411303424 := by decide
        rw [e10] at hv2
        omega
    · rw [if_neg h64] at hv2
      rw [if_neg (fun h => h64 h.2), wrapEq, wrap64]
      omega
  rw [if_neg, hval]
  intro ⟨hq, hd0, hd127⟩
  have hd := lebVal_digit q 9
  have hdlt : q[9]?.getD 0 < 128 := hlt _ (by rw [List.getElem?_eq_getElem (by omega)]; exact List.getElem_mem _)
  have hsn := lebVal_snoc (q.take 9) (q[9]?.getD 0)
  have htk : q.take 9 ++ [q[9]?.getD 0] = q := by
    rw [← take_snoc' q 9 _ (by rw [List.getElem?_eq_getElem (by omega)]; rfl), List.take_of_length_le (by omega)]
  have htl : (q.take 9).length = 9 := by rw [List.length_take]; omega
  rw [htk, htl, e9] at hsn
  have hr := lebVal_lt (q.take 9) fun d hd => hlt d (List.mem_of_mem_take hd)
  rw [htl, e9] at hr
  have e10 : (128 : Nat) ^ 10 = 1180591620717411303424 := by decide
  rw [hq, e10] at hv2
  simp only [show 10 - 1 = 9 from rfl] at hv2
  split at hv2 <;> omega
end Go.Proofs.Ytbbpeggljhkjhaa
