/-
  Memory of pages: plain laws of what is set and read.
-/
import Derived.Test.YtklgbkhnflodaaaPgLaw
namespace Go.Proofs.Ytklgbkhnflodaaa
open Go.RowKit Go.Fd

theorem numLE_fix (n s : Nat) : numLE (fixed n s) = n % 256 ^ s := by
  induction s generalizing n with
  | zero => simp [fixed, numLE, Nat.mod_one]
  | succ s ih =>
    rw [fixed, numLE, ih, u8_of, Nat.pow_succ, Nat.mul_comm (256 ^ s) 256, Nat.mod_mul]

theorem okV_set (V : Vw) (a : Nat) (x : UInt8) (r k : Nat) : okV r (findV (setBV V a x) k) = okV r (findV V k) := by
  rw [findV_set]
  cases findV V k with
  | none => rfl
  | some p =>
    simp only [Option.map_some]
    split <;> rfl
theorem okV_setV (r k : Nat) : ∀ (l : List UInt8) (V : Vw) (a : Nat), okV r (findV (setV V a l) k) = okV r (findV V k)
  | [], _, _ => rfl
  | x :: l, V, a => by rw [setV, okV_setV r k l, okV_set]
theorem ok_set {V : Vw} (h : OkV V) (a : Nat) (x : UInt8) : OkV (setBV V a x) := by
  have hk : (setBV V a x).map (·.1) = V.map (·.1) := by
    unfold setBV
    rw [List.map_map]
    refine List.map_congr_left fun p _ => ?_
    simp only [Function.comp_apply]
    split <;> rfl
  refine ⟨by rw [hk]; exact h.nd, fun p hp => ?_⟩
  obtain ⟨q, hq, rfl⟩ := List.mem_map.1 hp
  obtain ⟨h1, h2, h3⟩ := h.pg q hq
  split
  · exact ⟨h1, h2, by simp only; rw [List.length_set]; exact h3⟩
  · exact ⟨h1, h2, h3⟩
theorem ok_setV : ∀ (l : List UInt8) {V : Vw} (_ : OkV V) (a : Nat), OkV (setV V a l)
  | [], _, h, _ => h
  | x :: l, _, h, a => ok_setV l (ok_set h a x) (a + 1)

theorem getV_set {V : Vw} (h : OkV V) (a : Nat) (x : UInt8) (he : (findV V (a / 4096)).isSome = true) (j : Nat) : getV (setBV V a x) j = if j = a then x else getV V j := by
  unfold getV
  rw [findV_set]
  cases hf : findV V (j / 4096) with
  | none =>
    have : j ≠ a := fun e => by subst e; rw [hf] at he; cases he
    simp [this]
  | some p =>
    have hl := (h.pg p (findV_key hf).1).2.2
    simp only [Option.map_some]
    by_cases hj : j = a
    · subst hj
      rw [if_pos rfl, if_pos rfl]
      rw [List.getElem?_set_self (by rw [hl]; exact Nat.mod_lt _ (by omega))]
      rfl
    · rw [if_neg hj]
      by_cases hk : j / 4096 = a / 4096
      · rw [if_pos hk]
        simp only [List.getElem?_set]
        rw [if_neg (fun e => hj (by omega))]
      · rw [if_neg hk]
theorem getV_setV : ∀ (l : List UInt8) {V : Vw} (_ : OkV V) (a : Nat) (_ : ∀ i, i < l.length → (findV V ((a + i) / 4096)).isSome = true) (j : Nat),
    getV (setV V a l) j = if a ≤ j ∧ j < a + l.length then l[j - a]?.getD 0 else getV V j
  | [], V, _, a, _, j => by rw [setV, if_neg (by rw [List.length_nil]; omega)]
  | x :: l, V, h, a, he, j => by
    rw [setV, getV_setV l (ok_set h a x) (a + 1) (fun i hi => by
      have := he (i + 1) (by simp; omega)
      rw [show a + (i + 1) = a + 1 + i by omega] at this
      rw [findV_set]; simpa using this), getV_set h a x (he 0 (by simp))]
    by_cases h1 : a + 1 ≤ j ∧ j < a + 1 + l.length
    · rw [if_pos h1, if_pos (by simp; omega), show j - a = (j - (a + 1)) + 1 by omega, List.getElem?_cons_succ]
    · rw [if_neg h1]
      by_cases h2 : j = a
      · subst h2
        rw [if_pos rfl, if_pos (by simp), Nat.sub_self]
        rfl
      · rw [if_neg h2, if_neg (by simp at h1 ⊢; omega)]

/-- Bytes that may be read and written. -/
structure Good (V : Vw) (a n : Nat) : Prop where
  ok : OkV V
  at_ : a + n ≤ 18446744073709551616
  pg : ∀ i, i < n → (findV V ((a + i) / 4096)).isSome = true ∧ okV 0 (findV V ((a + i) / 4096)) = true ∧ okV 2 (findV V ((a + i) / 4096)) = true ∧ okV 4 (findV V ((a + i) / 4096)) = true

theorem Good.set {V : Vw} {a n : Nat} (h : Good V a n) (l : List UInt8) (b : Nat) : Good (setV V b l) a n :=
  ⟨ok_setV l h.ok b, h.at_, fun i hi => by
    obtain ⟨h1, h2, h3, h4⟩ := h.pg i hi
    exact ⟨by rw [findV_setV_some]; exact h1, by rw [okV_setV]; exact h2, by rw [okV_setV]; exact h3, by rw [okV_setV]; exact h4⟩⟩
theorem Good.sub {V : Vw} {a n : Nat} (h : Good V a n) (b m : Nat) (hm : b + m ≤ n) : Good V (a + b) m :=
  ⟨h.ok, by have := h.at_; omega, fun i hi => by rw [Nat.add_assoc]; exact h.pg (b + i) (by omega)⟩
theorem Good.may {V : Vw} {a n : Nat} (h : Good V a n) : mayV V a n 0 = true ∧ mayV V a n 2 = true ∧ mayV V a n 4 = true :=
  ⟨(mayV_iff ..).2 (.inr ⟨h.at_, fun i hi => (h.pg i hi).2.1⟩), (mayV_iff ..).2 (.inr ⟨h.at_, fun i hi => (h.pg i hi).2.2.1⟩), (mayV_iff ..).2 (.inr ⟨h.at_, fun i hi => (h.pg i hi).2.2.2⟩)⟩
theorem Good.setR {V : Vw} {a : Nat} {l : List UInt8} (h : Good V a l.length) : setR V a l = (setV V a l, 0) := by
  unfold Go.Proofs.Ytklgbkhnflodaaa.setR
  rw [if_pos h.may.1]
theorem Good.storeR {V : Vw} {a n : Nat} (h : Good V a n) (hs : szB n = true) (x : Nat) : storeR V a n x = (setV V a (fixed x n), 0) := by
  unfold Go.Proofs.Ytklgbkhnflodaaa.storeR
  rw [if_pos hs, Int.toNat_natCast, if_pos h.may.2.1]
theorem Good.loadR {V : Vw} {a n : Nat} (h : Good V a n) (hs : szB n = true) : loadR V a n = (numLE (bytesV V a n), 0) := by
  unfold Go.Proofs.Ytklgbkhnflodaaa.loadR
  rw [if_pos hs, Int.toNat_natCast, if_pos h.may.2.2]
theorem Good.bytesR {V : Vw} {a n : Nat} (h : Good V a n) (hn : n ≤ 1048576) : bytesR V a n = (bytesV V a n, 0) := by
  unfold Go.Proofs.Ytklgbkhnflodaaa.bytesR
  rw [if_neg (by omega), Int.toNat_natCast, if_pos h.may.2.2]

/-- What was set is read. -/
theorem bytesV_set {V : Vw} {a : Nat} {l : List UInt8} (h : Good V a l.length) : bytesV (setV V a l) a l.length = l := by
  apply List.ext_getElem?
  intro i
  by_cases hi : i < l.length
  · rw [bytesV, List.getElem?_map, List.getElem?_range hi, Option.map_some, getV_setV l h.ok a (fun j hj => (h.pg j hj).1), if_pos (by omega), Nat.add_sub_cancel_left, List.getElem?_eq_getElem hi]
    rfl
  · rw [List.getElem?_eq_none (by rw [bytesV_len]; omega), List.getElem?_eq_none (by omega)]

/-- A fresh stretch. -/
theorem good_new (a : Nat) (ha : a ≤ 1125899906842624) : Good (mapV 6 [] (a / 4096) ((a + 32 - 1) / 4096 + 1 - a / 4096)) a 32 := by
  have hfind : ∀ (n : Nat) (V : Vw) (k j : Nat), (∀ x, findV V j = some x → x.2.1 = 6) → (k ≤ j ∧ j < k + n ∨ (findV V j).isSome = true) → ∃ x, findV (mapV 6 V k n) j = some x ∧ x.2.1 = 6 := by
    intro n
    induction n with
    | zero =>
      intro V k j h1 h2
      rcases h2 with h2 | h2
      · omega
      · rw [mapV]
        cases hf : findV V j with
        | none => rw [hf] at h2; cases h2
        | some x => exact ⟨x, rfl, h1 x hf⟩
    | succ n ih =>
      intro V k j h1 h2
      rw [mapV]
      refine ih (addP V k 6) (k + 1) j ?_ ?_
      · intro x hx
        rw [findV_add] at hx
        by_cases hj : j = k
        · subst hj
          rw [if_pos rfl] at hx
          cases hf : findV V j with
          | none => rw [hf] at hx; cases hx; rfl
          | some y => rw [hf] at hx; cases hx; simp only; rw [h1 y hf]; rfl
        · rw [if_neg hj] at hx
          exact h1 x hx
      · by_cases hj : j = k
        · right
          rw [findV_add, if_pos hj]
          rfl
        · rcases h2 with h2 | h2
          · left; omega
          · right
            rw [findV_add, if_neg hj]
            exact h2
  have hok : ∀ (n : Nat) (V : Vw) (k : Nat), OkV V → k + n < 18446744073709551616 → OkV (mapV 6 V k n) := by
    intro n
    induction n with
    | zero => intro V k h _; exact h
    | succ n ih =>
      intro V k h hk
      rw [mapV]
      refine ih _ _ ?_ (by omega)
      unfold addP
      split
      · refine ⟨?_, fun x hx => ?_⟩
        · rw [List.map_map]
          have : ((fun x : Nat × Nat × List UInt8 => x.1) ∘ fun x : Nat × Nat × List UInt8 => if x.1 = k then (x.1, x.2.1 ||| 6, x.2.2) else x) = fun x => x.1 := by
            funext x; simp only [Function.comp_apply]; split <;> rfl
          rw [this]
          exact h.nd
        · obtain ⟨y, hy, rfl⟩ := List.mem_map.1 hx
          obtain ⟨g1, g2, g3⟩ := h.pg y hy
          split
          · exact ⟨g1, or_lt8 g2 (by omega), g3⟩
          · exact ⟨g1, g2, g3⟩
      · refine ⟨?_, fun x hx => ?_⟩
        · rw [List.map_append]
          refine List.nodup_append.2 ⟨h.nd, by simp, fun x hx y hy => ?_⟩
          simp at hy
          subst hy
          intro e
          subst e
          contradiction
        · rcases List.mem_append.1 hx with hx | hx
          · exact h.pg x hx
          · obtain rfl := List.mem_singleton.1 hx
            exact ⟨by simp only; omega, (by decide : (6 : Nat) < 8), zs_len⟩
  refine ⟨hok _ _ _ ⟨by simp, by simp⟩ (by omega), by omega, fun i hi => ?_⟩
  obtain ⟨x, h1, h2⟩ := hfind ((a + 32 - 1) / 4096 + 1 - a / 4096) [] (a / 4096) ((a + i) / 4096) (fun x hx => by cases hx) (.inl (by omega))
  rw [h1]
  simp only [okV, h2]
  exact ⟨rfl, rfl, rfl, rfl⟩
end Go.Proofs.Ytklgbkhnflodaaa
