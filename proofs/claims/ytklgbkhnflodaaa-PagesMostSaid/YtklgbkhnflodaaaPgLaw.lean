/-
  Memory of pages: plain laws of what is mapped.
-/
import Derived.Test.YtklgbkhnflodaaaPg8
namespace Go.Proofs.Ytklgbkhnflodaaa
open Go.RowKit Go.Fd

theorem findV_key {V : Vw} {k : Nat} {x : Nat × Nat × List UInt8} (h : findV V k = some x) : x ∈ V ∧ x.1 = k := ⟨List.mem_of_find?_eq_some h, by have := List.find?_some h; simpa using this⟩
theorem findV_none {V : Vw} {k : Nat} : findV V k = none ↔ k ∉ V.map (·.1) := by
  unfold findV
  rw [List.find?_eq_none]
  constructor
  · intro h hm
    obtain ⟨x, hx, rfl⟩ := List.mem_map.1 hm
    have := h x hx
    simp at this
  · intro h x hx e
    exact h (List.mem_map.2 ⟨x, hx, by simpa using e⟩)

theorem findV_add (V : Vw) (k r j : Nat) : findV (addP V k r) j = if j = k then some (match findV V k with | some x => (x.1, x.2.1 ||| r, x.2.2) | none => (k, r, zs)) else findV V j := by
  unfold addP
  by_cases hk : k ∈ V.map (·.1)
  · rw [if_pos hk]
    have hf : ∀ j, findV (V.map fun x => if x.1 = k then (x.1, x.2.1 ||| r, x.2.2) else x) j = (findV V j).map fun x => if x.1 = k then (x.1, x.2.1 ||| r, x.2.2) else x := by
      intro j
      unfold findV
      clear hk
      induction V with
      | nil => rfl
      | cons p V ih =>
        rw [List.map_cons, List.find?_cons, List.find?_cons]
        by_cases h1 : p.1 = j
        · rw [show ((if p.1 = k then (p.1, p.2.1 ||| r, p.2.2) else p).1 == j) = true by split <;> simpa using h1, show (p.1 == j) = true by simpa using h1]
          rfl
        · rw [show ((if p.1 = k then (p.1, p.2.1 ||| r, p.2.2) else p).1 == j) = false by split <;> simpa using h1, show (p.1 == j) = false by simpa using h1]
          exact ih
    rw [hf]
    by_cases hj : j = k
    · subst hj
      rw [if_pos rfl]
      cases h : findV V j with
      | none => exact absurd hk (findV_none.1 h)
      | some x =>
        have := (findV_key h).2
        simp [this]
    · rw [if_neg hj]
      cases h : findV V j with
      | none => rfl
      | some x =>
        have := (findV_key h).2
        simp [this, hj]
  · rw [if_neg hk]
    have h0 := findV_none.2 hk
    by_cases hj : j = k
    · subst hj
      rw [if_pos rfl, h0]
      unfold findV at *
      rw [List.find?_append, h0]
      simp
    · rw [if_neg hj]
      unfold findV
      rw [List.find?_append]
      have : List.find? (fun x => x.1 == j) [(k, r, zs)] = none := by simp; exact fun e => hj e.symm
      rw [this, Option.or_none]

theorem rights_add (V : Vw) (k r j : Nat) : rightsV (addP V k r) j = if j = k then rightsV V j ||| r else rightsV V j := by
  unfold rightsV
  rw [findV_add]
  by_cases hj : j = k
  · subst hj
    rw [if_pos rfl, if_pos rfl]
    cases findV V j <;> simp
  · rw [if_neg hj, if_neg hj]
theorem rights_map (r : Nat) : ∀ (n : Nat) (V : Vw) (k j : Nat), rightsV (mapV r V k n) j = if k ≤ j ∧ j < k + n then rightsV V j ||| r else rightsV V j
  | 0, V, k, j => by rw [mapV, if_neg (by omega)]
  | n + 1, V, k, j => by
    rw [mapV, rights_map r n, rights_add]
    by_cases h : j = k
    · subst h
      rw [if_neg (by omega), if_pos rfl, if_pos (by omega)]
    · rw [if_neg h]
      by_cases h2 : k + 1 ≤ j ∧ j < k + 1 + n
      · rw [if_pos h2, if_pos (by omega)]
      · rw [if_neg h2, if_neg (by omega)]
theorem length_add {V : Vw} {k : Nat} (r : Nat) (h : k ∉ V.map (·.1)) : (addP V k r).length = V.length + 1 := by unfold addP; rw [if_neg h, List.length_append]; rfl
theorem key_add {V : Vw} {k r j : Nat} : j ∈ (addP V k r).map (·.1) ↔ j ∈ V.map (·.1) ∨ j = k := by
  have h1 : ∀ (W : Vw) (i : Nat), i ∈ W.map (·.1) ↔ (findV W i).isSome = true := fun W i => by
    cases h : findV W i with
    | none => simp [findV_none.1 h]
    | some x =>
      have := findV_key h
      simp only [Option.isSome_some, iff_true]
      exact List.mem_map.2 ⟨x, this⟩
  rw [h1, h1, findV_add]
  by_cases hj : j = k
  · simp [hj]
  · simp [hj]
theorem length_map (r : Nat) : ∀ (n : Nat) (V : Vw) (k : Nat), (∀ j, k ≤ j → j < k + n → j ∉ V.map (·.1)) → (mapV r V k n).length = V.length + n
  | 0, V, k, _ => rfl
  | n + 1, V, k, h => by
    rw [mapV, length_map r n, length_add r (h k (Nat.le_refl _) (by omega))]
    · omega
    · intro j h1 h2 hm
      rcases key_add.1 hm with hm | hm
      · exact h j (by omega) (by omega) hm
      · omega
theorem key_map {r : Nat} : ∀ {n : Nat} {V : Vw} {k j : Nat}, j ∈ (mapV r V k n).map (·.1) ↔ j ∈ V.map (·.1) ∨ (k ≤ j ∧ j < k + n)
  | 0, V, k, j => by rw [mapV]; constructor; exact .inl; rintro (h | h); exact h; omega
  | n + 1, V, k, j => by
    rw [mapV, key_map, key_add]
    constructor
    · rintro ((h | h) | h)
      · exact .inl h
      · exact .inr (by omega)
      · exact .inr (by omega)
    · rintro (h | h)
      · exact .inl (.inl h)
      · by_cases e : j = k
        · exact .inl (.inr e)
        · exact .inr (by omega)
/-- One page alone is asked. -/
theorem clash_one {V : Vw} {k r : Nat} (hn : (V.map (·.1)).Nodup) (hk : k ∈ V.map (·.1)) : clashV V k k r = (bothB r || bothB (rightsV V k ||| r)) := by
  unfold clashV
  congr 1
  obtain ⟨x, hx, rfl⟩ := List.mem_map.1 hk
  have hf : findV V x.1 = some x := by
    cases h : findV V x.1 with
    | none => exact absurd hk (findV_none.1 h)
    | some y =>
      have := findV_key h
      rw [nodup_inj hn this.1 hx this.2]
  have hr : rightsV V x.1 = x.2.1 := by unfold rightsV; rw [hf]
  rw [hr, Bool.eq_iff_iff, List.any_eq_true]
  constructor
  · rintro ⟨y, hy, h⟩
    rw [Bool.and_eq_true] at h
    have hy1 : y.1 = x.1 := by have := h.1; unfold inV at this; simp at this; omega
    rw [nodup_inj hn hy hx hy1] at h
    exact h.2
  · intro h
    exact ⟨x, hx, by simp [inV, h]⟩
theorem there_none {V : Vw} {f l : Nat} (h : ∀ j, f ≤ j → j ≤ l → j ∉ V.map (·.1)) : thereV V f l = 0 := by
  unfold thereV
  rw [List.countP_eq_zero]
  intro x hx hi
  unfold inV at hi
  simp at hi
  exact h x.1 hi.1 hi.2 (List.mem_map.2 ⟨x, hx, rfl⟩)
theorem clash_none {V : Vw} {f l r : Nat} (h : ∀ j, f ≤ j → j ≤ l → j ∉ V.map (·.1)) : clashV V f l r = bothB r := by
  unfold clashV
  have : (V.any fun x => inV f l x && bothB (x.2.1 ||| r)) = false := by
    rw [List.any_eq_false]
    intro x hx hi
    rw [Bool.and_eq_true] at hi
    have h1 := hi.1
    unfold inV at h1
    simp at h1
    exact h x.1 h1.1 h1.2 (List.mem_map.2 ⟨x, hx, rfl⟩)
  rw [this, Bool.or_false]
end Go.Proofs.Ytklgbkhnflodaaa
