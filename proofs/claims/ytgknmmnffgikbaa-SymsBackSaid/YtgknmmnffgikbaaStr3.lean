/-
  Tables of names are built: the reference's Build.
-/
import Derived.Test.YtgknmmnffgikbaaStr2
namespace Go.Proofs.Ytgknmmnffgikbaa
open Go.RowKit Go.Fd

theorem snoc_ind {α : Type} {P : List α → Prop} (h0 : P []) (h1 : ∀ l x, P l → P (l ++ [x])) (l : List α) : P l := by
  have h : ∀ l : List α, P l.reverse := by
    intro l
    induction l with
    | nil => exact h0
    | cons x l ih => rw [List.reverse_cons]; exact h1 _ _ ih
  have := h l.reverse
  rwa [List.reverse_reverse] at this
theorem lkp_cons {κ ν : Type} [DecidableEq κ] (q : κ) (n : ν) (A : List (κ × ν)) (x : κ) : lkp ((q, n) :: A) x = if x = q then some n else lkp A x := by
  unfold lkp
  rw [List.lookup_cons]
  by_cases e : x = q
  · simp [e]
  · rw [show (x == q) = false by simpa using e, if_neg e]
theorem lkp_other {κ ν : Type} [DecidableEq κ] {x s : κ} (h : x ≠ s) (n : ν) (A : List (κ × ν)) : lkp (A ++ [(s, n)]) x = lkp A x := by
  induction A with
  | nil => rw [List.nil_append, lkp_cons, if_neg h]
  | cons q A ih =>
    obtain ⟨q, m⟩ := q
    rw [List.cons_append, lkp_cons, lkp_cons, ih]

theorem step_at (t : Tab) (s x : List UInt8) : lkp (stepB t s).at_ x = if x = s then some (match lkp t.at_ s with | some p => p | none => t.tab.length) else lkp t.at_ x := by
  unfold stepB
  cases h : lkp t.at_ s with
  | some p =>
    simp only
    by_cases e : x = s
    · subst e; rw [if_pos rfl, h]
    · rw [if_neg e]
  | none =>
    simp only
    by_cases e : x = s
    · subst e; rw [if_pos rfl, lkp_app h]
    · rw [if_neg e]
      exact lkp_other e _ _
theorem step_out (t : Tab) (s : List UInt8) : (stepB t s).out = t.out ++ [match lkp t.at_ s with | some p => p | none => t.tab.length] := by
  unfold stepB
  cases lkp t.at_ s <;> rfl

/-- Each name's place is the one that is told. -/
theorem build_places (names : List (List UInt8)) : (buildT names).out.length = names.length ∧ (∀ (j : Nat) (s : List UInt8) (p : Nat), names[j]? = some s → (buildT names).out[j]? = some p → lkp (buildT names).at_ s = some p) ∧ (∀ s, s ∉ names → s ≠ [] → lkp (buildT names).at_ s = none) ∧ lkp (buildT names).at_ [] = some 0 := by
  refine snoc_ind (P := fun names => (buildT names).out.length = names.length ∧ (∀ (j : Nat) (s : List UInt8) (p : Nat), names[j]? = some s → (buildT names).out[j]? = some p → lkp (buildT names).at_ s = some p) ∧ (∀ s, s ∉ names → s ≠ [] → lkp (buildT names).at_ s = none) ∧ lkp (buildT names).at_ [] = some 0) ?_ (fun names x ih => ?_) names
  · refine ⟨rfl, fun j s p h => by simp at h, fun s _ h => ?_, ?_⟩
    · show lkp [([], 0)] s = none
      rw [lkp_cons, if_neg h]; rfl
    · show lkp [([], 0)] [] = some 0
      rw [lkp_cons, if_pos rfl]
  · obtain ⟨h1, h2, h3, h4⟩ := ih
    rw [buildT_snoc]
    refine ⟨by rw [step_out, List.length_append, List.length_append, h1]; rfl, fun j s p hj hp => ?_, fun s hs hne => ?_, ?_⟩
    · rw [step_at]
      rw [step_out] at hp
      by_cases hjl : j < names.length
      · rw [List.getElem?_append_left hjl] at hj
        rw [List.getElem?_append_left (by omega)] at hp
        have := h2 j s p hj hp
        by_cases e : s = x
        · subst e; rw [if_pos rfl, this]
        · rw [if_neg e, this]
      · have hje : j = names.length := by
          have := (List.getElem?_eq_some_iff.1 hj).1
          simp at this
          omega
        subst hje
        rw [List.getElem?_append_right (Nat.le_refl _), Nat.sub_self] at hj
        rw [← h1, List.getElem?_append_right (Nat.le_refl _), Nat.sub_self] at hp
        simp at hj hp
        subst hj
        rw [if_pos rfl, hp]
    · rw [step_at, if_neg (by intro e; exact hs (by simp [e])), h3 s (fun hm => hs (by simp [hm])) hne]
    · rw [step_at]
      by_cases e : ([] : List UInt8) = x
      · subst e; rw [if_pos rfl, h4]
      · rw [if_neg e, h4]

theorem step_mono (t : Tab) (s : List UInt8) : t.tab.length ≤ (stepB t s).tab.length := by
  unfold stepB
  split <;> simp <;> omega
theorem build_mono (a b : List (List UInt8)) : (buildT a).tab.length ≤ (buildT (a ++ b)).tab.length := by
  refine snoc_ind (P := fun b => (buildT a).tab.length ≤ (buildT (a ++ b)).tab.length) ?_ (fun b x ih => ?_) b
  · rw [List.append_nil]; exact Nat.le_refl _
  · rw [← List.append_assoc, buildT_snoc]
    exact Nat.le_trans ih (step_mono _ _)
/-- No place lies behind the table. -/
theorem build_bound (names : List (List UInt8)) : (∀ p ∈ (buildT names).out, p ≤ (buildT names).tab.length) ∧ (∀ s p, lkp (buildT names).at_ s = some p → p ≤ (buildT names).tab.length) := by
  refine snoc_ind (P := fun names => (∀ p ∈ (buildT names).out, p ≤ (buildT names).tab.length) ∧ (∀ s p, lkp (buildT names).at_ s = some p → p ≤ (buildT names).tab.length)) ?_ (fun names x ih => ?_) names
  · refine ⟨(fun p h => by cases h), fun s p h => ?_⟩
    have h' : lkp [([], 0)] s = some p := h
    rw [lkp_cons] at h'
    split at h'
    · cases h'; exact Nat.zero_le _
    · cases h'
  · obtain ⟨h1, h2⟩ := ih
    have hm := step_mono (buildT names) x
    rw [buildT_snoc]
    have hx : (match lkp (buildT names).at_ x with | some p => p | none => (buildT names).tab.length) ≤ (stepB (buildT names) x).tab.length := by
      cases hl : lkp (buildT names).at_ x with
      | some p => exact Nat.le_trans (h2 x p hl) hm
      | none => exact hm
    refine ⟨fun p hp => ?_, fun s p hp => ?_⟩
    · rw [step_out] at hp
      rcases List.mem_append.1 hp with hp | hp
      · exact Nat.le_trans (h1 p hp) hm
      · rw [List.mem_singleton.1 hp]; exact hx
    · rw [step_at] at hp
      split at hp
      · cases hp; exact hx
      · exact Nat.le_trans (h2 s p hp) hm
end Go.Proofs.Ytgknmmnffgikbaa
