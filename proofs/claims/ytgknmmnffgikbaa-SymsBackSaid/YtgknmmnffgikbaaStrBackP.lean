/-
  Tables of names: what follows: each name is found at its place.
-/
import Derived.Test.YtgknmmnffgikbaaStrAll
namespace Go.Proofs.Ytgknmmnffgikbaa
open Go.RowKit Go.Fd

/-- At a place lies a name with a 0 behind. -/
def InTab (T : List UInt8) (p : Nat) (s : List UInt8) : Prop := ∃ a b, T = a ++ (s ++ 0 :: b) ∧ a.length = p

theorem InTab.app {T : List UInt8} {p : Nat} {s : List UInt8} (h : InTab T p s) (x : List UInt8) : InTab (T ++ x) p s := by
  obtain ⟨a, b, rfl, hp⟩ := h
  exact ⟨a, b ++ x, by simp, hp⟩
theorem InTab.lt {T : List UInt8} {p : Nat} {s : List UInt8} (h : InTab T p s) : p + s.length < T.length := by
  obtain ⟨a, b, rfl, hp⟩ := h
  simp; omega
theorem InTab.drop {T : List UInt8} {p : Nat} {s : List UInt8} (h : InTab T p s) : ∃ b, T.drop p = s ++ 0 :: b := by
  obtain ⟨a, b, rfl, rfl⟩ := h
  exact ⟨b, by simp⟩
theorem upto0_name (s b : List UInt8) (h : (0 : UInt8) ∉ s) : upto0 (s ++ 0 :: b) = some s := by
  induction s with
  | nil => simp [upto0]
  | cons c s ih =>
    simp only [List.mem_cons, not_or] at h
    rw [List.cons_append, upto0, if_neg (fun e => h.1 e.symm), ih h.2]
    rfl
theorem InTab.upto {T : List UInt8} {p : Nat} {s : List UInt8} (h : InTab T p s) (h0 : (0 : UInt8) ∉ s) : upto0 (T.drop p) = some s := by
  obtain ⟨b, hb⟩ := h.drop
  rw [hb, upto0_name s b h0]
theorem mayS_no0 {s : List UInt8} (h : mayS s = true) : (0 : UInt8) ∉ s := by unfold mayS at h; simp at h; exact h.2

theorem build_in (names : List (List UInt8)) : ∀ s p, lkp (buildT names).at_ s = some p → InTab (buildT names).tab p s := by
  refine snoc_ind (P := fun names => ∀ s p, lkp (buildT names).at_ s = some p → InTab (buildT names).tab p s) ?_ (fun names x ih => ?_) names
  · intro s p h
    have h' : lkp [(([] : List UInt8), 0)] s = some p := h
    rw [lkp_cons] at h'
    by_cases e : s = []
    · rw [if_pos e] at h'
      cases h'
      subst e
      exact ⟨[], [], rfl, rfl⟩
    · rw [if_neg e] at h'
      exact absurd h' (by simp [lkp])
  · intro s p h
    rw [buildT_snoc] at h ⊢
    rw [step_at] at h
    unfold stepB
    cases hx : lkp (buildT names).at_ x with
    | some q =>
      rw [hx] at h
      by_cases e : s = x
      · rw [if_pos e] at h
        cases h
        subst e
        exact ih s _ hx
      · rw [if_neg e] at h
        exact ih s p h
    | none =>
      rw [hx] at h
      by_cases e : s = x
      · rw [if_pos e] at h
        cases h
        subst e
        exact ⟨(buildT names).tab, [], by simp, rfl⟩
      · rw [if_neg e] at h
        have := ((ih s p h).app x).app [0]
        exact this

theorem at_place {T : List UInt8} {p : Nat} {s : List UInt8} (h : InTab T p s) (hs : mayS s = true) : atR T p = (s, 0) := by
  unfold atR
  have hl := h.lt
  rw [if_neg (by omega), Int.toNat_natCast, h.upto (mayS_no0 hs)]
  have := mayS_len hs
  simp
  omega

/-- The first of the places there are. -/
theorem first_occ {l sub : List UInt8} : ∀ p : Nat, Lib.occAt l sub p = true → ∃ k, k ≤ p ∧ Lib.occAt l sub k = true ∧ ∀ j, j < k → Lib.occAt l sub j = false := by
  intro p
  induction p using Nat.strongRecOn with
  | ind p ih =>
    intro h
    by_cases hn : ∃ j, j < p ∧ Lib.occAt l sub j = true
    · obtain ⟨j, hj, ho⟩ := hn
      obtain ⟨k, hk, h1, h2⟩ := ih j hj ho
      exact ⟨k, by omega, h1, h2⟩
    · refine ⟨p, Nat.le_refl _, h, fun j hj => ?_⟩
      cases hb : Lib.occAt l sub j with
      | false => rfl
      | true => exact absurd ⟨j, hj, hb⟩ hn

theorem find_place {T : List UInt8} {p : Nat} {s : List UInt8} (h : InTab T p s) (hs : mayS s = true) : ∃ k : Nat, k ≤ p ∧ findR T s = ((k : Int), true) := by
  have ho : Lib.occAt T (s ++ [0]) p = true := by
    unfold Lib.occAt
    obtain ⟨b, hb⟩ := h.drop
    rw [List.isPrefixOf_iff_prefix, hb]
    exact ⟨b, by simp⟩
  obtain ⟨k, hk, h1, h2⟩ := first_occ p ho
  have := Lib.index_first (by have := h.lt; omega) h1 h2
  refine ⟨k, hk, ?_⟩
  unfold findR
  rw [if_pos hs, this, if_pos (by omega)]

/-- How long a table may be. -/
def mostN (l : List (List UInt8)) : Nat := 1 + (l.map fun s => s.length + 1).sum
theorem mostN_snoc (l : List (List UInt8)) (s : List UInt8) : mostN (l ++ [s]) = mostN l + s.length + 1 := by simp [mostN]; omega
theorem mostN_le (l : List (List UInt8)) (h : ∀ s ∈ l, s.length ≤ 128) : mostN l ≤ 1 + 129 * l.length := by
  unfold mostN
  induction l with
  | nil => simp
  | cons s l ih =>
    have h1 := h s (by simp)
    have h2 := ih (fun x hx => h x (by simp [hx]))
    simp only [List.map_cons, List.sum_cons, List.length_cons]
    omega
theorem build_most (names : List (List UInt8)) : (buildT names).tab.length ≤ mostN names := by
  refine snoc_ind (P := fun names => (buildT names).tab.length ≤ mostN names) ?_ (fun names x ih => ?_) names
  · decide
  · have := (step_len (buildT names) x).1
    rw [buildT_snoc, mostN_snoc]
    omega
theorem build_head (names : List (List UInt8)) : ∃ b, (buildT names).tab = 0 :: b := by
  obtain ⟨a, b, h, ha⟩ := build_in names [] 0 (build_places names).2.2.2
  cases a with
  | nil => exact ⟨b, by simpa using h⟩
  | cons c a => simp at ha

/-- What is known where a table was built. -/
theorem build_ok {names : List (List UInt8)} (h : (buildR names).2.2 = 0) : names.all mayS = true ∧ buildR names = ((buildT names).tab, (buildT names).out, 0) := by
  unfold buildR at h ⊢
  by_cases h1 : names.all mayS = true
  · rw [if_pos h1] at h ⊢
    by_cases h2 : 1048576 < (buildT names).tab.length
    · rw [if_pos h2] at h
      simp at h
    · rw [if_neg h2]
      exact ⟨h1, rfl⟩
  · rw [if_neg h1] at h
    simp at h
theorem build_bad {names : List (List UInt8)} (h : (buildR names).2.2 ≠ 0) : (buildR names).1 = [] ∧ (buildR names).2.1 = [] := by
  unfold buildR at h ⊢
  by_cases h1 : names.all mayS = true
  · rw [if_pos h1] at h ⊢
    by_cases h2 : 1048576 < (buildT names).tab.length
    · rw [if_pos h2]
      exact ⟨rfl, rfl⟩
    · rw [if_neg h2] at h
      simp at h
  · rw [if_neg h1]
    exact ⟨rfl, rfl⟩

/-- At each name: its place. -/
theorem build_at {names : List (List UInt8)} (h : names.all mayS = true) {i : Nat} {s : List UInt8} (hi : names[i]? = some s) : ∃ p, (buildT names).out[i]? = some p ∧ lkp (buildT names).at_ s = some p ∧ InTab (buildT names).tab p s ∧ mayS s = true := by
  have hp := build_places names
  have hlt : i < names.length := (List.getElem?_eq_some_iff.1 hi).1
  have ho : (buildT names).out[i]? = some ((buildT names).out[i]'(by rw [hp.1]; exact hlt)) := List.getElem?_eq_getElem _
  have hl := hp.2.1 i s _ hi ho
  exact ⟨_, ho, hl, build_in names s _ hl, List.all_eq_true.1 h s (List.mem_of_getElem? hi)⟩

/-- Equal names lie at one place, unlike ones at unlike places. -/
theorem build_same {names : List (List UInt8)} {s t : List UInt8} {p q : Nat} (hs : lkp (buildT names).at_ s = some p) (ht : lkp (buildT names).at_ t = some q) (h1 : InTab (buildT names).tab p s) (h2 : InTab (buildT names).tab q t) (m1 : mayS s = true) (m2 : mayS t = true) : s = t ↔ p = q := by
  constructor
  · rintro rfl
    rw [hs] at ht
    exact Option.some.inj ht
  · rintro rfl
    have a := h1.upto (mayS_no0 m1)
    rw [h2.upto (mayS_no0 m2)] at a
    exact (Option.some.inj a).symm
end Go.Proofs.Ytgknmmnffgikbaa
