/-
  Symbols as bytes: plain words, no program in sight.
-/
import Derived.Test.YtgknmmnffgikbaaSym6
namespace Go.Fd
/-- Does no local symbol stand behind one that is not? -/
def ordB (l : List SymM) : Bool := (l.zip l.tail).all fun p => decide (p.2.bind ≠ 0) || decide (p.1.bind = 0)
/-- How many are local. -/
def locs (l : List SymM) : Nat := l.countP fun s => decide (s.bind = 0)

theorem ordB_get {l : List SymM} (h : ordB l = true) {i : Nat} {a b : SymM} (ha : l[i]? = some a) (hb : l[i + 1]? = some b) (h0 : b.bind = 0) : a.bind = 0 := by
  unfold ordB at h
  rw [List.all_eq_true] at h
  have hm : (a, b) ∈ l.zip l.tail := by
    rw [List.mem_iff_getElem?]
    refine ⟨i, ?_⟩
    rw [List.getElem?_zip_eq_some]
    exact ⟨ha, by simpa using hb⟩
  have := h _ hm
  simp only [Bool.or_eq_true, decide_eq_true_eq] at this
  rcases this with h1 | h1
  · exact absurd h0 h1
  · exact h1
theorem ordB_of {l : List SymM} (h : ∀ i a b, l[i]? = some a → l[i + 1]? = some b → b.bind = 0 → a.bind = 0) : ordB l = true := by
  unfold ordB
  rw [List.all_eq_true]
  rintro ⟨a, b⟩ hm
  obtain ⟨i, hi⟩ := List.mem_iff_getElem?.1 hm
  rw [List.getElem?_zip_eq_some] at hi
  obtain ⟨h1, h2⟩ := hi
  simp only [Bool.or_eq_true, decide_eq_true_eq]
  by_cases h0 : b.bind = 0
  · exact .inr (h i a b h1 (by simpa using h2) h0)
  · exact .inl h0
theorem ordB_take {l : List SymM} (h : ordB l = true) (k : Nat) : ordB (l.take k) = true := ordB_of fun i a b ha hb h0 => by
  rw [List.getElem?_take] at ha hb
  split at ha
  · split at hb
    · exact ordB_get h ha hb h0
    · cases hb
  · cases ha
theorem ordB_nil : ordB [] = true := rfl
theorem ordB_step {l : List SymM} {k : Nat} {x : SymM} (hk : l[k]? = some x) (h : ordB (l.take k) = true) (hx : x.bind ≠ 0 ∨ ∀ y, l[k - 1]? = some y → 0 < k → y.bind = 0) : ordB (l.take (k + 1)) = true := ordB_of fun i a b ha hb h0 => by
  rw [List.getElem?_take] at ha hb
  split at hb
  · by_cases hi : i + 1 < k
    · exact ordB_get (i := i) h (by rw [List.getElem?_take, if_pos (by omega)]; split at ha; exact ha; cases ha) (by rw [List.getElem?_take, if_pos hi]; exact hb) h0
    · obtain rfl : k = i + 1 := by omega
      rw [hk] at hb
      cases hb
      rcases hx with hx | hx
      · exact absurd h0 hx
      · rw [if_pos (by omega)] at ha
        exact hx a (by simpa using ha) (by omega)
  · cases hb
/-- All local ahead of a local one. -/
theorem ordB_locs {l : List SymM} {k : Nat} (h : ordB (l.take k) = true) (hk : k ≤ l.length) : locs (l.take k) = k ∨ ∃ y, l[k - 1]? = some y ∧ 0 < k ∧ y.bind ≠ 0 := by
  induction k with
  | zero => exact .inl rfl
  | succ k ih =>
    have hx : l[k]? = some l[k] := List.getElem?_eq_getElem (by omega)
    by_cases h0 : l[k].bind = 0
    · left
      have h' : ordB (l.take k) = true := by
        have := ordB_take h k
        rwa [List.take_take, Nat.min_eq_left (by omega)] at this
      rcases ih h' (by omega) with h1 | ⟨y, hy, hk0, hne⟩
      · rw [List.take_add_one, hx]
        unfold locs at h1 ⊢
        rw [List.countP_append, h1]
        simp [h0]
      · exfalso
        refine hne (ordB_get (i := k - 1) h (b := l[k]) ?_ ?_ h0)
        · rw [List.getElem?_take, if_pos (by omega)]; exact hy
        · rw [List.getElem?_take, if_pos (by omega), show k - 1 + 1 = k by omega]; exact hx
    · exact .inr ⟨_, hx, by omega, h0⟩
theorem locs_le (l : List SymM) (k : Nat) : locs (l.take k) ≤ k := by
  unfold locs
  exact Nat.le_trans List.countP_le_length (by rw [List.length_take]; omega)
theorem locs_step0 {l : List SymM} {k : Nat} {x : SymM} (hk : l[k]? = some x) (h : x.bind = 0) : locs (l.take (k + 1)) = locs (l.take k) + 1 := by
  rw [List.take_add_one, hk]; unfold locs; rw [List.countP_append]; simp [h]
theorem locs_step1 {l : List SymM} {k : Nat} {x : SymM} (hk : l[k]? = some x) (h : ¬ x.bind = 0) : locs (l.take (k + 1)) = locs (l.take k) := by
  rw [List.take_add_one, hk]; unfold locs; rw [List.countP_append]; simp [h]
/-- A local one behind one that is not. -/
theorem ordB_bad {l : List SymM} {k : Nat} {x : SymM} (hk : l[k]? = some x) (h : ordB (l.take k) = true) (h0 : x.bind = 0) (hl : locs (l.take k) ≠ k) : ordB l = false := by
  have hlt := (List.getElem?_eq_some_iff.1 hk).1
  rcases ordB_locs h (by omega) with h1 | ⟨y, hy, hk0, hne⟩
  · exact absurd h1 hl
  · rw [Bool.eq_false_iff]
    intro hb
    exact hne (ordB_get (i := k - 1) hb hy (by rw [show k - 1 + 1 = k by omega]; exact hk) h0)
theorem ordB_good {l : List SymM} {k : Nat} {x : SymM} (hk : l[k]? = some x) (h : ordB (l.take k) = true) (hl : x.bind ≠ 0 ∨ locs (l.take k) = k) : ordB (l.take (k + 1)) = true := by
  refine ordB_step hk h ?_
  rcases hl with hl | hl
  · exact .inl hl
  · refine .inr fun y hy hk0 => ?_
    have hlt := (List.getElem?_eq_some_iff.1 hk).1
    have hall : ∀ s ∈ l.take k, s.bind = 0 := by
      have : (l.take k).countP (fun s => decide (s.bind = 0)) = (l.take k).length := by rw [List.length_take, Nat.min_eq_left (by omega)]; exact hl
      rw [List.countP_eq_length] at this
      exact fun s hs => by simpa using this s hs
    exact hall y (List.mem_of_getElem? (i := k - 1) (by rw [List.getElem?_take, if_pos (by omega)]; exact hy))
theorem locs_all {l : List SymM} {k : Nat} (h : l.length ≤ k) : locs (l.take k) = locs l := by rw [List.take_of_length_le h]

end Go.Fd
namespace Go.Proofs.Ytgknmmnffgikbaa
open Go.RowKit Go.Fd
/-- What a symbol may not be. -/
def symBad (s : SymM) : Bool := !kindB s.bind s.typ || decide (s.sec < 0) || decide (65535 < s.sec)
theorem kindB_pos {b t : Int} (h : kindB b t = true) : 0 ≤ b ∧ b ≤ 2 ∧ 0 ≤ t ∧ t ≤ 6 := by unfold kindB at h; simp at h; omega
def infoB (s : SymM) : UInt8 := UInt8.ofNat (16 * s.bind + s.typ).toNat
def symB (p : SymM × Nat) : List UInt8 := fixed p.2 4 ++ [infoB p.1, 0] ++ fixed (u64of p.1.sec) 2 ++ fixed p.1.value 8 ++ fixed p.1.size 8
def symsB (l : List SymM) (at_ : List Nat) : List UInt8 := List.replicate 24 0 ++ (l.zip at_).flatMap symB
theorem symB_len (p : SymM × Nat) : (symB p).length = 24 := by simp [symB, length_fixed]
theorem bad_step {l : List SymM} {k : Nat} {x : SymM} (h : l[k]? = some x) (h0 : (l.take k).any symBad = false) (hb : symBad x = false) : (l.take (k + 1)).any symBad = false := by
  rw [List.take_add_one, h, List.any_append, h0]
  simp [hb]
theorem bad_yes {l : List SymM} {k : Nat} {x : SymM} (h : l[k]? = some x) (hb : symBad x = true) : l.any symBad = true := List.any_eq_true.2 ⟨x, List.mem_of_getElem? h, hb⟩
theorem bad_all {l : List SymM} {k : Nat} (h : l.length ≤ k) (h0 : (l.take k).any symBad = false) : l.any symBad = false := by rwa [List.take_of_length_le h] at h0
/-- What is written of symbols. -/
def symW (l : List SymM) : List UInt8 × List UInt8 × Nat × Int :=
  if l.any symBad = true then ([], [], 0, 1)
  else if ordB l = false then ([], [], 0, 24)
  else if (buildR (l.map (·.name))).2.2 = 0 then (symsB l (buildR (l.map (·.name))).2.1, (buildR (l.map (·.name))).1, locs l + 1, 0)
  else ([], [], 0, (buildR (l.map (·.name))).2.2)
theorem symW_bad {l : List SymM} (h : l.any symBad = true) : symW l = ([], [], 0, 1) := by unfold symW; rw [if_pos h]
theorem symW_ord {l : List SymM} (h : l.any symBad = false) (h2 : ordB l = false) : symW l = ([], [], 0, 24) := by unfold symW; rw [if_neg (by simp [h]), if_pos h2]
theorem symW_err {l : List SymM} (h : l.any symBad = false) (h2 : ordB l = true) (h3 : (buildR (l.map (·.name))).2.2 ≠ 0) : symW l = ([], [], 0, (buildR (l.map (·.name))).2.2) := by
  unfold symW; rw [if_neg (by simp [h]), if_neg (by simp [h2]), if_neg h3]
theorem symW_ok {l : List SymM} (h : l.any symBad = false) (h2 : ordB l = true) (h3 : (buildR (l.map (·.name))).2.2 = 0) : symW l = (symsB l (buildR (l.map (·.name))).2.1, (buildR (l.map (·.name))).1, locs l + 1, 0) := by
  unfold symW; rw [if_neg (by simp [h]), if_neg (by simp [h2]), if_pos h3]
theorem zip_step {α β : Type} {l : List α} {m : List β} {k : Nat} {x : α} {y : β} (hx : l[k]? = some x) (hy : m[k]? = some y) : (l.zip m).take (k + 1) = (l.zip m).take k ++ [(x, y)] := by
  rw [List.take_add_one]
  congr 1
  rw [show (l.zip m)[k]? = some (x, y) by rw [List.getElem?_zip_eq_some]; exact ⟨hx, hy⟩]
  rfl
end Go.Proofs.Ytgknmmnffgikbaa
