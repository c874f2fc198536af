/-
  Symbols and relocations: what is written is read as it was: plain words.
-/
import Derived.Test.YtgknmmnffgikbaaSym12
namespace Go.Fd
theorem flat_dropB {α β : Type} {k : Nat} {f : α → List β} (hk : ∀ x, (f x).length = k) : ∀ (l : List α) (i : Nat), (l.flatMap f).drop (k * i) = (l.drop i).flatMap f := by
  intro l
  induction l with
  | nil => intro i; simp
  | cons x l ih =>
    intro i
    cases i with
    | zero => simp
    | succ i =>
      rw [List.flatMap_cons, List.drop_succ_cons, ← ih i, List.drop_append, hk, List.drop_eq_nil_of_le (by rw [hk, Nat.mul_succ]; omega)]
      simp [Nat.mul_succ]
theorem flat_head {α β : Type} {k : Nat} {f : α → List β} (hk : ∀ x, (f x).length = k) {l : List α} {i : Nat} {x : α} (h : l[i]? = some x) : ∃ r, (l.flatMap f).drop (k * i) = f x ++ r := by
  obtain ⟨h1, h2⟩ := List.getElem?_eq_some_iff.1 h
  rw [flat_dropB hk, List.drop_eq_getElem_cons h1, h2, List.flatMap_cons]
  exact ⟨_, rfl⟩
end Go.Fd
namespace Go.Proofs.Ytgknmmnffgikbaa
open Go.RowKit Go.Fd

theorem fixed_get (n : Nat) : ∀ s : Nat, numLE (fixed n s) = n % 256 ^ s := by
  intro s
  induction s generalizing n with
  | zero => simp [fixed, numLE, Nat.mod_one]
  | succ s ih =>
    rw [fixed, numLE, ih]
    have h1 : (UInt8.ofNat n).toNat = n % 256 := by simp
    have h2 : n % 256 ^ (s + 1) = n % 256 + 256 * (n / 256 % 256 ^ s) := by rw [Nat.pow_succ, Nat.mul_comm, Nat.mod_mul]
    rw [h2]
    simp
theorem numLE_fix : ∀ x : List UInt8, fixed (numLE x) x.length = x := by
  intro x
  induction x with
  | nil => rfl
  | cons c x ih =>
    rw [List.length_cons, fixed, numLE]
    have h1 : c.toNat < 256 := UInt8.toNat_lt c
    have h2 : (c.toNat + 256 * numLE x) / 256 = numLE x := by omega
    rw [h2, ih]
    congr 1
    rw [← UInt8.toNat_inj]
    simp
theorem sym_at {l : List SymM} {ats : List Nat} {k : Nat} {x : SymM} {p : Nat} (hx : l[k]? = some x) (hp : ats[k]? = some p) (hb : symBad x = false) (hpl : p < 4294967296) (hwf : x.value < 18446744073709551616 ∧ x.size < 18446744073709551616) :
    (∀ nm, recS (symsB l ats) (k + 1) nm = { x with name := nm }) ∧ recAt (symsB l ats) (k + 1) = p ∧ rec5 (symsB l ats) (k + 1) = 0 := by
  obtain ⟨r, hr⟩ := flat_head symB_len (show (l.zip ats)[k]? = some (x, p) by rw [List.getElem?_zip_eq_some]; exact ⟨hx, hp⟩)
  have hD : (symsB l ats).drop (24 * (k + 1)) = symB (x, p) ++ r := by
    unfold symsB
    rw [show 24 * (k + 1) = (List.replicate 24 (0 : UInt8)).length + 24 * k by simp; omega, List.drop_length_add_append]
    exact hr
  have hg : ∀ j, (symsB l ats)[24 * (k + 1) + j]? = (symB (x, p) ++ r)[j]? := fun j => by rw [← hD, List.getElem?_drop]
  have hd : ∀ j, (symsB l ats).drop (24 * (k + 1) + j) = (symB (x, p) ++ r).drop j := fun j => by rw [← hD, List.drop_drop]
  have hk : kindB x.bind x.typ = true ∧ 0 ≤ x.sec ∧ x.sec ≤ 65535 := by
    unfold symBad at hb
    simp at hb
    exact ⟨hb.1.1, by omega, by omega⟩
  obtain ⟨k1, k2, k3⟩ := hk
  obtain ⟨q1, q2, q3, q4⟩ := kindB_pos k1
  have hi := info_u8 (s := x) q1 q2 q3 q4
  refine ⟨fun nm => ?_, ?_, ?_⟩
  · unfold recS
    rw [hg, hd, hd, hd]
    have e4 : (symB (x, p) ++ r)[4]?.getD 0 = infoB x := by simp [symB, List.getElem?_append, length_fixed]
    have e6 : ((symB (x, p) ++ r).drop 6).take 2 = fixed (u64of x.sec) 2 := by simp [symB, List.drop_append, List.take_append, length_fixed]
    have e8 : ((symB (x, p) ++ r).drop 8).take 8 = fixed x.value 8 := by simp [symB, List.drop_append, List.take_append, length_fixed]
    have e16 : ((symB (x, p) ++ r).drop 16).take 8 = fixed x.size 8 := by simp [symB, List.drop_append, List.take_append, length_fixed, List.drop_eq_nil_of_le]
    rw [e4, e6, e8, e16, fixed_get, fixed_get, fixed_get]
    have h1 : u64of x.sec % 256 ^ 2 = x.sec.toNat := by rw [u64of_pos k2 (by omega)]; exact Nat.mod_eq_of_lt (by omega)
    rw [h1, Nat.mod_eq_of_lt (show x.value < 256 ^ 8 by simpa using hwf.1), Nat.mod_eq_of_lt (show x.size < 256 ^ 8 by simpa using hwf.2)]
    cases x
    simp only [SymM.mk.injEq, true_and]
    simp only at hi q1 q2 q3 q4 k2 k3
    refine ⟨by omega, by omega, by omega, ?_⟩
    first
      | trivial
      | exact ⟨rfl, rfl⟩
  · unfold recAt
    rw [← Nat.add_zero (24 * (k + 1)), hd]
    have e0 : ((symB (x, p) ++ r).drop 0).take 4 = fixed p 4 := by simp [symB, List.take_append, length_fixed]
    rw [e0, fixed_get]
    exact Nat.mod_eq_of_lt (by omega)
  · unfold rec5
    rw [hg]
    simp [symB, List.getElem?_append, length_fixed]

theorem symW_0 {l : List SymM} (h : (symW l).2.2.2 = 0) : l.any symBad = false ∧ ordB l = true ∧ (buildR (l.map (·.name))).2.2 = 0 ∧ symW l = (symsB l (buildR (l.map (·.name))).2.1, (buildR (l.map (·.name))).1, locs l + 1, 0) := by
  unfold symW at h
  split at h
  · cases h
  · next h1 =>
    split at h
    · cases h
    · next h2 =>
      split at h
      · next h3 => exact ⟨by simpa using h1, by simpa using h2, h3, symW_ok (by simpa using h1) (by simpa using h2) h3⟩
      · next h3 => exact absurd h h3

theorem sym_back {l : List SymM} (h : (symW l).2.2.2 = 0) (hl : l.length ≤ 1000) (hwf : ∀ s ∈ l, s.value < 18446744073709551616 ∧ s.size < 18446744073709551616) : symRd (symW l).1 (symW l).2.1 = (l, 0) := by
  obtain ⟨h1, h2, h3, h4⟩ := symW_0 h
  obtain ⟨a1, a2⟩ := ats_ok h3 (by rw [List.length_map]; exact hl)
  obtain ⟨b1, b2⟩ := build_ok h3
  rw [h4]
  dsimp only
  generalize hA : (buildR (l.map (·.name))).2.1 = ats at *
  generalize hT : (buildR (l.map (·.name))).1 = T at *
  rw [List.length_map] at a1
  have hlen : (symsB l ats).length = 24 * (l.length + 1) := by
    unfold symsB
    rw [List.length_append, List.length_replicate, flat_len' symB_len, List.length_zip]
    omega
  have h24 : (symsB l ats).take 24 = List.replicate 24 0 := by
    unfold symsB
    rw [List.take_append_of_le_length (by simp)]
    rfl
  have hf : ∀ k, k ≤ l.length → foldU (stepSym (symsB l ats) T) k = .ok (l.take k) := by
    intro k
    induction k with
    | zero => intro _; rfl
    | succ k ih =>
      intro hk
      have hx : l[k]? = some l[k] := List.getElem?_eq_getElem (by omega)
      have hp : ats[k]? = some ats[k] := List.getElem?_eq_getElem (by omega)
      generalize l[k] = x at hx
      generalize ats[k] = p at hp
      have hm := List.mem_of_getElem? hx
      have hb : symBad x = false := by simpa using List.any_eq_false.1 h1 x hm
      have hpl := a2 p (List.mem_of_getElem? hp)
      obtain ⟨s1, s2, s3⟩ := sym_at hx hp hb (by omega) (hwf x hm)
      have hkb : kindB x.bind x.typ = true := by
        unfold symBad at hb
        simp at hb
        exact hb.1.1
      have hat : atR T (p : Int) = (x.name, 0) := by
        obtain ⟨p', e1, -, e3, e4⟩ := build_at b1 (i := k) (s := x.name) (by rw [List.getElem?_map, hx]; rfl)
        rw [b2] at hA hT
        dsimp only at hA hT
        rw [hA, hp] at e1
        cases e1
        rw [hT] at e3
        exact at_place e3 e4
      have hord : ordL (l.take k) x = true := by
        unfold ordL
        by_cases hx0 : x.bind = 0
        · cases hg : (l.take k).getLast? with
          | none => simp
          | some y =>
            rw [List.getLast?_eq_getElem?, List.getElem?_take] at hg
            split at hg
            · have hlt : (l.take k).length - 1 < k := by assumption
              rw [List.length_take, Nat.min_eq_left (by omega)] at hg hlt
              have := ordB_get h2 (i := k - 1) hg (b := x) (by rw [show k - 1 + 1 = k by omega]; exact hx) hx0
              simp [this]
            · cases hg
        · simp [hx0]
      refine foldU_ok (ih (by omega)) ?_
      rw [step_sym (by rw [s1, s3]; simp [hkb]) (by rw [s1]; exact hord) (by rw [s2, hat]), s2, hat, s1, List.take_add_one, hx]
      rfl
  have := hf l.length (Nat.le_refl _)
  rw [List.take_length] at this
  exact symRd_ok (by rw [hlen]; rintro (e | e | e); omega; omega; exact e h24) (by rw [hlen]; omega) this

theorem sym_locals {l : List SymM} (h : ordB l = true) {i : Nat} {x : SymM} (hx : l[i]? = some x) : x.bind = 0 ↔ i < locs l := by
  have hi := (List.getElem?_eq_some_iff.1 hx).1
  have hall : ∀ k, k ≤ l.length → locs (l.take k) ≤ locs l := fun k hk => by
    unfold locs
    rw [show l.countP _ = _ from congrArg _ (List.take_append_drop k l).symm, List.countP_append]
    omega
  constructor
  · intro h0
    rcases ordB_locs (k := i + 1) (ordB_take h _) (by omega) with h1 | ⟨y, hy, _, hne⟩
    · have := hall (i + 1) (by omega); omega
    · rw [show i + 1 - 1 = i by omega, hx] at hy
      cases hy
      exact absurd h0 hne
  · intro hlt
    rcases Classical.em (x.bind = 0) with h0 | h0
    · exact h0
    exfalso
    -- behind it nothing is local
    have hn : ∀ j, i ≤ j → ∀ y, l[j]? = some y → y.bind ≠ 0 := by
      intro j
      induction j with
      | zero => intro hij y hy; obtain rfl : i = 0 := by omega
                rw [hx] at hy; cases hy; exact h0
      | succ j ih =>
        intro hij y hy
        rcases Nat.eq_or_lt_of_le hij with e | e
        · subst e; rw [hx] at hy; cases hy; exact h0
        · intro hy0
          have hj := (List.getElem?_eq_some_iff.1 hy).1
          have hz : l[j]? = some l[j] := List.getElem?_eq_getElem (by omega)
          exact ih (by omega) _ hz (ordB_get h hz hy hy0)
    have h2 : locs l = locs (l.take i) + locs (l.drop i) := by
      unfold locs
      rw [← List.countP_append, List.take_append_drop]
    have h3 : locs (l.drop i) = 0 := by
      unfold locs
      rw [List.countP_eq_zero]
      intro y hy
      obtain ⟨j, hj⟩ := List.mem_iff_getElem?.1 hy
      rw [List.getElem?_drop] at hj
      simpa using hn (i + j) (by omega) y hj
    have := locs_le l i
    omega

theorem rela_at {l : List RelaM} {k : Nat} {x : RelaM} (hx : l[k]? = some x) (hb : relaBad x = false) (hw : x.off < 18446744073709551616) (ha : -9223372036854775808 ≤ x.add ∧ x.add < 9223372036854775808) : recR (l.flatMap relaB) k = x := by
  obtain ⟨r, hr⟩ := flat_head relaB_len hx
  have hd : ∀ j, (l.flatMap relaB).drop (24 * k + j) = (relaB x ++ r).drop j := fun j => by rw [← hr, List.drop_drop]
  have hk : 0 ≤ x.typ ∧ x.typ ≤ 4294967295 ∧ 0 ≤ x.sym ∧ x.sym ≤ 2147483647 := by
    unfold relaBad at hb
    simp at hb
    omega
  obtain ⟨k1, k2, k3, k4⟩ := hk
  unfold recR
  rw [hr, hd, hd, hd]
  have e0 : (relaB x ++ r).take 8 = fixed x.off 8 := by simp [relaB, List.take_append, length_fixed]
  have e8 : ((relaB x ++ r).drop 8).take 4 = fixed (u64of x.typ) 4 := by simp [relaB, List.drop_append, List.take_append, length_fixed]
  have e12 : ((relaB x ++ r).drop 12).take 4 = fixed (u64of x.sym) 4 := by simp [relaB, List.drop_append, List.take_append, length_fixed]
  have e16 : ((relaB x ++ r).drop 16).take 8 = fixed (u64of x.add) 8 := by simp [relaB, List.drop_append, List.take_append, length_fixed, List.drop_eq_nil_of_le]
  rw [e0, e8, e12, e16, fixed_get, fixed_get, fixed_get, fixed_get]
  have h1 : u64of x.typ % 256 ^ 4 = x.typ.toNat := by rw [u64of_pos k1 (by omega)]; exact Nat.mod_eq_of_lt (by omega)
  have h2 : u64of x.sym % 256 ^ 4 = x.sym.toNat := by rw [u64of_pos k3 (by omega)]; exact Nat.mod_eq_of_lt (by omega)
  have h3 : u64of x.add % 256 ^ 8 = u64of x.add := Nat.mod_eq_of_lt (by have := u64of_lt x.add; simpa using this)
  rw [h1, h2, h3, Nat.mod_eq_of_lt (show x.off < 256 ^ 8 by simpa using hw)]
  cases x
  simp only [RelaM.mk.injEq]
  simp only at k1 k2 k3 k4 ha
  refine ⟨trivial, by omega, by omega, ?_⟩
  unfold wrap64 u64of
  omega
theorem rela_back {l : List RelaM} (h : (relaW l).2 = 0) (hwf : ∀ x ∈ l, x.off < 18446744073709551616 ∧ -9223372036854775808 ≤ x.add ∧ x.add < 9223372036854775808) : relaRd (relaW l).1 = (l, 0) := by
  unfold relaW at h ⊢
  split at h
  · cases h
  · next h1 =>
    rw [if_neg h1]
    have h1' : l.any relaBad = false := by simpa using h1
    have hlen := rela_len l
    have hf : ∀ k, k ≤ l.length → foldU (stepRela (l.flatMap relaB)) k = .ok (l.take k) := by
      intro k
      induction k with
      | zero => intro _; rfl
      | succ k ih =>
        intro hk
        have hx : l[k]? = some l[k] := List.getElem?_eq_getElem (by omega)
        generalize l[k] = x at hx
        have hm := List.mem_of_getElem? hx
        have hb : relaBad x = false := by simpa using List.any_eq_false.1 h1' x hm
        have hr := rela_at hx hb (hwf x hm).1 (hwf x hm).2
        rw [relaRd_step (ih (by omega)) (by rw [hr]; unfold relaBad at hb; simp at hb; omega), hr, List.take_add_one, hx]
        rfl
    have := hf l.length (Nat.le_refl _)
    rw [List.take_length] at this
    exact relaRd_ok (by rw [hlen]; omega) (by rw [hlen]; omega) this
theorem rela_rec {b : List UInt8} {k : Nat} (h : 24 * k + 24 ≤ b.length) : relaB (recR b k) = (b.drop (24 * k)).take 24 := by
  unfold relaB recR
  dsimp only
  have hl : ∀ a s, a + s ≤ b.length → ((b.drop a).take s).length = s := fun a s h => by rw [List.length_take, List.length_drop]; omega
  have hf : ∀ a s, a + s ≤ b.length → fixed (numLE ((b.drop a).take s)) s = (b.drop a).take s := fun a s h => by
    have := numLE_fix ((b.drop a).take s)
    rwa [hl a s h] at this
  have hu : ∀ n : Nat, n < 4294967296 → u64of (n : Int) = n := fun n h => by unfold u64of; omega
  have hu8 : ∀ n : Nat, n < 18446744073709551616 → u64of (wrap64 (n : Int)) = n := fun n h => by unfold u64of wrap64; omega
  rw [hu _ (by have := numLE_cut b (24 * k + 8) 4; simpa using this), hu _ (by have := numLE_cut b (24 * k + 12) 4; simpa using this), hu8 _ (by have := numLE_cut b (24 * k + 16) 8; simpa using this)]
  rw [hf _ _ (by omega), hf _ _ (by omega), hf _ _ (by omega), hf _ _ (by omega)]
  have e : ∀ a s t, (b.drop a).take (s + t) = (b.drop a).take s ++ (b.drop (a + s)).take t := fun a s t => by rw [List.take_add, List.drop_drop]
  rw [show (24 : Nat) = 8 + (4 + (4 + 8)) from rfl, e, e, e, List.append_assoc, List.append_assoc]
theorem rela_take {b : List UInt8} : ∀ k L, 24 * k ≤ b.length → foldU (stepRela b) k = .ok L → L.flatMap relaB = b.take (24 * k) ∧ L.any relaBad = false := by
  intro k
  induction k with
  | zero => intro L _ h; cases h; simp
  | succ k ih =>
    intro L hk h
    rw [foldU] at h
    cases hq : foldU (stepRela b) k with
    | error e => rw [hq] at h; cases h
    | ok L0 =>
      rw [hq] at h
      have h' : stepRela b k L0 = .ok L := h
      unfold stepRela at h'
      split at h'
      · cases h'
      · next hs =>
        cases h'
        obtain ⟨h1, h2⟩ := ih L0 (by omega) hq
        refine ⟨?_, ?_⟩
        · rw [List.flatMap_append, h1, List.flatMap_singleton, rela_rec (by omega), Nat.mul_succ, List.take_add]
        · rw [List.any_append, h2]
          have h3 := numLE_cut b (24 * k + 8) 4
          have h4 : (recR b k).typ = (numLE ((b.drop (24 * k + 8)).take 4) : Int) := rfl
          have h5 : (recR b k).sym = (numLE ((b.drop (24 * k + 12)).take 4) : Int) := rfl
          simp [relaBad]
          omega
theorem rela_forth {b : List UInt8} (h : (relaRd b).2 = 0) : relaW (relaRd b).1 = (b, 0) := by
  unfold relaRd at h ⊢
  split at h
  · next h0 =>
    rw [if_pos h0]
    split at h
    · next L hL =>
      try rw [hL]
      dsimp only
      obtain ⟨h1, h2⟩ := rela_take _ _ (by omega) hL
      unfold relaW
      rw [if_neg (by simp [h2]), h1, List.take_of_length_le (by omega)]
    · next e he =>
      exfalso
      dsimp only at h
      subst h
      have : ∀ k e, foldU (stepRela b) k = .error e → e = 3 := by
        intro k
        induction k with
        | zero => intro e h; cases h
        | succ k ih =>
          intro e h
          rw [foldU] at h
          cases hq : foldU (stepRela b) k with
          | error e' => rw [hq] at h; cases h; exact ih _ hq
          | ok L0 =>
            rw [hq] at h
            have h' : stepRela b k L0 = .error e := h
            unfold stepRela at h'
            split at h'
            · cases h'; rfl
            · cases h'
      exact absurd (this _ _ he) (by decide)
  · cases h
theorem relaRd_nil {b : List UInt8} (h : (relaRd b).2 ≠ 0) : (relaRd b).1 = [] := by
  unfold relaRd at h ⊢
  split
  · next h0 =>
    rw [if_pos h0] at h
    split
    · next L hL => rw [hL] at h; exact absurd rfl h
    · rfl
  · rfl
theorem relaRd_len (b : List UInt8) : (relaRd b).1.length ≤ b.length / 24 := by
  unfold relaRd
  split
  · split
    · next L hL => rw [foldRela_len b _ _ hL]; exact Nat.le_refl _
    · simp
  · simp
end Go.Proofs.Ytgknmmnffgikbaa
