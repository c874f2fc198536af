/-
  Symbols out of bytes: plain words, and bytes compared.
-/
import Derived.Test.YtgknmmnffgikbaaSym10
namespace Go.Proofs.Ytgknmmnffgikbaa
open Go.RowKit Go.Fd

theorem bytesEq_any (l m : List UInt8) (v u : Value) (w : World) (hv : Bs w v l) (hu : Bs w u m) :
    Calls Try.prog 63 #[v, u] w fun e w' => e = .returned (.bool (decide (l = m))) ∧ w = w' :=
  (Try.bytes_Equal_strs v u ⟨l.toArray⟩ ⟨m.toArray⟩ w (run_str hv) (run_str hu)).mono fun e w' ⟨h1, h2⟩ => ⟨by rw [h1]; congr 2; rw [Bool.eq_iff_iff, beq_iff_eq, decide_eq_true_iff, ByteArray.toList_eq, ByteArray.toList_eq], h2.symm⟩

/-- The symbol's record at place k, its name's place, and the byte that must be 0. -/
def recS (b : List UInt8) (k : Nat) (name : List UInt8) : SymM := ⟨name, ((b[24 * k + 4]?.getD 0).toNat / 16 : Nat), ((b[24 * k + 4]?.getD 0).toNat % 16 : Nat), numLE ((b.drop (24 * k + 6)).take 2), numLE ((b.drop (24 * k + 8)).take 8), numLE ((b.drop (24 * k + 16)).take 8)⟩
def recAt (b : List UInt8) (k : Nat) : Nat := numLE ((b.drop (24 * k)).take 4)
def rec5 (b : List UInt8) (k : Nat) : UInt8 := b[24 * k + 5]?.getD 0
/-- May s stand behind L? -/
def ordL (L : List SymM) (s : SymM) : Bool := decide (s.bind ≠ 0) || (match L.getLast? with | some y => decide (y.bind = 0) | none => true)
def stepSym (b names : List UInt8) (k : Nat) (L : List SymM) : Except Int (List SymM) :=
  if kindB (recS b (k + 1) []).bind (recS b (k + 1) []).typ = false ∨ rec5 b (k + 1) ≠ 0 then .error 1
  else if ordL L (recS b (k + 1) []) = false then .error 24
  else if (atR names (recAt b (k + 1))).2 ≠ 0 then .error (atR names (recAt b (k + 1))).2
  else .ok (L ++ [recS b (k + 1) (atR names (recAt b (k + 1))).1])
def symRd (b names : List UInt8) : List SymM × Int :=
  if b.length % 24 ≠ 0 ∨ b.length < 24 ∨ b.take 24 ≠ List.replicate 24 0 then ([], 4)
  else match foldU (stepSym b names) (b.length / 24 - 1) with | .ok L => (L, 0) | .error e => ([], e)
theorem foldSym_len (b names : List UInt8) : ∀ k L, foldU (stepSym b names) k = .ok L → L.length = k := by
  intro k
  induction k with
  | zero => intro L h; cases h; rfl
  | succ k ih =>
    intro L h
    rw [foldU] at h
    cases hk : foldU (stepSym b names) k with
    | error e => rw [hk] at h; cases h
    | ok L0 =>
      rw [hk] at h
      have h' : stepSym b names k L0 = .ok L := h
      unfold stepSym at h'
      repeat' split at h'
      all_goals first | (cases h'; done) | (cases h'; rw [List.length_append, ih L0 hk]; rfl)
theorem symRd_form {b names : List UInt8} (h : b.length % 24 ≠ 0 ∨ b.length < 24 ∨ b.take 24 ≠ List.replicate 24 0) : symRd b names = ([], 4) := by unfold symRd; rw [if_pos h]
theorem symRd_err {b names : List UInt8} {k : Nat} {L : List SymM} {e : Int} (h0 : ¬ (b.length % 24 ≠ 0 ∨ b.length < 24 ∨ b.take 24 ≠ List.replicate 24 0)) (hk : k < b.length / 24 - 1) (h : foldU (stepSym b names) k = .ok L) (hs : stepSym b names k L = .error e) : symRd b names = ([], e) := by
  unfold symRd
  rw [if_neg h0, foldU_err h hs _ hk]
theorem symRd_ok {b names : List UInt8} {k : Nat} {L : List SymM} (h0 : ¬ (b.length % 24 ≠ 0 ∨ b.length < 24 ∨ b.take 24 ≠ List.replicate 24 0)) (hk : k = b.length / 24 - 1) (h : foldU (stepSym b names) k = .ok L) : symRd b names = (L, 0) := by
  unfold symRd
  rw [if_neg h0, ← hk, h]
theorem step_arg {b names : List UInt8} {k : Nat} {L : List SymM} (h : kindB (recS b (k + 1) []).bind (recS b (k + 1) []).typ = false ∨ rec5 b (k + 1) ≠ 0) : stepSym b names k L = .error 1 := by unfold stepSym; rw [if_pos h]
theorem step_ord {b names : List UInt8} {k : Nat} {L : List SymM} (h : ¬ (kindB (recS b (k + 1) []).bind (recS b (k + 1) []).typ = false ∨ rec5 b (k + 1) ≠ 0)) (h2 : ordL L (recS b (k + 1) []) = false) : stepSym b names k L = .error 24 := by
  unfold stepSym; rw [if_neg h, if_pos h2]
theorem step_name {b names : List UInt8} {k : Nat} {L : List SymM} (h : ¬ (kindB (recS b (k + 1) []).bind (recS b (k + 1) []).typ = false ∨ rec5 b (k + 1) ≠ 0)) (h2 : ordL L (recS b (k + 1) []) = true) (h3 : (atR names (recAt b (k + 1))).2 ≠ 0) : stepSym b names k L = .error (atR names (recAt b (k + 1))).2 := by
  unfold stepSym; rw [if_neg h, if_neg (by simp [h2]), if_pos h3]
theorem step_sym {b names : List UInt8} {k : Nat} {L : List SymM} (h : ¬ (kindB (recS b (k + 1) []).bind (recS b (k + 1) []).typ = false ∨ rec5 b (k + 1) ≠ 0)) (h2 : ordL L (recS b (k + 1) []) = true) (h3 : (atR names (recAt b (k + 1))).2 = 0) : stepSym b names k L = .ok (L ++ [recS b (k + 1) (atR names (recAt b (k + 1))).1]) := by
  unfold stepSym; rw [if_neg h, if_neg (by simp [h2]), if_neg (by simp [h3])]
theorem ordB_one (s : SymM) : ordB [s] = true := by simp [ordB]
theorem ordB_two (y s : SymM) : ordB [y, s] = (decide (s.bind ≠ 0) || decide (y.bind = 0)) := by simp [ordB]
theorem ordL_nil (s : SymM) : ordL [] s = true := by simp [ordL]
theorem ordL_last {L : List SymM} {y : SymM} (h : L.getLast? = some y) (s : SymM) : ordL L s = ordB [y, s] := by rw [ordB_two]; unfold ordL; rw [h]
end Go.Proofs.Ytgknmmnffgikbaa
