/-
  Part 2 of 4: laws and walks for line_all; no condition of its own.
-/
import Derived.Test.YtmpmkjlkhlagfaaLa1
import Derived.BigQuiet
import Derived.Laws.CopyOwn
import Derived.Defers
import Derived.Recover
import Derived.Laws.ResultCell
import Derived.Laws.Pointers
namespace Go.Proofs.Ytmpmkjlkhlagfaa
open Go.RowKit Go.Fd
theorem leb_le' (n : Nat) : (leb 9 n).length ≤ 10 ∧ 1 ≤ (leb 9 n).length := by
  have : ∀ k n, (leb k n).length ≤ k + 1 ∧ 1 ≤ (leb k n).length := by
    intro k
    induction k with
    | zero => intro n; simp [leb]
    | succ k ih =>
      intro n
      rw [leb]
      split
      · simp
      · have := ih (n / 128)
        simp
        omega
  exact this 9 n
theorem sleb_le' (n : Int) : (sleb 9 n).length ≤ 10 := by
  have : ∀ k n, (sleb k n).length ≤ k + 1 := by
    intro k
    induction k with
    | zero => intro n; simp [sleb]
    | succ k ih => intro n; rw [sleb]; split <;> simp; exact ih _
  exact this 9 n
theorem mem_bad {fs : List (List UInt8)} (h : ¬ fs.any fileBad = true) {s : List UInt8} (hs : s ∈ fs) : s ≠ [] ∧ s.length ≤ 128 ∧ 0 ∉ s := by
  have h1 : fileBad s = false := by
    cases hb : fileBad s with
    | false => rfl
    | true => exact absurd (List.any_eq_true.2 ⟨s, hs, hb⟩) h
  unfold fileBad mayS at h1
  simp at h1
  exact ⟨h1.1, h1.2.1, h1.2.2⟩
theorem faulty_ok {fs : List (List UInt8)} {rs : List RunM} (h : faultyL fs rs = 0) : (∀ s ∈ fs, s ≠ [] ∧ s.length ≤ 128 ∧ 0 ∉ s) ∧ fs.length ≤ 100 ∧ rs.length ≤ 64 ∧ ∀ r ∈ rs, runOk fs.length r = true := by
  unfold faultyL at h
  split at h
  · cases h
  · next h1 =>
    split at h
    · cases h
    · next h2 =>
      split at h
      · next h3 => exact ⟨fun s hs => mem_bad h1 hs, by omega, by omega, fun r hr => List.all_eq_true.1 h3 r hr⟩
      · cases h
theorem rowB_len (file line off : Int) (x : RowM) : (rowB file line off x).length ≤ 34 := by
  unfold rowB
  have h1 := (leb_le' x.file.toNat).1
  have h2 := sleb_le' (x.line - line)
  have h3 := (leb_le' (x.off - off).toNat).1
  simp only [List.length_append]
  split <;> split <;> split <;> simp <;> omega
theorem rowsB_len (xs : List RowM) : ∀ file line off, (rowsB file line off xs).length ≤ 34 * xs.length := by
  induction xs with
  | nil => intro _ _ _; simp [rowsB]
  | cons x xs ih =>
    intro file line off
    rw [rowsB, List.length_append, List.length_cons]
    have := rowB_len file line off x
    have := ih x.file x.line x.off
    omega
theorem endB_len (off fin : Int) : (endB off fin).length ≤ 14 := by
  unfold endB
  have h3 := (leb_le' (fin - off).toNat).1
  split <;> simp <;> omega
theorem runB_len (r : RunM) : (runB r).length ≤ 25 + 34 * r.rows.length := by
  unfold runB
  have h1 := rowsB_len r.rows 1 1 0
  have h2 := endB_len (lastOff 0 r.rows) r.end_
  simp only [List.length_append, length_fixed, List.length_cons, List.length_nil]
  omega
theorem runsB_len (rs : List RunM) : (runsB rs).length ≤ 25 * rs.length + 34 * nrows rs := by
  induction rs with
  | nil => simp [runsB]
  | cons r rs ih =>
    have h1 := runB_len r
    unfold runsB nrows at *
    rw [List.flatMap_cons, List.length_append, List.length_cons, List.map_cons, List.sum_cons]
    omega
theorem namesB_len {fs : List (List UInt8)} (h : ∀ s ∈ fs, s.length ≤ 128) : (namesB fs).length ≤ 129 * fs.length := by
  induction fs with
  | nil => simp [namesB]
  | cons s fs ih =>
    have h1 := ih fun x hx => h x (by simp [hx])
    have h2 := h s (by simp)
    unfold namesB at *
    rw [List.flatMap_cons, List.length_append, List.length_cons, List.length_append, List.length_singleton]
    omega
theorem lnHeadB_len {fs : List (List UInt8)} (h : ∀ s ∈ fs, s.length ≤ 128) (hn : fs.length ≤ 100) : (lnHeadB fs).length ≤ 13000 := by
  have h1 := namesB_len h
  have h2 := (leb_le' fs.length).1
  unfold lnHeadB
  simp only [List.length_append, List.length_cons, List.length_nil]
  omega
theorem lnFrontB_len (fs : List (List UInt8)) : (lnFrontB fs).length = 8 + (lnHeadB fs).length := by
  unfold lnFrontB
  simp only [List.length_append, length_fixed, List.length_cons, List.length_nil]
  omega
theorem unitB_len (fs : List (List UInt8)) (rs : List RunM) : (unitB fs rs).length = 4 + (lnBodyB fs rs).length := by
  unfold unitB
  rw [List.length_append, length_fixed]
theorem lnBodyB_le {fs : List (List UInt8)} {rs : List RunM} (hf : faultyL fs rs = 0) (hl : fs.length + rs.length + nrows rs ≤ 400) : (lnBodyB fs rs).length ≤ 40000 := by
  obtain ⟨h1, h2, h3, -⟩ := faulty_ok hf
  have h4 := lnHeadB_len (fun s hs => (h1 s hs).2.1) h2
  have h5 := lnFrontB_len fs
  have h6 := runsB_len rs
  unfold lnBodyB
  rw [List.length_append]
  omega
/-- What a run tells. -/
def rowEnts (at_ : Nat) (xs : List RowM) : List EntM := xs.map fun x => ⟨m64 (at_ + x.off.toNat), x.file, x.line, false⟩
def lastFile : Int → List RowM → Int
  | f, [] => f
  | _, r :: rs => lastFile r.file rs
def lastLine : Int → List RowM → Int
  | f, [] => f
  | _, r :: rs => lastLine r.line rs
def runEnts (r : RunM) : List EntM := rowEnts r.at_ r.rows ++ [⟨m64 (r.at_ + r.end_.toNat), lastFile 1 r.rows, lastLine 1 r.rows, true⟩]
def unitEnts (rs : List RunM) : List EntM := rs.flatMap runEnts
def head0 : HeadM := ⟨1, -5, 14, 13, [0, 1, 1, 1, 1, 0, 0, 0, 1, 0, 0, 1]⟩
theorem run_nil {h : HeadM} {l : List UInt8} {a : Nat} (s : StM) (e : a = l.length) : RunAt h l a s [] := by subst e; exact .done s
theorem lt_of_stands {l y : List UInt8} {c : UInt8} {a : Nat} (h : Stands l a (c :: y)) : a < l.length := by have := h.le; rw [List.length_cons] at this; omega
theorem m64_add (a b : Nat) : m64 (m64 a + m64 (b * 1)) = m64 (a + b) := by unfold m64; omega
theorem run_file {l : List UInt8} {a : Nat} {s : StM} {T : List EntM} {n : Nat} (h : Stands l a (4 :: leb 9 n)) (hn : n < 18446744073709551616) (r : RunAt head0 l (a + 1 + (leb 9 n).length) ⟨s.addr, n, s.line⟩ T) : RunAt head0 l a s T :=
  .step (t := []) (lt_of_stands h) (.file h.cons.byte.2 h.cons.byte.1 (by decide) n _ (h.tail.leb hn)) r
theorem run_line {l : List UInt8} {a : Nat} {s : StM} {T : List EntM} {n : Int} (h : Stands l a (3 :: sleb 9 n)) (h1 : -9223372036854775808 ≤ n) (h2 : n < 9223372036854775808) (r : RunAt head0 l (a + 1 + (sleb 9 n).length) ⟨s.addr, s.file, wrap64 (s.line + n)⟩ T) : RunAt head0 l a s T :=
  .step (t := []) (lt_of_stands h) (.line h.cons.byte.2 h.cons.byte.1 (by decide) n _ (h.tail.sleb h1 h2)) r
theorem run_pc {l : List UInt8} {a : Nat} {s : StM} {T : List EntM} {n : Nat} (h : Stands l a (2 :: leb 9 n)) (hn : n < 18446744073709551616) (r : RunAt head0 l (a + 1 + (leb 9 n).length) ⟨m64 (s.addr + m64 (n * 1)), s.file, s.line⟩ T) : RunAt head0 l a s T :=
  .step (t := []) (lt_of_stands h) (.pc h.cons.byte.2 h.cons.byte.1 (by decide) n _ (h.tail.leb hn)) r
theorem run_copy {l : List UInt8} {a : Nat} {s : StM} {T : List EntM} (h : Stands l a [1]) (r : RunAt head0 l (a + 1) s T) : RunAt head0 l a s (s.tell false :: T) :=
  .step (t := [s.tell false]) (lt_of_stands h) (.copy h.byte.2 h.byte.1 (by decide)) r
theorem run_fin {l : List UInt8} {a : Nat} {s : StM} {T : List EntM} (h : Stands l a [0, 1, 1]) (r : RunAt head0 l (a + 3) st0 T) : RunAt head0 l a s (s.tell true :: T) :=
  .step (t := [s.tell true]) (lt_of_stands h) (.fin h.cons.byte.2 h.cons.byte.1 (by decide) (Stands.leb (n := 1) h.tail.cons (by decide)) h.tail.tail.byte.2 h.tail.tail.byte.1) r
theorem run_set {l : List UInt8} {a n : Nat} {s : StM} {T : List EntM} (h : Stands l a ([0, 9, 2] ++ fixed n 8)) (hn : n < 18446744073709551616) (r : RunAt head0 l (a + 11) ⟨n, s.file, s.line⟩ T) : RunAt head0 l a s T := by
  have h3 := (Stands.right h).fix sz8 hn
  refine .step (t := []) (lt_of_stands h) (.set h.cons.byte.2 h.cons.byte.1 (by decide) (Stands.leb (n := 9) h.tail.cons (by decide)) h.tail.tail.cons.byte.2 h.tail.tail.cons.byte.1 h3.2) ?_
  rw [show gN l (a + 3) 8 = n from h3.1]
  exact r
theorem wrap_id {n : Int} (h1 : -9223372036854775808 ≤ n) (h2 : n < 9223372036854775808) : wrap64 n = n := by rw [wrap64]; omega
theorem rowOk_iff {r : RowM} {off fin : Int} {n : Nat} (h : rowOk r off fin n = true) : 1 ≤ r.file ∧ r.file ≤ n ∧ 1 ≤ r.line ∧ r.line ≤ 1048576 ∧ off ≤ r.off ∧ r.off ≤ fin := by
  unfold rowOk at h
  simp only [Bool.and_eq_true, decide_eq_true_eq] at h
  omega
/-- A row's opcodes. -/
theorem run_row {l : List UInt8} {a at_ n : Nat} {file line off fin : Int} {x : RowM} {T : List EntM} (hn : n ≤ 100) (hx : rowOk x off fin n = true) (h0 : 0 ≤ off) (hl : 1 ≤ line ∧ line ≤ 1048576) (hfin : fin < 9223372036854775808)
    (h : Stands l a (rowB file line off x)) (r : RunAt head0 l (a + (rowB file line off x).length) ⟨m64 (at_ + x.off.toNat), x.file.toNat, x.line⟩ T) :
    RunAt head0 l a ⟨m64 (at_ + off.toNat), file.toNat, line⟩ (⟨m64 (at_ + x.off.toNat), x.file, x.line, false⟩ :: T) := by
  obtain ⟨e1, e2, e3, e4, e5, e6⟩ := rowOk_iff hx
  have hr : (⟨m64 (at_ + x.off.toNat), x.file, x.line, false⟩ : EntM) = StM.tell ⟨m64 (at_ + x.off.toNat), x.file.toNat, x.line⟩ false := by
    unfold StM.tell
    simp only [EntM.mk.injEq, and_true, true_and]
    rw [wrap_id (by omega) (by omega)]
    omega
  rw [hr]
  have hlen : (rowB file line off x).length = (if x.file = file then [] else 4 :: leb 9 x.file.toNat).length + (if x.line = line then [] else 3 :: sleb 9 (x.line - line)).length + (if x.off = off then [] else 2 :: leb 9 (x.off - off).toNat).length + 1 := by
    unfold rowB
    simp only [List.length_append, List.length_singleton]
  rw [hlen] at r
  unfold rowB at h
  have h3 := h.left.left.right
  have h2 := h.left.right
  have h1 := h.left.left.left
  have h4 := h.right
  clear h hlen hr hx
  rw [List.length_append] at h2
  rw [List.length_append, List.length_append] at h4
  have s1 : RunAt head0 l (a + (if x.file = file then [] else 4 :: leb 9 x.file.toNat : List UInt8).length) ⟨m64 (at_ + off.toNat), x.file.toNat, line⟩ (StM.tell ⟨m64 (at_ + x.off.toNat), x.file.toNat, x.line⟩ false :: T) := by
    have s2 : RunAt head0 l (a + (if x.file = file then [] else 4 :: leb 9 x.file.toNat : List UInt8).length + (if x.line = line then [] else 3 :: sleb 9 (x.line - line) : List UInt8).length) ⟨m64 (at_ + off.toNat), x.file.toNat, x.line⟩ (StM.tell ⟨m64 (at_ + x.off.toNat), x.file.toNat, x.line⟩ false :: T) := by
      have s3 : RunAt head0 l (a + (if x.file = file then [] else 4 :: leb 9 x.file.toNat : List UInt8).length + (if x.line = line then [] else 3 :: sleb 9 (x.line - line) : List UInt8).length + (if x.off = off then [] else 2 :: leb 9 (x.off - off).toNat : List UInt8).length) ⟨m64 (at_ + x.off.toNat), x.file.toNat, x.line⟩ (StM.tell ⟨m64 (at_ + x.off.toNat), x.file.toNat, x.line⟩ false :: T) := by
        refine run_copy (by rw [← Nat.add_assoc, ← Nat.add_assoc] at h4; exact h4) ?_
        simp only [← Nat.add_assoc] at r
        exact r
      by_cases ho : x.off = off
      · rw [if_pos ho] at s3
        rw [← ho]
        exact s3
      · rw [if_neg ho] at s3 h2
        rw [← Nat.add_assoc] at h2
        refine run_pc h2 (by omega) ?_
        dsimp only
        rw [m64_add, show at_ + off.toNat + (x.off - off).toNat = at_ + x.off.toNat by omega, Nat.add_assoc, Nat.add_comm 1, ← List.length_cons (a := (2 : UInt8))]
        exact s3
    by_cases ho : x.line = line
    · rw [if_pos ho] at s2
      rw [← ho]
      exact s2
    · rw [if_neg ho] at s2 h3
      refine run_line h3 (by omega) (by omega) ?_
      dsimp only
      rw [show line + (x.line - line) = x.line by omega, wrap_id (by omega) (by omega), Nat.add_assoc, Nat.add_comm 1, ← List.length_cons (a := (3 : UInt8))]
      exact s2
  by_cases ho : x.file = file
  · rw [if_pos ho] at s1
    rw [← ho]
    exact s1
  · rw [if_neg ho] at s1 h1
    refine run_file h1 (by omega) ?_
    dsimp only
    rw [Nat.add_assoc, Nat.add_comm 1, ← List.length_cons (a := (4 : UInt8))]
    exact s1
theorem run_rows {l : List UInt8} {at_ n : Nat} {fin : Int} {T : List EntM} (hn : n ≤ 100) (hfin : fin < 9223372036854775808) (xs : List RowM) : ∀ (a : Nat) (file line off : Int), rowsOk n fin off xs = true → 0 ≤ off → 1 ≤ line ∧ line ≤ 1048576 → Stands l a (rowsB file line off xs) →
    RunAt head0 l (a + (rowsB file line off xs).length) ⟨m64 (at_ + (lastOff off xs).toNat), (lastFile file xs).toNat, lastLine line xs⟩ T → RunAt head0 l a ⟨m64 (at_ + off.toNat), file.toNat, line⟩ (rowEnts at_ xs ++ T) := by
  induction xs with
  | nil => intro a file line off _ _ _ _ r; exact r
  | cons x xs ih =>
    intro a file line off hk h0 hl h r
    rw [rowsOk, Bool.and_eq_true] at hk
    obtain ⟨e1, e2, e3, e4, e5, e6⟩ := rowOk_iff hk.1
    rw [rowsB] at h r
    rw [List.length_append, ← Nat.add_assoc] at r
    exact run_row hn hk.1 h0 hl hfin h.left (ih _ _ _ _ hk.2 (by omega) ⟨e3, e4⟩ h.right r)
theorem rowsOk_last {n : Nat} {fin : Int} (xs : List RowM) : ∀ off, rowsOk n fin off xs = true → off ≤ fin → off ≤ lastOff off xs ∧ lastOff off xs ≤ fin := by
  induction xs with
  | nil => intro off _ h; exact ⟨Int.le_refl _, h⟩
  | cons x xs ih =>
    intro off hk _
    rw [rowsOk, Bool.and_eq_true] at hk
    obtain ⟨e1, e2, e3, e4, e5, e6⟩ := rowOk_iff hk.1
    have := ih x.off hk.2 e6
    rw [lastOff]
    omega
theorem lastFile_ok {n : Nat} {fin : Int} (hn : n ≤ 100) (xs : List RowM) : ∀ off f, rowsOk n fin off xs = true → (1 ≤ f ∧ f ≤ 100) → 1 ≤ lastFile f xs ∧ lastFile f xs ≤ 100 := by
  induction xs with
  | nil => intro off f _ h; exact h
  | cons x xs ih =>
    intro off f hk _
    rw [rowsOk, Bool.and_eq_true] at hk
    obtain ⟨e1, e2, e3, e4, e5, e6⟩ := rowOk_iff hk.1
    exact ih x.off x.file hk.2 (by omega)
theorem runOk_iff {n : Nat} {r : RunM} (h : runOk n r = true) : 0 ≤ r.end_ ∧ rowsOk n r.end_ 0 r.rows = true := by
  unfold runOk at h
  rw [Bool.and_eq_true, decide_eq_true_eq] at h
  exact h
/-- A run's program. -/
theorem run_run {l : List UInt8} {a n : Nat} {r : RunM} {T : List EntM} (hn : n ≤ 100) (hk : runOk n r = true) (hat : r.at_ < 18446744073709551616) (hfin : r.end_ < 9223372036854775808) (h : Stands l a (runB r)) (c : RunAt head0 l (a + (runB r).length) st0 T) : RunAt head0 l a st0 (runEnts r ++ T) := by
  obtain ⟨k0, k1⟩ := runOk_iff hk
  have hlo := rowsOk_last r.rows 0 k1 k0
  have hlf := lastFile_ok hn r.rows 0 1 k1 (by omega)
  have e : runB r = ([0, 9, 2] ++ fixed r.at_ 8) ++ (rowsB 1 1 0 r.rows ++ endB (lastOff 0 r.rows) r.end_) := by unfold runB; rw [List.append_assoc]
  have e1 : ([0, 9, 2] ++ fixed r.at_ 8 : List UInt8).length = 11 := by simp [length_fixed]
  rw [e] at h c
  rw [List.length_append, e1, List.length_append] at c
  have hs := h.left
  have hw := h.right
  rw [e1] at hw
  have hr := hw.left
  have he := hw.right
  clear e h hw
  refine run_set hs hat ?_
  unfold runEnts
  rw [List.append_assoc]
  have g := run_rows (at_ := r.at_) (T := [⟨m64 (r.at_ + r.end_.toNat), lastFile 1 r.rows, lastLine 1 r.rows, true⟩] ++ T) hn hfin r.rows (a + 11) 1 1 0 k1 (by omega) (by omega) hr ?_
  · rw [show m64 (r.at_ + (0 : Int).toNat) = r.at_ from Nat.mod_eq_of_lt hat] at g
    exact g
  have hr2 : (⟨m64 (r.at_ + r.end_.toNat), lastFile 1 r.rows, lastLine 1 r.rows, true⟩ : EntM) = StM.tell ⟨m64 (r.at_ + r.end_.toNat), (lastFile 1 r.rows).toNat, lastLine 1 r.rows⟩ true := by
    unfold StM.tell
    simp only [EntM.mk.injEq, and_true, true_and]
    rw [wrap_id (by omega) (by omega)]
    omega
  rw [hr2]
  unfold endB at he c
  by_cases hlt : lastOff 0 r.rows < r.end_
  · rw [if_pos hlt] at he c
    refine run_pc he.left (by omega) ?_
    dsimp only
    rw [m64_add, show r.at_ + (lastOff 0 r.rows).toNat + (r.end_ - lastOff 0 r.rows).toNat = r.at_ + r.end_.toNat by omega]
    have he2 := he.right
    rw [List.length_cons] at he2
    refine run_fin (by rw [Nat.add_assoc _ 1, Nat.add_comm 1]; exact he2) ?_
    simp only [List.length_append, List.length_cons, List.length_nil] at c
    rw [show a + 11 + (rowsB 1 1 0 r.rows).length + 1 + (leb 9 (r.end_ - lastOff 0 r.rows).toNat).length + 3 = a + (11 + ((rowsB 1 1 0 r.rows).length + ((leb 9 (r.end_ - lastOff 0 r.rows).toNat).length + 1 + (0 + 1 + 1 + 1)))) by omega]
    exact c
  · rw [if_neg hlt] at he c
    rw [show lastOff 0 r.rows = r.end_ by omega]
    rw [List.nil_append] at he c
    refine run_fin he ?_
    simp only [List.length_cons, List.length_nil] at c
    rw [show a + 11 + (rowsB 1 1 0 r.rows).length + 3 = a + (11 + ((rowsB 1 1 0 r.rows).length + (0 + 1 + 1 + 1))) by omega]
    exact c
/-- What the runs' numbers are bounded by. -/
def RunM.fits (r : RunM) : Prop := r.at_ < 18446744073709551616 ∧ -9223372036854775808 ≤ r.end_ ∧ r.end_ < 9223372036854775808 ∧ ∀ x ∈ r.rows, -9223372036854775808 ≤ x.off ∧ x.off < 9223372036854775808 ∧ -9223372036854775808 ≤ x.file ∧ x.file < 9223372036854775808 ∧ -9223372036854775808 ≤ x.line ∧ x.line < 9223372036854775808
theorem run_runs {l : List UInt8} {n : Nat} (hn : n ≤ 100) (rs : List RunM) : ∀ a, (∀ r ∈ rs, runOk n r = true) → (∀ r ∈ rs, r.fits) → Stands l a (runsB rs) → a + (runsB rs).length = l.length → RunAt head0 l a st0 (unitEnts rs) := by
  induction rs with
  | nil => intro a _ _ _ he; exact run_nil _ he
  | cons r rs ih =>
    intro a hk hf h he
    have e : runsB (r :: rs) = runB r ++ runsB rs := by unfold runsB; rw [List.flatMap_cons]
    rw [e] at h he
    rw [List.length_append] at he
    have hfr := hf r (by simp)
    unfold unitEnts
    rw [List.flatMap_cons]
    exact run_run hn (hk r (by simp)) hfr.1 hfr.2.2.1 h.left (ih _ (fun x hx => hk x (by simp [hx])) (fun x hx => hf x (by simp [hx])) h.right (by omega))
theorem texts_at {l : List UInt8} (fs : List (List UInt8)) : ∀ a, (∀ s ∈ fs, s ≠ [] ∧ s.length ≤ 128 ∧ 0 ∉ s) → Stands l a (namesB fs) → TextsAt l fs.length a (a + (namesB fs).length) := by
  induction fs with
  | nil => intro a _ _; exact .done a
  | cons s fs ih =>
    intro a hf h
    have e : namesB (s :: fs) = (s ++ [0]) ++ namesB fs := by unfold namesB; rw [List.flatMap_cons]
    rw [e] at h ⊢
    have h2 := h.right
    rw [List.length_append, List.length_singleton, ← Nat.add_assoc] at h2
    have g := ih _ (fun x hx => hf x (by simp [hx])) h2
    refine .step (s := s) (h.left.text (hf s (by simp)).2.2) ?_
    rw [List.length_append, List.length_append, List.length_singleton, ← Nat.add_assoc, ← Nat.add_assoc]
    exact g
theorem head_at {l : List UInt8} {a : Nat} {fs : List (List UInt8)} (hf : ∀ s ∈ fs, s ≠ [] ∧ s.length ≤ 128 ∧ 0 ∉ s) (hn : fs.length ≤ 100) (h : Stands l a (lnFrontB fs)) : HeadAt l a head0 (a + (lnFrontB fs).length) := by
  have hl := lnHeadB_len (fun s hs => (hf s hs).2.1) hn
  have hfl := lnFrontB_len fs
  unfold lnFrontB at h
  have hd := h.right.right
  have hz := h.right.left.fix sz4 (by show _ < 4294967296; omega)
  have hv := h.left
  have hv2 := (Stands.left (x := [5, 0]) (y := [8, 0]) hv).num (s := 2) rfl sz2
  rw [length_fixed] at hd
  simp only [List.length_cons, List.length_nil] at hd hz
  unfold lnHeadB at hd
  have hh := hd.left
  have ht := hd.right
  simp only [List.length_cons, List.length_nil] at ht
  have bb : ∀ k c, ([1, 1, 1, 251, 14, 13, 0, 1, 1, 1, 1, 0, 0, 0, 1, 0, 0, 1, 1, 1, 8, 1, 0, 1, 1, 8] : List UInt8)[k]? = some c → okB l (a + 8 + k) 1 = true ∧ gN l (a + 8 + k) 1 = c.toNat := fun k c hk => by
    have hlt : k < ([1, 1, 1, 251, 14, 13, 0, 1, 1, 1, 1, 0, 0, 0, 1, 0, 0, 1, 1, 1, 8, 1, 0, 1, 1, 8] : List UInt8).length := (List.getElem?_eq_some_iff.1 hk).1
    have e : ([1, 1, 1, 251, 14, 13, 0, 1, 1, 1, 1, 0, 0, 0, 1, 0, 0, 1, 1, 1, 8, 1, 0, 1, 1, 8] : List UInt8) = ([1, 1, 1, 251, 14, 13, 0, 1, 1, 1, 1, 0, 0, 0, 1, 0, 0, 1, 1, 1, 8, 1, 0, 1, 1, 8] : List UInt8).take k ++ (c :: ([1, 1, 1, 251, 14, 13, 0, 1, 1, 1, 1, 0, 0, 0, 1, 0, 0, 1, 1, 1, 8, 1, 0, 1, 1, 8] : List UInt8).drop (k + 1)) := by
      have h1 := List.take_append_drop k ([1, 1, 1, 251, 14, 13, 0, 1, 1, 1, 1, 0, 0, 0, 1, 0, 0, 1, 1, 1, 8, 1, 0, 1, 1, 8] : List UInt8)
      rw [List.drop_eq_getElem_cons hlt, (List.getElem?_eq_some_iff.1 hk).2] at h1
      exact h1.symm
    have h2 := hh
    rw [e] at h2
    have h3 := h2.right.cons.byte
    rw [List.length_take, Nat.min_eq_left (by omega)] at h3
    exact ⟨h3.2, h3.1⟩
  refine ⟨⟨hv2.2, by rw [hv2.1]; rfl⟩, ?_, ?_, ⟨hz.2, by rw [hz.1]; omega⟩, bb 0 1 rfl, (bb 1 1 rfl).1, (bb 2 1 rfl).1, ?_, ?_, ?_, rfl, ?_, ?_⟩
  · have h1 := (Stands.right (x := [5, 0]) (y := [8, 0]) hv).cons.byte
    exact ⟨h1.2, h1.1⟩
  · have h1 := (Stands.right (x := [5, 0, 8]) (y := [0]) hv).byte
    exact ⟨h1.2, h1.1⟩
  · have h1 := bb 3 251 rfl
    exact ⟨h1.1, by rw [show a + 11 = a + 8 + 3 from rfl, h1.2]; rfl⟩
  · have h1 := bb 4 14 rfl
    exact ⟨h1.1, h1.2, by decide⟩
  · have h1 := bb 5 13 rfl
    exact ⟨h1.1, h1.2, by decide⟩
  · intro i hi
    have hi' : i < 12 := hi
    have h1 := bb (6 + i) ([0, 1, 1, 1, 1, 0, 0, 0, 1, 0, 0, 1][i]?.getD 0) (by
      have : i = 0 ∨ i = 1 ∨ i = 2 ∨ i = 3 ∨ i = 4 ∨ i = 5 ∨ i = 6 ∨ i = 7 ∨ i = 8 ∨ i = 9 ∨ i = 10 ∨ i = 11 := by omega
      rcases this with rfl | rfl | rfl | rfl | rfl | rfl | rfl | rfl | rfl | rfl | rfl | rfl <;> rfl)
    rw [← Nat.add_assoc] at h1
    exact h1
  · refine ⟨a + 31, ⟨bb 18 1 rfl, bb 19 1 rfl, bb 20 8 rfl, 1, 1, ?_, by decide, ?_⟩, ⟨bb 23 1 rfl, bb 24 1 rfl, bb 25 8 rfl, fs.length, (leb 9 fs.length).length, ?_, hn, ?_⟩⟩
    · have h1 : Stands l (a + 29) (leb 9 1) := (Stands.right (x := [1, 1, 1, 251, 14, 13, 0, 1, 1, 1, 1, 0, 0, 0, 1, 0, 0, 1, 1, 1, 8]) (y := [1, 0, 1, 1, 8]) hh).cons
      exact h1.leb (by decide)
    · have h1 : Stands l (a + 30) [0] := (Stands.right (x := [1, 1, 1, 251, 14, 13, 0, 1, 1, 1, 1, 0, 0, 0, 1, 0, 0, 1, 1, 1, 8, 1]) (y := [0, 1, 1, 8]) hh).cons
      exact .step (s := []) (Stands.text (s := []) h1 (by simp)) (.done _)
    · exact ht.left.leb (by omega)
    · have h1 := texts_at fs _ hf ht.right
      have e : a + (lnFrontB fs).length = a + 34 + (leb 9 fs.length).length + (namesB fs).length := by
        rw [hfl]
        unfold lnHeadB
        simp only [List.length_append, List.length_cons, List.length_nil]
        omega
      rw [e]
      exact h1
/-- A unit among bytes. -/
theorem unit_at {p q : List UInt8} {fs : List (List UInt8)} {rs : List RunM} {T : List EntM} (hf : faultyL fs rs = 0) (hl : fs.length + rs.length + nrows rs ≤ 400) (hr : ∀ r ∈ rs, r.fits) (c : UnitsAt (p ++ (unitB fs rs ++ q)) (p.length + (unitB fs rs).length) T) : UnitsAt (p ++ (unitB fs rs ++ q)) p.length (unitEnts rs ++ T) := by
  obtain ⟨h1, h2, h3, h4⟩ := faulty_ok hf
  have hb := lnBodyB_le hf hl
  have hu := unitB_len fs rs
  have hs : Stands (p ++ (unitB fs rs ++ q)) p.length (unitB fs rs) := ⟨p, q, rfl, rfl⟩
  have hz := (show Stands _ _ (fixed (lnBodyB fs rs).length 4 ++ lnBodyB fs rs) from hs).left.fix sz4 (by show _ < 4294967296; omega)
  have he : (p ++ (unitB fs rs ++ q)).take (p.length + (unitB fs rs).length) = p ++ unitB fs rs := by
    rw [← List.append_assoc]
    exact List.take_left' (by simp)
  have hs2 : Stands (p ++ unitB fs rs) p.length (unitB fs rs) := ⟨p, [], by simp, rfl⟩
  have hs3 : Stands (p ++ unitB fs rs) (p.length + 4) (lnFrontB fs ++ runsB rs) := by
    have := (show Stands _ _ (fixed (lnBodyB fs rs).length 4 ++ lnBodyB fs rs) from hs2).right
    rw [length_fixed] at this
    exact this
  have hlb : (lnBodyB fs rs).length = (lnFrontB fs).length + (runsB rs).length := by unfold lnBodyB; rw [List.length_append]
  refine UnitsAt.unit (h := head0) (p := p.length + 4 + (lnFrontB fs).length) (e := p.length + (unitB fs rs).length) (by simp only [List.length_append]; omega) hz.2 (by rw [hz.1]; omega) (by simp only [List.length_append]; omega) ?_ ?_ c
  · rw [he]
    exact head_at h1 h2 hs3.left
  · rw [he]
    exact run_runs h2 rs _ h4 hr hs3.right (by rw [List.length_append]; omega)
theorem units_one {fs : List (List UInt8)} {rs : List RunM} (hf : faultyL fs rs = 0) (hl : fs.length + rs.length + nrows rs ≤ 400) (hr : ∀ r ∈ rs, r.fits) : UnitsAt (unitB fs rs) 0 (unitEnts rs) := by
  have h := unit_at (p := []) (q := []) (T := []) hf hl hr (by
    have : UnitsAt (unitB fs rs) (unitB fs rs).length [] := .done
    simpa using this)
  simpa using h
theorem units_two {fs : List (List UInt8)} {rs : List RunM} (hf : faultyL fs rs = 0) (hl : fs.length + rs.length + nrows rs ≤ 400) (hr : ∀ r ∈ rs, r.fits) : UnitsAt (unitB fs rs ++ unitB fs rs) 0 (unitEnts rs ++ unitEnts rs) := by
  have h2 := unit_at (p := unitB fs rs) (q := []) (T := []) hf hl hr (by
    have : UnitsAt (unitB fs rs ++ unitB fs rs) (unitB fs rs ++ unitB fs rs).length [] := .done
    simpa using this)
  have h := unit_at (p := []) (q := unitB fs rs) (T := unitEnts rs) hf hl hr (by simpa using h2)
  simpa using h
theorem runEnts_len (r : RunM) : (runEnts r).length = r.rows.length + 1 := by unfold runEnts rowEnts; simp
theorem unitEnts_len (rs : List RunM) : (unitEnts rs).length = nrows rs + rs.length := by
  induction rs with
  | nil => rfl
  | cons r rs ih =>
    unfold unitEnts nrows at *
    rw [List.flatMap_cons, List.length_append, ih, runEnts_len, List.map_cons, List.sum_cons, List.length_cons]
    omega
end Go.Proofs.Ytmpmkjlkhlagfaa
namespace Go.Proofs.Ytmpmkjlkhlagfaa
open Go.RowKit Go.Fd
def encRow (r : RowM) : List Value := [.int .i64 r.off, .int .i64 r.file, .int .i64 r.line]
def encRun (p : RunM × Value) : List Value := [.int .u64 (p.1.at_ : Int), p.2, .int .i64 p.1.end_]
def encEnt (e : EntM) : List Value := [.int .u64 (e.addr : Int), .int .i64 e.file, .int .i64 e.line, .bool e.fin]
/-- Runs in memory. -/
structure RunsAt (w : World) (v : Value) (rs : List RunM) (L : List (RunM × Value)) : Prop where
  eq : rs = L.map (·.1)
  rd : RdR 3 encRun w v L
  rows : ∀ p ∈ L, RdR 3 encRow w p.2 p.1.rows
theorem RunsAt.mono {w w' : World} {v : Value} {rs : List RunM} {L : List (RunM × Value)} (h : RunsAt w v rs L) (hb : Below w.heap.size w w') : RunsAt w' v rs L := ⟨h.eq, h.rd.mono hb, fun p hp => (h.rows p hp).mono hb⟩
theorem cells_rd {α : Type} {n : Nat} {enc : α → List Value} {w : World} {a : Option Addr} {m c k : Nat} {l : List α} {x : α} (hn : ∀ x, (enc x).length = n) (h0 : 0 < n) (h : RdR n enc w (.slice a m c) l) (hk : l[k]? = some x) : ∃ b o, a = some ⟨b, o, none⟩ ∧ ∀ j v, (enc x)[j]? = some v → w.cell? ⟨b, o + k * n + j, none⟩ = some v := by
  obtain ⟨a', cap, hv, -, -, hc⟩ := h.open hn
  injection hv with h1 h2 h3
  subst h1
  obtain ⟨b, o, ha, hcc⟩ := hc k x hk h0
  refine ⟨b, o, ha, fun j v hj => ?_⟩
  have h10 : j < n := by have := (List.getElem?_eq_some_iff.1 hj).1; rwa [hn] at this
  have := (hcc j h10).trans hj
  rwa [← Nat.add_assoc] at this
theorem row_cells {w : World} {a : Option Addr} {m c k : Nat} {l : List RowM} {x : RowM} (h : RdR 3 encRow w (.slice a m c) l) (hk : l[k]? = some x) :
    ∃ b o, a = some ⟨b, o, none⟩ ∧ w.cell? ⟨b, o + k * 3, none⟩ = some (.int .i64 x.off) ∧ w.cell? ⟨b, o + k * 3 + 1, none⟩ = some (.int .i64 x.file) ∧ w.cell? ⟨b, o + k * 3 + 2, none⟩ = some (.int .i64 x.line) := by
  obtain ⟨b, o, ha, hd⟩ := cells_rd (enc := encRow) (n := 3) (fun _ => rfl) (by decide) h hk
  exact ⟨b, o, ha, hd 0 _ rfl, hd 1 _ rfl, hd 2 _ rfl⟩
theorem run_cells {w : World} {a : Option Addr} {m c k : Nat} {l : List (RunM × Value)} {x : RunM × Value} (h : RdR 3 encRun w (.slice a m c) l) (hk : l[k]? = some x) :
    ∃ b o, a = some ⟨b, o, none⟩ ∧ w.cell? ⟨b, o + k * 3, none⟩ = some (.int .u64 (x.1.at_ : Int)) ∧ w.cell? ⟨b, o + k * 3 + 1, none⟩ = some x.2 ∧ w.cell? ⟨b, o + k * 3 + 2, none⟩ = some (.int .i64 x.1.end_) := by
  obtain ⟨b, o, ha, hd⟩ := cells_rd (enc := encRun) (n := 3) (fun _ => rfl) (by decide) h hk
  exact ⟨b, o, ha, hd 0 _ rfl, hd 1 _ rfl, hd 2 _ rfl⟩
/-- put of bytes in a block that was made just ahead. -/
theorem putD_lit (g base : Nat) (l m : List UInt8) (cs : Array Value) (n : Nat) (w : World) (hd : DrAt w base g l) (hc : cs = (m.map B).toArray) (hn0 : n = m.length) (hn : l.length + m.length ≤ 140737488355328) (hbase : base ≤ w.heap.size) :
    Calls Try.prog 18 #[.pointer (some ⟨g, 0, none⟩), .slice (some ⟨w.heap.size, 0, none⟩) n n] (w.alloc (.cells cs 5)) fun r w' => r = .returned (.tuple #[]) ∧ DrAt w' base g (l ++ m) ∧ Below base w w' ∧ KeepF g w w' := by
  have hb := below_alloc w (.cells cs 5)
  refine (putD_any g base l m _ _ (hd.mono hb) (bs_lit w m cs n hc hn0) hn (Nat.le_trans hbase hb.size)).mono ?_
  rintro r w' ⟨h1, h2, h3, h4⟩
  exact ⟨h1, h2, (hb.mono hbase).trans h3, (KeepF.below hb).trans h4⟩
set_option maxRecDepth 100000 in
theorem numD_any (g base n size : Nat) (l : List UInt8) (w : World) (hd : DrAt w base g l) (hs : size ≤ 8) (hl : l.length ≤ 1000000000) (hbase : base ≤ w.heap.size) :
    Calls Try.prog 21 #[.pointer (some ⟨g, 0, none⟩), .int .u64 n, .int .i64 size] w fun r w' => r = .returned (.tuple #[]) ∧ DrAt w' base g (l ++ fixed n size) ∧ Below base w w' ∧ KeepF g w w' := by
  have HD := Lib.hid hd
  clear hd
  go_enter Try.func21, Try.ntmps21
  go_wp2
  go_loopw [8] (fun j wx => ∃ i : Nat, j = .int .i64 i ∧ i ≤ size ∧ Hid (DrAt wx base g (l ++ fixed n i)) ∧ Hid (Below base w wx) ∧ Hid (KeepF g w wx)) (fun j _ => size - (intOf j).toNat)
  case atStart => exact ⟨0, rfl, Nat.zero_le _, by simpa [Hid, fixed] using HD.out, Below.refl _ _, KeepF.refl _ _⟩
  case round =>
    obtain ⟨i, rfl, hi, HO, HB, HK⟩ := hrel
    by_cases hlt : i < size
    · have HSH := Lib.hid (shr_byte n i)
      have HP := Lib.hid (fun (cs : Array Value) (hc : cs = ([UInt8.ofNat (n / 256 ^ i)].map B).toArray) => putD_lit g base _ [UInt8.ofNat (n / 256 ^ i)] cs 1 _ HO.out hc rfl (by rw [List.length_append, length_fixed]; simp; omega) (Nat.le_trans hbase HB.out.size))
      have HFS := Lib.hid (show (l ++ fixed n i) ++ [UInt8.ofNat (n / 256 ^ i)] = l ++ fixed n (i + 1) by rw [fixed_snoc, ← List.append_assoc])
      have hw8 : IntKind.i64.wrap (8 * (i : Int)) = 8 * (i : Int) := by
        have := i64_small (n := 8 * i) (by omega)
        simpa using this
      go_wp2_with (go_at_call 18; refine (HP.out _ (by rw [HSH.out]; rfl)).mono ?_; rintro e w1 ⟨rfl, hd1, hb1, hk1⟩; have HD1 := Lib.hid (show DrAt w1 base g (l ++ fixed n (i + 1)) by rw [← HFS.out]; exact hd1); have HB1 := Lib.hid (HB.out.trans hb1); have HK1 := Lib.hid (HK.out.trans hk1); clear hd1 hb1 hk1)
      go_roundw
      case rel => exact ⟨i + 1, by go_num, by omega, HD1.out, HB1.out, HK1.out⟩
      case measure => simp [intOf] <;> omega
    · obtain rfl : i = size := by omega
      go_wp2
      go_end0
      exact ⟨rfl, HO.out, HB.out, HK.out⟩
set_option maxRecDepth 100000 in
theorem lebD_any (g base n : Nat) (op : UInt8) (l : List UInt8) (w : World) (hd : DrAt w base g l) (hl : l.length ≤ 1000000000) (hn : n < 9223372036854775808) (hbase : base ≤ w.heap.size) :
    Calls Try.prog 35 #[.pointer (some ⟨g, 0, none⟩), .int .u8 op.toNat, .int .i64 n] w fun r w' => r = .returned (.tuple #[]) ∧ DrAt w' base g (l ++ op :: leb 9 n) ∧ Below base w w' ∧ KeepF g w w' := by
  have HP := Lib.hid (putD_lit g base l [op] #[.int .u8 op.toNat] 1 w hd rfl rfl (by simp; omega) hbase)
  have hcv : IntKind.u64.wrap (n : Int) = n := by rw [IntKind.wrap_u64]; omega
  go_enter Try.func35, Try.ntmps35
  go_wp2_with (first
    | (go_at_call 18; refine HP.out.mono ?_; rintro e w1 ⟨rfl, hd1, hb1, hk1⟩; have HD1 := Lib.hid hd1; have HB1 := Lib.hid hb1; have HK1 := Lib.hid hk1; have HLE := Lib.hid (octLeb_any n w1 (by omega)); clear hd1 hb1 hk1 HP)
    | (go_at_call 34; go_must (refine HLE.out.mono ?_; rintro e w2 ⟨v2, rfl, hv2, hb2⟩; have HPP := Lib.hid (putD_any g base (l ++ [op]) (leb 9 n) v2 w2 (HD1.out.mono hb2) hv2.bs (by have := (leb_le' n).1; rw [List.length_append]; simp; omega) (Nat.le_trans (Nat.le_trans hbase HB1.out.size) hb2.size)); have HB2 := Lib.hid (HB1.out.trans (hb2.mono (Nat.le_trans hbase HB1.out.size))); have HK2 := Lib.hid (HK1.out.trans (KeepF.below hb2)); clear hv2 hb2))
    | (go_at_call 18; go_must (refine HPP.out.mono ?_; rintro e w3 ⟨rfl, hd3, hb3, hk3⟩; have HD3 := Lib.hid hd3; have HB3 := Lib.hid (HB2.out.trans hb3); have HK3 := Lib.hid (HK2.out.trans hk3); clear hd3 hb3 hk3)))
  go_end0
  refine ⟨rfl, ?_, HB3.out, HK3.out⟩
  have := HD3.out
  rw [List.append_assoc] at this
  exact this
end Go.Proofs.Ytmpmkjlkhlagfaa
namespace Go.Proofs.Ytmpmkjlkhlagfaa
open Go.RowKit Go.Fd
theorem rows_ok_at {n : Nat} {fin : Int} (xs : List RowM) : ∀ (off : Int) (k : Nat) (x : RowM), rowsOk n fin off xs = true → xs[k]? = some x → rowOk x (lastOff off (xs.take k)) fin n = true := by
  induction xs with
  | nil => intro off k x _ h; simp at h
  | cons y ys ih =>
    intro off k x hk h
    rw [rowsOk, Bool.and_eq_true] at hk
    cases k with
    | zero => simp at h; subst h; exact hk.1
    | succ k =>
      rw [List.take_succ_cons, lastOff]
      exact ih y.off k x hk.2 (by simpa using h)
theorem last_snoc (xs : List RowM) (x : RowM) : ∀ o f l, lastOff o (xs ++ [x]) = x.off ∧ lastFile f (xs ++ [x]) = x.file ∧ lastLine l (xs ++ [x]) = x.line := by
  induction xs with
  | nil => intro o f l; exact ⟨rfl, rfl, rfl⟩
  | cons y ys ih => intro o f l; exact ih _ _ _
theorem rowsB_snoc (xs : List RowM) (x : RowM) : ∀ f l o, rowsB f l o (xs ++ [x]) = rowsB f l o xs ++ rowB (lastFile f xs) (lastLine l xs) (lastOff o xs) x := by
  induction xs with
  | nil => intro f l o; show rowB f l o x ++ [] = [] ++ _; rw [List.append_nil]; rfl
  | cons y ys ih =>
    intro f l o
    show rowB f l o y ++ rowsB y.file y.line y.off (ys ++ [x]) = (rowB f l o y ++ rowsB y.file y.line y.off ys) ++ _
    rw [ih, List.append_assoc]
    rfl
theorem lebD_int {z : Int} (n : Nat) {g base : Nat} {l : List UInt8} {w : World} (op : UInt8) (hd : DrAt w base g l) (hl : l.length ≤ 1000000000) (hz : z = n) (hn : n < 9223372036854775808) (hbase : base ≤ w.heap.size) {o : Int} (ho : o = op.toNat) :
    Calls Try.prog 35 #[.pointer (some ⟨g, 0, none⟩), .int .u8 o, .int .i64 z] w fun r w' => r = .returned (.tuple #[]) ∧ DrAt w' base g (l ++ op :: leb 9 n) ∧ Below base w w' ∧ KeepF g w w' := by
  subst hz ho
  exact lebD_any g base n op l w hd hl hn hbase
/-- A whole value into a block of its own. -/
theorem wpList_boxA {P : Program} {ops : Array Oper} {rest : List Oper} {Q : Exit → Act → World → Prop} {a : Act} {w : World} {d : Option Tmp} {ty t : TypeId} {pos : String} {aft : Array Edge} {x : Operand} {cs : Array Value} (hx : a.eval x = .agg cs)
    (h : ∀ w1, w1.heap[w.heap.size]? = some (.cells cs t (0, 0)) → Below w.heap.size w w1 → w.heap.size < w1.heap.size → wpList P ops Q rest (a.put d (.pointer (some ⟨w.heap.size, 0, none⟩))) w1) :
    wpList P ops Q (⟨d, .box t x, ty, pos, aft, none⟩ :: rest) a w := by
  refine wpList_val (w' := w.alloc (.cells cs t)) (v := .pointer (some ⟨w.heap.size, 0, none⟩)) rfl ?_ (h (w.alloc (.cells cs t)) (heap_alloc_last w _) (below_alloc w _) (by rw [World.size_alloc]; omega))
  simp only [execOp, hx]
  rfl
theorem row3 {x : RowM} {w : World} {g : Nat} {fr : Nat × Nat} {t : TypeId} (h : w.heap[g]? = some (.cells (encRow x).toArray t fr)) : w.cell? ⟨g, 0, none⟩ = some (.int .i64 x.off) ∧ w.cell? ⟨g, 1, none⟩ = some (.int .i64 x.file) ∧ w.cell? ⟨g, 2, none⟩ = some (.int .i64 x.line) :=
  ⟨cell_rec h 0, cell_rec h 1, cell_rec h 2⟩
theorem run3 {a v e : Value} {w : World} {g : Nat} {fr : Nat × Nat} {t : TypeId} (h : w.heap[g]? = some (.cells #[a, v, e] t fr)) : w.cell? ⟨g, 0, none⟩ = some a ∧ w.cell? ⟨g, 1, none⟩ = some v ∧ w.cell? ⟨g, 2, none⟩ = some e :=
  ⟨cell_rec h 0, cell_rec h 1, cell_rec h 2⟩
set_option maxHeartbeats 4000000 in
set_option maxRecDepth 100000 in
theorem runD_any (w0 : World) (g base n : Nat) (l : List UInt8) (r : RunM) (rv : Value) (w : World) (hd : DrAt w base g l) (hr : RdR 3 encRow w0 rv r.rows) (h0 : Below w0.heap.size w0 w) (hB : w0.heap.size ≤ base) (hn : n ≤ 100) (hk : runOk n r = true) (hf : r.fits) (hl : l.length ≤ 100000000) (hm : r.rows.length ≤ 1000) (hbase : base ≤ w.heap.size) :
    Calls Try.prog 22 #[.pointer (some ⟨g, 0, none⟩), .agg (encRun (r, rv)).toArray] w fun e w' => e = .returned (.int .i64 ((l.length + 3 : Nat) : Int)) ∧ DrAt w' base g (l ++ runB r) ∧ Below base w w' ∧ KeepF g w w' := by
  obtain ⟨at_, rows, fin⟩ := r
  obtain ⟨k0, k1⟩ := runOk_iff hk
  obtain ⟨f1, f2, f3, f4⟩ := hf
  simp only at k0 k1 f1 f2 f3 f4 hr hm
  have K1 := Lib.hid k1
  have HR := Lib.hid hr
  have H0 := Lib.hid (h0.trans (Below.refl w0.heap.size w))
  have HC := Lib.hid hd
  have HBB := Lib.hid hB
  obtain ⟨m, ra, rc, hml, rfl, _, _⟩ := hr.shape
  have HM := Lib.hid hml.out
  have hm9 : m ≤ 1000 := by have := hml.out; omega
  have HLO := Lib.hid (rowsOk_last rows 0 k1 k0)
  obtain ⟨F, rfl⟩ := Int.eq_ofNat_of_zero_le k0
  have hgw : g < w.heap.size := by
    obtain ⟨v, h1, -, -⟩ := hd
    exact (Array.getElem?_eq_some_iff.1 h1).1
  have hne : w.heap.size ≠ g := by omega
  obtain ⟨L, hL⟩ : ∃ L, L = l.length := ⟨_, rfl⟩
  have HLL := Lib.hid hL
  have hL9 : L ≤ 100000000 := by omega
  clear hk k1 f4 hr h0 hd hml hB hL hm hl
  show Calls Try.prog 22 #[.pointer (some ⟨g, 0, none⟩), .agg #[.int .u64 (at_ : Int), .slice ra m rc, .int .i64 (F : Int)]] w _
  go_enter Try.func22, Try.ntmps22
  go_wp2_with (first
    | ((with_reducible show wpList _ _ _ (⟨some 3, .box _ _, _, _, _, _⟩ :: _) _ _); go_must (refine wpList_boxA rfl ?_; intro w1 hx1 hb1 hs1; have HX := Lib.hid hx1; have HBc := Lib.hid (hb1.mono hbase); have HKc := Lib.hid (KeepF.below (g := g) hb1); have HC2 := Lib.hid (HC.out.mono hb1); clear HC; have HC := HC2; clear HC2; have hsz := HBc.out.size; clear hx1 hb1))
    | (go_at_call 18; go_must (refine (putD_lit g base l [0, 9, 2] _ 3 _ HC.out rfl rfl (by have := HLL.out; simp; omega) (Nat.le_trans hbase hsz)).mono ?_; rintro e w2 ⟨rfl, hd2, hb2, hk2⟩; have HXn := Lib.hid (hk2 _ _ _ _ hne (by decide) HX.out); have HBn := Lib.hid (HBc.out.trans hb2); have HKn := Lib.hid (HKc.out.trans hk2); have HCn := Lib.hid hd2; clear hd2 hb2 hk2 HX HBc HKc HC; have HX := HXn; have HBc := HBn; have HKc := HKn; have HC := HCn; clear HXn HBn HKn HCn; have hsz := HBc.out.size; obtain ⟨v2, hg2, hbg2, hv2⟩ := HC.out; obtain ⟨m2, a2, q2, hm2, rfl, _, _⟩ := hv2.shape; have hm2' : m2 = L + 3 := (by have := hm2.out; have := HLL.out; rw [List.length_append] at *; simp at *; omega); subst hm2'; have c9 := cell_rec hg2 0; obtain ⟨x0, x1, x2⟩ := run3 HX.out; clear hm2 hg2 hv2 hbg2))
    | (go_at_call 21; go_must (refine (numD_any g base at_ 8 _ _ HC.out (by omega) (by have := HLL.out; rw [List.length_append]; simp; omega) (Nat.le_trans hbase hsz)).mono ?_; rintro e w3 ⟨rfl, hd3, hb3, hk3⟩; clear c9 x0 x1 x2; have HXn := Lib.hid (hk3 _ _ _ _ hne (by decide) HX.out); have HBn := Lib.hid (HBc.out.trans hb3); have HKn := Lib.hid (HKc.out.trans hk3); have HCn := Lib.hid hd3; clear hd3 hb3 hk3 HX HBc HKc HC; have HX := HXn; have HBc := HBn; have HKc := HKn; have HC := HCn; clear HXn HBn HKn HCn; have hsz := HBc.out.size; obtain ⟨x0, x1, x2⟩ := run3 HX.out)))
  clear x0 x1 x2
  have hT9 : (l ++ [0, 9, 2] ++ fixed at_ 8).length ≤ 100000011 := by have := HLL.out; simp only [List.length_append, length_fixed, List.length_cons, List.length_nil]; omega
  have HTE := Lib.hid (show runB ⟨at_, rows, (F : Int)⟩ = [0, 9, 2] ++ (fixed at_ 8 ++ (rowsB 1 1 0 rows ++ endB (lastOff 0 rows) F)) from rfl)
  generalize hT0 : l ++ [0, 9, 2] ++ fixed at_ 8 = T0 at *
  have HT0 := Lib.hid hT0
  clear hT0
  have HCs := Lib.hid HC.out
  have HBs := Lib.hid HBc.out
  have HKs := Lib.hid HKc.out
  have HXs := Lib.hid HX.out
  clear HC HBc HKc HX hsz
  go_loopw [6, 7, 8, 25] (fun fw lw ow iw wr => ∃ (k : Nat) (fv lv : Int) (ov : Nat), fw = .int .i64 fv ∧ lw = .int .i64 lv ∧ ow = .int .i64 (ov : Int) ∧ iw = .int .i64 (k : Int) ∧ k ≤ m ∧ 1 ≤ fv ∧ fv ≤ 100 ∧ 1 ≤ lv ∧ lv ≤ 1048576 ∧ ov ≤ F ∧ Hid (fv = lastFile 1 (rows.take k) ∧ lv = lastLine 1 (rows.take k) ∧ (ov : Int) = lastOff 0 (rows.take k)) ∧ Hid (DrAt wr base g (T0 ++ rowsB 1 1 0 (rows.take k))) ∧ Hid (Below base w wr) ∧ Hid (KeepF g w wr) ∧ Hid (wr.heap[w.heap.size]? = some (.cells #[.int .u64 (at_ : Int), .slice ra m rc, .int .i64 (F : Int)] 39 (0, 0)))) (fun _ _ _ iw _ => m - (intOf iw).toNat)
  case atStart => exact ⟨0, 1, 1, 0, rfl, rfl, rfl, rfl, Nat.zero_le _, by decide, by decide, by decide, by decide, Nat.zero_le _, ⟨rfl, rfl, rfl⟩, by simpa [Hid, rowsB] using HCs.out, HBs.out, HKs.out, HXs.out⟩
  case round =>
    obtain ⟨k, fv, lv, ov, rfl, rfl, rfl, rfl, hk, hf1, hf2, hl1, hl2, hov, HE, HC, HBc, HKc, HX⟩ := hrel
    have hsz := HBc.out.size
    have HTL := Lib.hid (show (T0 ++ rowsB 1 1 0 (rows.take k)).length ≤ 100100000 by
      have h1 := rowsB_len (rows.take k) 1 1 0
      rw [List.length_take] at h1
      rw [List.length_append]
      omega)
    by_cases hlt : k < m
    · have X1 := Lib.hid (show rows[k]? = some (rows[k]'(by have := HM.out; omega)) from List.getElem?_eq_getElem _)
      generalize rows[k]'(by have := HM.out; omega) = x at *
      have HOK := rowOk_iff (rows_ok_at rows 0 k x K1.out X1.out)
      rw [← HE.out.2.2] at HOK
      have HTK := Lib.hid (show rows.take (k + 1) = rows.take k ++ [x] from take_snoc' rows k x X1.out)
      obtain ⟨b2, o2, ha2, u0, u1, u2⟩ := row_cells (HR.out.mono (H0.out.trans (Below.mono HBc.out HBB.out))) X1.out
      subst ha2
      obtain ⟨xo, xf, xl⟩ := x
      simp only at HOK u0 u1 u2
      obtain ⟨e1, e2, e3, e4, e5, e6⟩ := HOK
      obtain ⟨f, rfl⟩ := Int.eq_ofNat_of_zero_le (show 0 ≤ xf by omega)
      obtain ⟨q, rfl⟩ := Int.eq_ofNat_of_zero_le (show 0 ≤ xo by omega)
      have HRB := Lib.hid (show ∀ P, P = rowB fv lv ov ⟨q, f, xl⟩ → T0 ++ (rowsB 1 1 0 (rows.take k) ++ P) = T0 ++ rowsB 1 1 0 (rows.take (k + 1)) from fun P hP => by
        rw [HTK.out, rowsB_snoc, ← HE.out.1, ← HE.out.2.1, ← HE.out.2.2, hP])
      have HLS := Lib.hid (show (f : Int) = lastFile 1 (rows.take (k + 1)) ∧ xl = lastLine 1 (rows.take (k + 1)) ∧ (q : Int) = lastOff 0 (rows.take (k + 1)) by
        have := last_snoc (rows.take k) ⟨q, f, xl⟩ 0 1 1
        rw [← HTK.out] at this
        exact ⟨this.2.1.symm, this.2.2.symm, this.1.symm⟩)
      have b1 := (leb_le' f).1
      have b2' := sleb_le' (xl - lv)
      have b3 := (leb_le' (q - ov)).1
      have hws : IntKind.i64.wrap (xl - lv) = xl - lv := by simp only [IntKind.wrap_i64]; omega
      have hwo : IntKind.i64.wrap ((q : Int) - (ov : Int)) = ((q - ov : Nat) : Int) := by simp only [IntKind.wrap_i64]; omega
      have hT19 := HTL.out
      generalize hT1 : rowsB 1 1 0 (rows.take k) = R1 at *
      rw [List.length_append] at hT19
      clear hT1 HTL
      have hqd : ((q : Int) - (ov : Int)).toNat = q - ov := by omega
      have HQD := Lib.hid hqd
      have hnr : wr.heap.size ≠ g := by omega
      clear hqd
      cases hb1 : ((f : Int) != fv) <;> cases hb2 : (xl != lv) <;> cases hb3 : ((q : Int) != (ov : Int))
      all_goals
        go_wp2_with (first
          | ((with_reducible show wpList _ _ _ (⟨none, .store _ _ _, _, _, _, _⟩ :: _) _ _); go_must (refine wpList_storeNew rfl rfl (by kernel_rfl) rfl (by simp [Value.oneCell']) ?_; intro w5 hh5 hb5; have HW := Lib.hid (show w5.heap[wr.heap.size]? = some (.cells (encRow ⟨q, f, xl⟩).toArray 41 (0, 0)) from hh5); have HXn := Lib.hid (heap_below hb5 HX.out); have HBn := Lib.hid (HBc.out.trans (hb5.mono (Nat.le_trans hbase hsz))); have HKn := Lib.hid (HKc.out.trans (KeepF.below hb5)); have HCn := Lib.hid (HC.out.mono hb5); clear HX HBc HKc HC u0 u1 u2 hsz; have HX := HXn; have HBc := HBn; have HKc := HKn; have HC := HCn; clear HXn HBn HKn HCn hh5 hb5; have hsz := HBc.out.size; obtain ⟨r0, r1, r2⟩ := row3 HW.out))
          | ((with_reducible show Calls _ 35 #[_, .int .u8 4, _] _ _); go_must (refine (lebD_int f 4 HC.out (by simp; omega) (by with_reducible rfl) (by omega) (Nat.le_trans hbase hsz) (by decide)).mono ?_; rintro e w6 ⟨rfl, hd6, hb6, hk6⟩; have HXn := Lib.hid (hk6 _ _ _ _ hne (by decide) HX.out); have HWn := Lib.hid (hk6 _ _ _ _ hnr (by decide) HW.out); have HBn := Lib.hid (HBc.out.trans hb6); have HKn := Lib.hid (HKc.out.trans hk6); have HCn := Lib.hid hd6; clear hd6 hb6 hk6 HX HBc HKc HC HW r0 r1 r2; have HX := HXn; have HBc := HBn; have HKc := HKn; have HC := HCn; have HW := HWn; clear HXn HBn HKn HCn HWn; have hsz := HBc.out.size; obtain ⟨r0, r1, r2⟩ := row3 HW.out))
          | ((with_reducible show Calls _ 35 #[_, .int .u8 2, _] _ _); go_must (refine (lebD_int (q - ov) 2 HC.out (by simp; omega) (by with_reducible rfl) (by omega) (Nat.le_trans hbase hsz) (by decide)).mono ?_; rintro e w6 ⟨rfl, hd6, hb6, hk6⟩; have HXn := Lib.hid (hk6 _ _ _ _ hne (by decide) HX.out); have HWn := Lib.hid (hk6 _ _ _ _ hnr (by decide) HW.out); have HBn := Lib.hid (HBc.out.trans hb6); have HKn := Lib.hid (HKc.out.trans hk6); have HCn := Lib.hid hd6; clear hd6 hb6 hk6 HX HBc HKc HC HW r0 r1 r2; have HX := HXn; have HBc := HBn; have HKc := HKn; have HC := HCn; have HW := HWn; clear HXn HBn HKn HCn HWn; have hsz := HBc.out.size; obtain ⟨r0, r1, r2⟩ := row3 HW.out))
          | ((with_reducible show Calls _ 18 #[_, _] (World.alloc _ (.cells #[.int .u8 3] _)) _); go_must (refine (putD_lit g base _ [3] _ 1 _ HC.out rfl rfl (by simp; omega) (Nat.le_trans hbase hsz)).mono ?_; rintro e w6 ⟨rfl, hd6, hb6, hk6⟩; have HXn := Lib.hid (hk6 _ _ _ _ hne (by decide) HX.out); have HWn := Lib.hid (hk6 _ _ _ _ hnr (by decide) HW.out); have HBn := Lib.hid (HBc.out.trans hb6); have HKn := Lib.hid (HKc.out.trans hk6); have HCn := Lib.hid hd6; clear hd6 hb6 hk6 HX HBc HKc HC HW r0 r1 r2; have HX := HXn; have HBc := HBn; have HKc := HKn; have HC := HCn; have HW := HWn; clear HXn HBn HKn HCn HWn; have hsz := HBc.out.size; obtain ⟨r0, r1, r2⟩ := row3 HW.out))
          | ((with_reducible show Calls _ 18 #[_, _] (World.alloc _ (.cells #[.int .u8 1] _)) _); go_must (refine (putD_lit g base _ [1] _ 1 _ HC.out rfl rfl (by simp; omega) (Nat.le_trans hbase hsz)).mono ?_; rintro e w6 ⟨rfl, hd6, hb6, hk6⟩; have HXn := Lib.hid (hk6 _ _ _ _ hne (by decide) HX.out); have HWn := Lib.hid (hk6 _ _ _ _ hnr (by decide) HW.out); have HBn := Lib.hid (HBc.out.trans hb6); have HKn := Lib.hid (HKc.out.trans hk6); have HCn := Lib.hid hd6; clear hd6 hb6 hk6 HX HBc HKc HC HW r0 r1 r2; have HX := HXn; have HBc := HBn; have HKc := HKn; have HC := HCn; have HW := HWn; clear HXn HBn HKn HCn HWn; have hsz := HBc.out.size; obtain ⟨r0, r1, r2⟩ := row3 HW.out))
          | (go_at_call 36; go_must (refine (octSleb_any (xl - lv) _ (by omega) (by omega)).mono ?_; rintro e w6 ⟨v6, rfl, hv6, hb6⟩; have HV6 := Lib.hid hv6.bs; obtain ⟨m6, a6, q6, -, rfl, _, _⟩ := hv6.shape; have HXn := Lib.hid (heap_below hb6 HX.out); have HWn := Lib.hid (heap_below hb6 HW.out); have HBn := Lib.hid (HBc.out.trans (hb6.mono (Nat.le_trans hbase hsz))); have HKn := Lib.hid (HKc.out.trans (KeepF.below hb6)); have HCn := Lib.hid (HC.out.mono hb6); clear HX HBc HKc HC HW hsz r0 r1 r2; have HX := HXn; have HW := HWn; have HBc := HBn; have HKc := HKn; have HC := HCn; clear HXn HWn HBn HKn HCn hv6 hb6; have hsz := HBc.out.size; obtain ⟨r0, r1, r2⟩ := row3 HW.out))
          | ((with_reducible show Calls _ 18 #[_, _] _ _); go_must (refine (putD_any g base _ _ _ _ HC.out HV6.out (by simp; omega) (Nat.le_trans hbase hsz)).mono ?_; rintro e w6 ⟨rfl, hd6, hb6, hk6⟩; clear HV6; have HXn := Lib.hid (hk6 _ _ _ _ hne (by decide) HX.out); have HWn := Lib.hid (hk6 _ _ _ _ hnr (by decide) HW.out); have HBn := Lib.hid (HBc.out.trans hb6); have HKn := Lib.hid (HKc.out.trans hk6); have HCn := Lib.hid hd6; clear hd6 hb6 hk6 HX HBc HKc HC HW r0 r1 r2; have HX := HXn; have HBc := HBn; have HKc := HKn; have HC := HCn; have HW := HWn; clear HXn HBn HKn HCn HWn; have hsz := HBc.out.size; obtain ⟨r0, r1, r2⟩ := row3 HW.out)))
        go_quiet (fail)
        go_wp2
        have h := HC.out
        simp only [List.append_assoc, List.cons_append, List.nil_append] at h
        rw [HRB.out] at h
        rotate_left
        · unfold rowB
          dsimp only
          first | rw [if_pos (show (f : Int) = fv by simpa using hb1)] | rw [if_neg (show ¬ (f : Int) = fv by simpa using hb1)]
          first | rw [if_pos (show xl = lv by simpa using hb2)] | rw [if_neg (show ¬ xl = lv by simpa using hb2)]
          first | rw [if_pos (show (q : Int) = (ov : Int) by simpa using hb3)] | rw [if_neg (show ¬ (q : Int) = (ov : Int) by simpa using hb3)]
          simp [HQD.out]
        have HCf := Lib.hid (fun n => h.mono (below_drewN (Below.refl _ _) n))
        go_roundw
        case rel => exact ⟨k + 1, f, xl, q, rfl, rfl, rfl, by go_num, by omega, by omega, by omega, by omega, by omega, by omega, HLS.out, HCf.out _, below_drewN HBc.out _, HKc.out.trans (KeepF.below (below_drewN (Below.refl _ _) _)), HX.out⟩
        case measure => simp [intOf] <;> omega
    · obtain rfl : k = m := by omega
      have htk : rows.take k = rows := List.take_of_length_le (by have := HM.out; omega)
      rw [htk] at HE HC
      have HEB := Lib.hid (show endB (lastOff 0 rows) F = endB ov F by rw [HE.out.2.2])
      obtain ⟨x0, x1, x2⟩ := run3 HX.out
      have HT1 := Lib.hid (show ∀ P, P = endB ov F → T0 ++ (rowsB 1 1 0 rows ++ P) = l ++ runB ⟨at_, rows, (F : Int)⟩ from fun P hP => by
        rw [HTE.out, HEB.out, hP, ← HT0.out]
        simp only [List.append_assoc])
      rw [htk] at HTL
      have hT19 := HTL.out
      have b3 := (leb_le' (F - ov)).1
      have hwo : IntKind.i64.wrap ((F : Int) - (ov : Int)) = ((F - ov : Nat) : Int) := by simp only [IntKind.wrap_i64]; omega
      generalize hT1 : rowsB 1 1 0 rows = R1 at *
      rw [List.length_append] at hT19
      clear hT1 HTL HE htk
      by_cases hend : ov < F
      all_goals
        go_wp2_with (first
          | ((with_reducible show Calls _ 35 #[_, .int .u8 2, _] _ _); go_must (refine (lebD_int (F - ov) 2 HC.out (by simp; omega) (by with_reducible rfl) (by omega) (Nat.le_trans hbase hsz) (by decide)).mono ?_; rintro e w6 ⟨rfl, hd6, hb6, hk6⟩; clear x0 x1 x2; have HXn := Lib.hid (hk6 _ _ _ _ hne (by decide) HX.out); have HBn := Lib.hid (HBc.out.trans hb6); have HKn := Lib.hid (HKc.out.trans hk6); have HCn := Lib.hid hd6; clear hd6 hb6 hk6 HX HBc HKc HC; have HX := HXn; have HBc := HBn; have HKc := HKn; have HC := HCn; clear HXn HBn HKn HCn; have hsz := HBc.out.size))
          | ((with_reducible show Calls _ 18 #[_, _] _ _); go_must (refine (putD_lit g base _ [0, 1, 1] _ 3 _ HC.out rfl rfl (by simp; omega) (Nat.le_trans hbase hsz)).mono ?_; rintro e w6 ⟨rfl, hd6, hb6, hk6⟩; (try clear x0 x1 x2); have HXn := Lib.hid (hk6 _ _ _ _ hne (by decide) HX.out); have HBn := Lib.hid (HBc.out.trans hb6); have HKn := Lib.hid (HKc.out.trans hk6); have HCn := Lib.hid hd6; clear hd6 hb6 hk6 HX HBc HKc HC; have HX := HXn; have HBc := HBn; have HKc := HKn; have HC := HCn; clear HXn HBn HKn HCn; have hsz := HBc.out.size)))
        go_ret
        have h := HC.out
        simp only [List.append_assoc, List.cons_append] at h
        rw [HT1.out] at h
        · exact ⟨by rw [HLL.out]; rfl, h, HBc.out, HKc.out⟩
        · unfold endB
          first
            | rw [if_pos (show (ov : Int) < (F : Int) by omega), show ((F : Int) - (ov : Int)).toNat = F - ov by omega]; simp; done
            | rw [if_neg (show ¬ (ov : Int) < (F : Int) by omega)]; simp; done
end Go.Proofs.Ytmpmkjlkhlagfaa
namespace Go.Proofs.Ytmpmkjlkhlagfaa
open Go.RowKit Go.Fd
set_option maxRecDepth 100000 in
theorem row_any (x : RowM) (off fin : Int) (n : Nat) (w : World) :
    Calls Try.prog 33 #[.agg (encRow x).toArray, .int .i64 off, .int .i64 fin, .int .i64 n] w fun e w' => e = .returned (.bool (rowOk x off fin n)) ∧ Below w.heap.size w w' := by
  obtain ⟨xo, xf, xl⟩ := x
  show Calls Try.prog 33 #[.agg #[.int .i64 xo, .int .i64 xf, .int .i64 xl], .int .i64 off, .int .i64 fin, .int .i64 n] w _
  have HR := Lib.hid (show rowOk ⟨xo, xf, xl⟩ off fin n = (decide (1 ≤ xf) && decide (xf ≤ n) && decide (1 ≤ xl) && decide (xl ≤ 1048576) && decide (off ≤ xo) && decide (xo ≤ fin)) from rfl)
  generalize rowOk ⟨xo, xf, xl⟩ off fin n = R at *
  cases h1 : decide (1 ≤ xf)
  rotate_left
  cases h2 : decide (xf ≤ n)
  rotate_left
  cases h3 : decide (1 ≤ xl)
  rotate_left
  cases h4 : decide (xl ≤ 1048576)
  rotate_left
  cases h5 : decide (off ≤ xo)
  rotate_left
  cases h6 : decide (xo ≤ fin)
  all_goals
    go_enter Try.func33, Try.ntmps33
    go_wp2_with ((with_reducible show wpList _ _ _ (⟨some 4, .box _ _, _, _, _, _⟩ :: _) _ _); go_must (refine wpList_boxA rfl ?_; intro w1 hx1 hb1 hs1; obtain ⟨r0, r1, r2⟩ := run3 hx1; clear hx1))
    go_ret
    refine ⟨?_, hb1⟩
    rw [HR.out]
    simp [*]
theorem fresh_bs {w : World} {base : Nat} {v : Value} {l : List UInt8} (h : Fresh w base v l) : Bs w v l := by
  obtain ⟨b, cap, rfl, -, -, hcap, hc, -⟩ := h
  refine ⟨by simp, _, _, rfl, hcap, (fun h => by cases h), fun j hj => ⟨b, 0, rfl, ?_⟩⟩
  rw [List.length_map] at hj
  rw [Nat.zero_add, hc j hj, List.getElem?_map, List.getElem?_eq_getElem hj]
  rfl
theorem wpList_allocD {ops : Array Oper} {rest : List Oper} {Q : Exit → Act → World → Prop} {a : Act} {w : World} {d : Option Tmp} {ty : TypeId} {pos : String} {aft : Array Edge}
    (h : ∀ w1, DrAt w1 w.heap.size w.heap.size [] → Below w.heap.size w w1 → w.heap.size < w1.heap.size → wpList Try.prog ops Q rest (a.put d (.pointer (some ⟨w.heap.size, 0, none⟩))) w1) :
    wpList Try.prog ops Q (⟨d, .alloc 52, ty, pos, aft, none⟩ :: rest) a w :=
  wpList_val rfl (by kernel_rfl) (h (w.alloc (.cells #[.slice none 0 0] 52)) ⟨_, heap_alloc_last w _, Nat.le_refl _, OB.nil _ _⟩ (below_alloc w _) (by rw [World.size_alloc]; omega))
theorem namesB_snoc (fs : List (List UInt8)) (s : List UInt8) : namesB (fs ++ [s]) = namesB fs ++ (s ++ [0]) := by unfold namesB; rw [List.flatMap_append, List.flatMap_singleton]
set_option maxHeartbeats 1000000 in
set_option maxRecDepth 100000 in
theorem tables_any (fs : List (List UInt8)) (v : Value) (w : World) (hv : Rd S w v fs) (hn : fs.length ≤ 100) (hs : ∀ s ∈ fs, s.length ≤ 128) :
    Calls Try.prog 20 #[v] w fun e w' => ∃ v', e = .returned v' ∧ OB w' w.heap.size v' ([1, 1, 8, 1, 0, 1, 1, 8] ++ (leb 9 fs.length ++ namesB fs)) ∧ Below w.heap.size w w' := by
  have HV := Lib.hid hv
  have HS := Lib.hid hs
  obtain ⟨m, ad, cap, hm, rfl, _, _⟩ := hv.shape
  have HM := Lib.hid hm.out
  have hm9 : m ≤ 100 := by have := hm.out; omega
  clear hv hs hm hn
  go_enter Try.func20, Try.ntmps20
  go_wp2_with (first
    | ((with_reducible show wpList _ _ _ (⟨some 3, .alloc _, _, _, _, _⟩ :: _) _ _); go_must (refine wpList_allocD ?_; intro w1 hd1 hb1 hs1; have HC := Lib.hid hd1; have HB := Lib.hid hb1; have hsz := HB.out.size; clear hd1 hb1))
    | ((with_reducible show Calls _ 18 #[_, _] (World.alloc _ (.cells #[_, _, _, _, _] _)) _); go_must (refine (putD_lit _ w.heap.size _ [1, 1, 8, 1, 0] _ 5 _ HC.out rfl rfl (by simp) hsz).mono ?_; rintro e w2 ⟨rfl, hd2, hb2, hk2⟩; have HCn := Lib.hid hd2; have HBn := Lib.hid (HB.out.trans hb2); clear HC HB hsz hd2 hb2 hk2; have HC := HCn; have HB := HBn; clear HCn HBn; have hsz := HB.out.size))
    | ((with_reducible show Calls _ 18 #[_, _] (World.alloc _ (.cells #[_, _, _] _)) _); go_must (refine (putD_lit _ w.heap.size _ [1, 1, 8] _ 3 _ HC.out rfl rfl (by simp) hsz).mono ?_; rintro e w2 ⟨rfl, hd2, hb2, hk2⟩; have HCn := Lib.hid hd2; have HBn := Lib.hid (HB.out.trans hb2); clear HC HB hsz hd2 hb2 hk2; have HC := HCn; have HB := HBn; clear HCn HBn; have hsz := HB.out.size))
    | (go_at_call 34; go_must (refine (octLeb_any m _ (by omega)).mono ?_; rintro e w2 ⟨v2, rfl, hv2, hb2⟩; have HV2 := Lib.hid hv2.bs; obtain ⟨m2, a2, q2, -, rfl, _, _⟩ := hv2.shape; have HCn := Lib.hid (HC.out.mono hb2); have HBn := Lib.hid (HB.out.trans (hb2.mono hsz)); clear HC HB hsz hv2 hb2; have HC := HCn; have HB := HBn; clear HCn HBn; have hsz := HB.out.size))
    | (go_at_call 18; go_must (refine (putD_any _ w.heap.size _ _ _ _ HC.out HV2.out (by have := (leb_le' m).1; simp; omega) hsz).mono ?_; rintro e w2 ⟨rfl, hd2, hb2, hk2⟩; have HCn := Lib.hid hd2; have HBn := Lib.hid (HB.out.trans hb2); clear HC HB hsz hd2 hb2 hk2 HV2; have HC := HCn; have HB := HBn; clear HCn HBn; have hsz := HB.out.size)))
  have HT0 := Lib.hid (show ∀ P, [] ++ [1, 1, 8, 1, 0] ++ [1, 1, 8] ++ leb 9 m ++ P = [1, 1, 8, 1, 0, 1, 1, 8] ++ (leb 9 m ++ P) from fun P => by simp)
  have hl10 := (leb_le' m).1
  have HTL := Lib.hid (show ([] ++ [1, 1, 8, 1, 0] ++ [1, 1, 8] ++ leb 9 m).length ≤ 18 by simp; omega)
  generalize [] ++ [1, 1, 8, 1, 0] ++ [1, 1, 8] ++ leb 9 m = T0 at *
  have HCs := Lib.hid (show DrAt _ w.heap.size w.heap.size (T0 ++ namesB (fs.take 0)) by simpa [namesB] using HC.out)
  have HBs := Lib.hid HB.out
  clear HC HB hsz hl10
  go_loopw [17] (fun iw wr => ∃ k : Nat, iw = .int .i64 (k : Int) ∧ k ≤ m ∧ Hid (DrAt wr w.heap.size w.heap.size (T0 ++ namesB (fs.take k))) ∧ Hid (Below w.heap.size w wr)) (fun iw _ => m - (intOf iw).toNat)
  case atStart => exact ⟨0, rfl, Nat.zero_le _, HCs.out, HBs.out⟩
  case round =>
    obtain ⟨k, rfl, hk, HC, HB⟩ := hrel
    have hsz := HB.out.size
    by_cases hlt : k < m
    · have X1 := Lib.hid (show fs[k]? = some (fs[k]'(by have := HM.out; omega)) from List.getElem?_eq_getElem _)
      generalize fs[k]'(by have := HM.out; omega) = s at *
      have hsl := HS.out s (List.mem_of_getElem? X1.out)
      have HTK := Lib.hid (show fs.take (k + 1) = fs.take k ++ [s] from take_snoc' fs k s X1.out)
      have HTN := Lib.hid (show T0.length + (namesB (fs.take k)).length ≤ 100000 by
        have := namesB_len (fs := fs.take k) fun x hx => HS.out x (List.mem_of_mem_take hx)
        rw [List.length_take] at this
        have := HTL.out
        omega)
      obtain ⟨ad', cap', e1, _, _, hc⟩ := (HV.out.mono HB.out).open []
      simp only [Value.slice.injEq] at e1
      obtain ⟨rfl, -, rfl⟩ := e1
      obtain ⟨b, off, rfl, hcell⟩ := hc k (by have := HM.out; omega)
      rw [X1.out] at hcell
      simp only [Option.getD_some] at hcell
      clear hc
      have htn := HTN.out
      go_wp2_with (first
        | ((with_reducible show wpList _ _ _ (⟨some 22, .convert _ _ _, _, _, _, _⟩ :: _) _ _); go_must (refine wpList_convS rfl ?_; intro v2 w2 hv2 hb2; have HV2 := Lib.hid (fresh_bs hv2); obtain ⟨m2, a2, q2, -, rfl, _, _⟩ := HV2.out.shape; have HCn := Lib.hid (HC.out.mono hb2); have HBn := Lib.hid (HB.out.trans (hb2.mono hsz)); clear HC HB hsz hv2 hb2; have HC := HCn; have HB := HBn; clear HCn HBn; have hsz := HB.out.size))
        | ((with_reducible show Calls _ 18 #[_, _] (World.alloc _ _) _); go_must (refine (putD_lit _ w.heap.size _ [0] _ 1 _ HC.out rfl rfl (by simp; omega) hsz).mono ?_; rintro e w2 ⟨rfl, hd2, hb2, hk2⟩; have HCn := Lib.hid hd2; have HBn := Lib.hid (HB.out.trans hb2); clear HC HB hsz hd2 hb2 hk2; have HC := HCn; have HB := HBn; clear HCn HBn; have hsz := HB.out.size))
        | (go_at_call 18; go_must (refine (putD_any _ w.heap.size _ _ _ _ HC.out HV2.out (by simp; omega) hsz).mono ?_; rintro e w2 ⟨rfl, hd2, hb2, hk2⟩; have HCn := Lib.hid hd2; have HBn := Lib.hid (HB.out.trans hb2); clear HC HB hsz hd2 hb2 hk2 HV2; have HC := HCn; have HB := HBn; clear HCn HBn; have hsz := HB.out.size)))
      go_roundw
      case rel =>
        refine ⟨k + 1, by go_num, by omega, ?_, HB.out⟩
        show DrAt _ _ _ (T0 ++ namesB (fs.take (k + 1)))
        rw [HTK.out, namesB_snoc]
        have h := HC.out
        simp only [List.append_assoc] at h
        exact h
      case measure => simp [intOf] <;> omega
    · obtain rfl : k = m := by omega
      have htk : fs.take k = fs := List.take_of_length_le (by have := HM.out; omega)
      rw [htk] at HC
      obtain ⟨v9, h9, hb9, ho9⟩ := HC.out
      have HO9 := Lib.hid ho9
      obtain ⟨m9, a9, q9, hm9, rfl, _, _⟩ := ho9.shape
      have c9 := cell_rec h9 0
      simp only [List.getElem?_toArray, List.getElem?_cons_zero] at c9
      clear h9 hb9 ho9 hm9
      go_wp2
      go_ret
      refine ⟨_, rfl, ?_, HB.out⟩
      have := HO9.out
      rw [HT0.out] at this
      rw [← HM.out]
      exact this
end Go.Proofs.Ytmpmkjlkhlagfaa
namespace Go.Proofs.Ytmpmkjlkhlagfaa
open Go.RowKit Go.Fd
theorem faulty_name {fs : List (List UInt8)} {rs : List RunM} {s : List UInt8} (h : s ∈ fs) (hb : fileBad s = true) : faultyL fs rs = 7 := by
  unfold faultyL
  rw [if_pos (List.any_eq_true.2 ⟨s, h, hb⟩)]
theorem faulty_long {fs : List (List UInt8)} {rs : List RunM} (h : ∀ s ∈ fs, fileBad s = false) : faultyL fs rs = if 100 < fs.length ∨ 64 < rs.length ∨ 16384 < nrows rs then 6 else if rs.all (runOk fs.length) = true then 0 else 1 := by
  unfold faultyL
  rw [if_neg]
  intro hh
  obtain ⟨s, hs, hb⟩ := List.any_eq_true.1 hh
  rw [h s hs] at hb
  cases hb
theorem nrows_snoc (rs : List RunM) (r : RunM) : nrows (rs ++ [r]) = nrows rs + r.rows.length := by unfold nrows; simp
theorem nrows_ge {rs : List RunM} {r : RunM} (h : r ∈ rs) : r.rows.length ≤ nrows rs := by
  induction rs with
  | nil => cases h
  | cons x rs ih =>
    unfold nrows at *
    rw [List.map_cons, List.sum_cons]
    rcases List.mem_cons.1 h with rfl | h
    · omega
    · have := ih h
      omega
theorem rowsOk_no {n : Nat} {fin : Int} (xs : List RowM) : ∀ (off : Int) (k : Nat) (x : RowM), xs[k]? = some x → rowOk x (lastOff off (xs.take k)) fin n = false → rowsOk n fin off xs = false := by
  induction xs with
  | nil => intro off k x h; simp at h
  | cons y ys ih =>
    intro off k x h hb
    rw [rowsOk]
    cases k with
    | zero =>
      simp at h
      subst h
      rw [show rowOk y off fin n = false from hb, Bool.false_and]
    | succ k =>
      rw [List.take_succ_cons, lastOff] at hb
      rw [ih y.off k x (by simpa using h) hb, Bool.and_false]
theorem rowsOk_yes {n : Nat} {fin : Int} (xs : List RowM) : ∀ (off : Int), (∀ k x, xs[k]? = some x → rowOk x (lastOff off (xs.take k)) fin n = true) → rowsOk n fin off xs = true := by
  induction xs with
  | nil => intro off _; rfl
  | cons y ys ih =>
    intro off h
    rw [rowsOk, h 0 y rfl |> (show rowOk y off fin n = true from ·), Bool.true_and]
    exact ih y.off fun k x hk => h (k + 1) x (by simpa using hk)
theorem all_no {rs : List RunM} {n : Nat} {r : RunM} (h : r ∈ rs) (hb : runOk n r = false) : rs.all (runOk n) = false := by
  cases ha : rs.all (runOk n) with
  | false => rfl
  | true => rw [List.all_eq_true.1 ha r h] at hb; cases hb
set_option maxHeartbeats 4000000 in
set_option maxRecDepth 100000 in
theorem faulty_any (fs : List (List UInt8)) (fv : Value) (rs : List RunM) (L : List (RunM × Value)) (rv : Value) (w : World) (hv : Rd S w fv fs) (hr : RunsAt w rv rs L) (hn : fs.length ≤ 1000000) (hm : rs.length ≤ 1000000) (hs : ∀ s ∈ fs, s.length ≤ 9223372036854775807) (hrm : nrows rs ≤ 1000000) :
    Calls Try.prog 17 #[fv, rv] w fun e w' => e = .returned (.int .i64 (faultyL fs rs)) ∧ Below w.heap.size w w' := by
  have HV := Lib.hid hv
  have HS := Lib.hid hs
  have HRS := Lib.hid hr
  obtain ⟨m, ad, cap, hm1, rfl, _, _⟩ := hv.shape
  have HM := Lib.hid hm1.out
  obtain ⟨n, ra, rc, hn1, rfl, _, _⟩ := hr.rd.shape
  have HN := Lib.hid (show n = rs.length by rw [hr.eq, List.length_map]; exact hn1.out)
  have HNL := Lib.hid hn1.out
  have hm9 : m ≤ 1000000 := by have := hm1.out; omega
  have hn9 : n ≤ 1000000 := by have := HN.out; omega
  have HRM := Lib.hid hrm
  clear hv hs hr hm1 hn1 hn hm hrm
  go_enter Try.func17, Try.ntmps17
  go_wp2
  go_loopw [17] (fun iw wr => ∃ k : Nat, iw = .int .i64 (k : Int) ∧ k ≤ m ∧ Hid (∀ s ∈ fs.take k, fileBad s = false) ∧ wr = w) (fun iw _ => m - (intOf iw).toNat)
  case atStart => exact ⟨0, rfl, Nat.zero_le _, (fun s hs => by simp at hs), rfl⟩
  case round =>
    obtain ⟨k, rfl, hk, HB, hwr⟩ := hrel
    subst hwr
    by_cases hlt : k < m
    · have X1 := Lib.hid (show fs[k]? = some (fs[k]'(by have := HM.out; omega)) from List.getElem?_eq_getElem _)
      generalize fs[k]'(by have := HM.out; omega) = s at *
      have HTK := Lib.hid (show fs.take (k + 1) = fs.take k ++ [s] from take_snoc' fs k s X1.out)
      obtain ⟨ad', cap', e1, _, _, hc⟩ := HV.out.open []
      simp only [Value.slice.injEq] at e1
      obtain ⟨rfl, -, rfl⟩ := e1
      obtain ⟨b, off, rfl, hcell⟩ := hc k (by have := HM.out; omega)
      rw [X1.out] at hcell
      simp only [Option.getD_some] at hcell
      clear hc
      have HC := Lib.hid (contains0 s wr)
      have hbad : (s.isEmpty = true ∨ 128 < s.length ∨ 0 ∈ s) → faultyL fs rs = 7 := fun h => faulty_name (List.mem_of_getElem? X1.out) (by
        unfold fileBad mayS
        rcases h with h | h | h
        · rw [List.isEmpty_iff.1 h]; rfl
        · rw [decide_eq_false (show ¬ s.length ≤ 128 by omega)]; simp
        · rw [decide_eq_true h]; simp)
      cases he : s.isEmpty with
      | true =>
        have HR := Lib.hid (hbad (.inl he))
        clear hbad
        go_wp2
        go_ret
        exact ⟨by rw [HR.out]; rfl, Below.refl _ _⟩
      | false =>
        by_cases hl : 128 < s.length
        · have d1 : decide ((128 : Int) < (s.length : Int)) = true := by simp; omega
          have HR := Lib.hid (hbad (.inr (.inl hl)))
          clear hbad hl
          go_wp2
          go_ret
          exact ⟨by rw [HR.out]; rfl, Below.refl _ _⟩
        · have d1 : decide ((128 : Int) < (s.length : Int)) = false := by simp; omega
          cases h0 : decide (0 ∈ s) with
          | true =>
            have HR := Lib.hid (hbad (.inr (.inr (of_decide_eq_true h0))))
            rw [h0] at HC
            clear hbad hl h0
            go_wp2_with (go_at_call 32; go_must (refine HC.out.mono ?_; rintro e w1 ⟨rfl, rfl⟩))
            go_ret
            exact ⟨by rw [HR.out]; rfl, Below.refl _ _⟩
          | false =>
            have HOK := Lib.hid (show fileBad s = false by
              unfold fileBad mayS
              rw [decide_eq_true (show s.length ≤ 128 by omega), h0, decide_eq_false (show ¬ s = [] by intro e; rw [e] at he; cases he)]
              rfl)
            rw [h0] at HC
            clear hbad hl h0
            go_wp2_with (go_at_call 32; go_must (refine HC.out.mono ?_; rintro e w1 ⟨rfl, rfl⟩))
            go_roundw
            case rel =>
              refine ⟨k + 1, by go_num, by omega, ?_, by first | trivial | rfl⟩
              show ∀ s ∈ fs.take (k + 1), _
              rw [HTK.out]
              intro x hx
              rcases List.mem_append.1 hx with hx | hx
              · exact HB.out x hx
              · rw [List.mem_singleton] at hx
                rw [hx]
                exact HOK.out
            case measure => simp [intOf] <;> omega
    · obtain rfl : k = m := by omega
      have HFL := Lib.hid (faulty_long (rs := rs) (show ∀ s ∈ fs, fileBad s = false by
        have := HB.out
        rwa [List.take_of_length_le (by have := HM.out; omega)] at this))
      clear HB hlt
      go_wp2
      obtain ⟨wo, rfl⟩ : ∃ wo : World, wo = wr := ⟨_, rfl⟩
      go_loopw [7, 35] (fun cw iw wq => ∃ j : Nat, iw = .int .i64 (j : Int) ∧ j ≤ n ∧ cw = .int .i64 ((nrows (rs.take j) : Nat) : Int) ∧ Hid (Below wo.heap.size wo wq)) (fun _ iw _ => n - (intOf iw).toNat)
      case atStart => exact ⟨0, by first | trivial | rfl, Nat.zero_le _, by first | trivial | rfl, Below.refl _ _⟩
      case round =>
        obtain ⟨j, rfl, hj, rfl, HB⟩ := hrel
        by_cases hlt : j < n
        · have X1 := Lib.hid (show L[j]? = some (L[j]'(by have := HNL.out; omega)) from List.getElem?_eq_getElem _)
          generalize L[j]'(by have := HNL.out; omega) = p at *
          have X2 := Lib.hid (show rs[j]? = some p.1 by rw [HRS.out.eq, List.getElem?_map, X1.out]; rfl)
          have HNR := Lib.hid (show nrows (rs.take (j + 1)) = nrows (rs.take j) + p.1.rows.length by rw [take_snoc' rs j p.1 X2.out, nrows_snoc])
          have hle : nrows (rs.take j) + p.1.rows.length ≤ 1000000 := by
            have h1 : nrows (rs.take (j + 1)) + nrows (rs.drop (j + 1)) = nrows rs := by
              unfold nrows
              rw [← List.sum_append, ← List.map_append, List.take_append_drop]
            have := HNR.out
            have := HRM.out
            omega
          obtain ⟨b2, o2, ha2, u0, u1, u2⟩ := run_cells ((HRS.out.mono HB.out).rd) X1.out
          subst ha2
          obtain ⟨pm, pa, pc, hpm, hp2, _, _⟩ := (HRS.out.rows p (List.mem_of_getElem? X1.out)).shape
          rw [hp2] at u1
          have HPM := Lib.hid hpm.out
          have hpm9 : nrows (rs.take j) + pm ≤ 1000000 := by have := hpm.out; omega
          clear hp2 hpm hle
          generalize hq : nrows (rs.take j) = q at *
          go_wp2_with ((with_reducible show wpList _ _ _ (⟨none, .store _ _ _, _, _, _, _⟩ :: _) _ _); go_must (refine wpList_storeNew rfl rfl (by kernel_rfl) rfl (by simp [Value.oneCell']) ?_; intro w5 hh5 hb5; clear u0 u1 u2; obtain ⟨r0, r1, r2⟩ := run3 hh5; have HBn := Lib.hid (HB.out.trans (hb5.mono HB.out.size)); clear hh5 hb5))
          go_roundw
          case rel => exact ⟨j + 1, by go_num, by omega, by rw [HNR.out, HPM.out]; go_num, HBn.out⟩
          case measure => simp [intOf] <;> omega
        · obtain rfl : j = n := by omega
          have htk : rs.take j = rs := List.take_of_length_le (by have := HN.out; omega)
          rw [htk]
          have hq9 := HRM.out
          clear htk hlt
          generalize hq : nrows rs = q at *
          by_cases hA : 100 < k
          · have HR := Lib.hid (show faultyL fs rs = 6 by rw [HFL.out, if_pos (.inl (by have := HM.out; omega))])
            clear HFL
            go_wp2
            go_ret
            exact ⟨by rw [HR.out]; rfl, HB.out⟩
          by_cases hB : 64 < j
          · have HR := Lib.hid (show faultyL fs rs = 6 by rw [HFL.out, if_pos (.inr (.inl (by have := HN.out; omega)))])
            clear HFL
            go_wp2
            go_ret
            exact ⟨by rw [HR.out]; rfl, HB.out⟩
          by_cases hC : 16384 < q
          · have HR := Lib.hid (show faultyL fs rs = 6 by rw [HFL.out, if_pos (.inr (.inr hC))])
            clear HFL
            go_wp2
            go_ret
            exact ⟨by rw [HR.out]; rfl, HB.out⟩
          have HFA := Lib.hid (show faultyL fs rs = if rs.all (runOk k) = true then 0 else 1 by rw [HFL.out, if_neg (by have := HN.out; have := HM.out; omega), ← HM.out])
          clear HFL
          go_wp2
          clear hA hB hC
          have HB0 := Lib.hid HB.out
          clear HB
          go_loopw [59] (fun iw wq => ∃ i : Nat, iw = .int .i64 (i : Int) ∧ i ≤ j ∧ Hid (∀ r ∈ rs.take i, runOk k r = true) ∧ Hid (Below wo.heap.size wo wq)) (fun iw _ => j - (intOf iw).toNat)
          case atStart => exact ⟨0, rfl, Nat.zero_le _, (fun r hr => by simp at hr), HB0.out⟩
          case round =>
            obtain ⟨i, rfl, hi, HALL, HB⟩ := hrel
            by_cases hlt : i < j
            · have X1 := Lib.hid (show L[i]? = some (L[i]'(by have := HNL.out; omega)) from List.getElem?_eq_getElem _)
              generalize L[i]'(by have := HNL.out; omega) = p at *
              have X2 := Lib.hid (show rs[i]? = some p.1 by rw [HRS.out.eq, List.getElem?_map, X1.out]; rfl)
              have HTK := Lib.hid (take_snoc' rs i p.1 X2.out)
              have HNO := Lib.hid (show runOk k p.1 = false → faultyL fs rs = 1 from fun h => by
                rw [HFA.out, all_no (List.mem_of_getElem? X2.out) h]; rfl)
              obtain ⟨b2, o2, ha2, u0, u1, u2⟩ := run_cells ((HRS.out.mono HB.out).rd) X1.out
              subst ha2
              have HRW := Lib.hid (HRS.out.rows p (List.mem_of_getElem? X1.out))
              obtain ⟨⟨at_, rows, fin⟩, pv⟩ := p
              simp only at u0 u1 u2
              obtain ⟨pm, pa, pc, hpm, rfl, _, _⟩ := HRW.out.shape
              have HPM := Lib.hid (show pm = rows.length from hpm.out)
              have hpm9 : pm ≤ 1000000 := by
                have h1 : rows.length ≤ nrows rs := by
                  exact nrows_ge (List.mem_of_getElem? X2.out)
                have := HPM.out
                omega
              clear hpm
              by_cases hneg : fin < 0
              · have HR := Lib.hid (HNO.out (by unfold runOk; rw [decide_eq_false (show ¬ 0 ≤ fin by omega), Bool.false_and]))
                go_wp2_with ((with_reducible show wpList _ _ _ (⟨none, .store _ _ _, _, _, _, _⟩ :: _) _ _); go_must (refine wpList_storeNew rfl rfl (by kernel_rfl) rfl (by simp [Value.oneCell']) ?_; intro w5 hh5 hb5; clear u0 u1 u2; obtain ⟨r0, r1, r2⟩ := run3 hh5; have HBn := Lib.hid (HB.out.trans (hb5.mono HB.out.size)); clear hh5 hb5))
                go_ret
                exact ⟨by rw [HR.out]; rfl, HBn.out⟩
              · go_wp2_with ((with_reducible show wpList _ _ _ (⟨none, .store _ _ _, _, _, _, _⟩ :: _) _ _); go_must (refine wpList_storeNew rfl rfl (by kernel_rfl) rfl (by simp [Value.oneCell']) ?_; intro w5 hh5 hb5; clear u0 u1 u2; obtain ⟨r0, r1, r2⟩ := run3 hh5; have HBn := Lib.hid (HB.out.trans (hb5.mono HB.out.size)); have HX := Lib.hid hh5; clear hh5 hb5))
                have HBx := Lib.hid HBn.out
                clear HBn r0 r1 r2
                obtain ⟨F, rfl⟩ := Int.eq_ofNat_of_zero_le (show 0 ≤ fin by omega)
                have HK9 := Lib.hid hpm9
                go_loopw [12, 69] (fun ow iw wq => ∃ (e : Nat) (ov : Int), iw = .int .i64 (e : Int) ∧ e ≤ pm ∧ ow = .int .i64 ov ∧ Hid (ov = lastOff 0 (rows.take e)) ∧ Hid (∀ c x, c < e → rows[c]? = some x → rowOk x (lastOff 0 (rows.take c)) F k = true) ∧ Hid (Below wo.heap.size wo wq) ∧ Hid (wq.heap[wr.heap.size]? = some (.cells #[.int .u64 (at_ : Int), .slice pa pm pc, .int .i64 (F : Int)] 39 (0, 0)))) (fun _ iw _ => pm - (intOf iw).toNat)
                case atStart => exact ⟨0, 0, rfl, Nat.zero_le _, rfl, rfl, (fun c x h => by omega), HBx.out, HX.out⟩
                case round =>
                  obtain ⟨e, ov, rfl, he, rfl, HOV, HRO, HB3, HX3⟩ := hrel
                  by_cases hlt3 : e < pm
                  · have Y1 := Lib.hid (show rows[e]? = some (rows[e]'(by have := HPM.out; omega)) from List.getElem?_eq_getElem _)
                    generalize rows[e]'(by have := HPM.out; omega) = x at *
                    have HTK3 := Lib.hid (take_snoc' rows e x Y1.out)
                    obtain ⟨b3, o3, ha3, v0, v1, v2⟩ := row_cells (HRW.out.mono HB3.out) Y1.out
                    subst ha3
                    obtain ⟨r0, r1, r2⟩ := run3 HX3.out
                    have HRY := Lib.hid (fun wx => row_any x ov F k wx)
                    have HNO3 := Lib.hid (show rowOk x ov F k = false → faultyL fs rs = 1 from fun h => HNO.out (by
                      unfold runOk
                      rw [rowsOk_no rows 0 e x Y1.out (by rw [← HOV.out]; exact h), Bool.and_false]))
                    have HYES := Lib.hid (show rowOk x ov F k = true → ∀ c y, c < e + 1 → rows[c]? = some y → rowOk y (lastOff 0 (rows.take c)) F k = true from fun h c y hc hy => by
                      by_cases hce : c = e
                      · subst hce
                        rw [Y1.out] at hy
                        cases hy
                        rw [← HOV.out]
                        exact h
                      · exact HRO.out c y (by omega) hy)
                    obtain ⟨xo, xf, xl⟩ := x
                    simp only at v0 v1 v2
                    cases hro : rowOk ⟨xo, xf, xl⟩ ov F k
                    all_goals
                      rw [hro] at HRY
                      go_wp2_with (first
                        | ((with_reducible show wpList _ _ _ (⟨none, .store _ _ _, _, _, _, _⟩ :: _) _ _); go_must (refine wpList_storeNew rfl rfl (by kernel_rfl) rfl (by simp [Value.oneCell']) ?_; intro w6 hh6 hb6; clear v0 v1 v2 r0 r1 r2; obtain ⟨v0, v1, v2⟩ := run3 hh6; have HW6 := Lib.hid hh6; have HB6 := Lib.hid (HB3.out.trans (hb6.mono HB3.out.size)); have HX6 := Lib.hid (heap_below hb6 HX3.out); obtain ⟨r0, r1, r2⟩ := run3 HX6.out; clear hh6 hb6))
                        | (go_at_call 33; go_must (refine (HRY.out _).mono ?_; rintro e7 w7 ⟨rfl, hb7⟩; have HB7 := Lib.hid (HB6.out.trans (hb7.mono HB6.out.size)); have HX7 := Lib.hid (heap_below hb7 HX6.out); have HW7 := Lib.hid (heap_below hb7 HW6.out); clear v0 v1 v2 r0 r1 r2; obtain ⟨v0, v1, v2⟩ := run3 HW7.out; clear hb7)))
                    · go_ret
                      exact ⟨by rw [HNO3.out hro]; rfl, HB7.out⟩
                    · go_roundw
                      case rel =>
                        refine ⟨e + 1, xo, by go_num, by omega, rfl, ?_, HYES.out hro, HB7.out, HX7.out⟩
                        show xo = lastOff 0 (rows.take (e + 1))
                        rw [HTK3.out, (last_snoc _ _ 0 1 1).1]
                      case measure => simp [intOf] <;> omega
                  · obtain rfl : e = pm := by omega
                    have HYS := Lib.hid (show runOk k ⟨at_, rows, (F : Int)⟩ = true by
                      unfold runOk
                      rw [decide_eq_true (show (0 : Int) ≤ (F : Int) by omega), Bool.true_and]
                      exact rowsOk_yes rows 0 fun c x hx => HRO.out c x (by have := (List.getElem?_eq_some_iff.1 hx).1; have := HPM.out; omega) hx)
                    go_wp2
                    go_roundw
                    case rel =>
                      refine ⟨i + 1, by go_num, by omega, ?_, HB3.out⟩
                      show ∀ r ∈ rs.take (i + 1), _
                      rw [HTK.out]
                      intro r hr
                      rcases List.mem_append.1 hr with hr | hr
                      · exact HALL.out r hr
                      · rw [List.mem_singleton] at hr
                        rw [hr]
                        exact HYS.out
                    case measure => simp [intOf] <;> omega
            · obtain rfl : i = j := by omega
              have htk : rs.take i = rs := List.take_of_length_le (by have := HN.out; omega)
              rw [htk] at HALL
              have HR := Lib.hid (show faultyL fs rs = 0 by rw [HFA.out, if_pos (List.all_eq_true.2 HALL.out)])
              go_wp2
              go_ret
              exact ⟨by rw [HR.out]; rfl, HB.out⟩
end Go.Proofs.Ytmpmkjlkhlagfaa
namespace Go.Proofs.Ytmpmkjlkhlagfaa
open Go.RowKit Go.Fd
/-! Rows found. -/
def findL : List EntM → Nat → Option EntM
  | x :: y :: r, a => if x.fin = false ∧ x.addr ≤ a ∧ a < y.addr then some x else findL (y :: r) a
  | _, _ => none
def wantR (a : Int) : RowM → List RowM → RowM
  | w, [] => w
  | w, x :: xs => wantR a (if x.off ≤ a then x else w) xs
theorem wantR_stay {a : Int} {n : Nat} {fin : Int} (xs : List RowM) : ∀ off w, rowsOk n fin off xs = true → a < off → wantR a w xs = w := by
  induction xs with
  | nil => intro _ _ _ _; rfl
  | cons x xs ih =>
    intro off w hk h
    rw [rowsOk, Bool.and_eq_true] at hk
    obtain ⟨e1, e2, e3, e4, e5, e6⟩ := rowOk_iff hk.1
    rw [wantR, if_neg (by omega)]
    exact ih x.off w hk.2 (by omega)
theorem find_hit {at_ n : Nat} {fin a : Int} {f g : Int} (hfin : fin < 9223372036854775808) (hat : at_ ≤ 4611686018427387904) (ha : a < fin) (xs : List RowM) : ∀ (x : RowM) (off : Int), rowsOk n fin off (x :: xs) = true → 0 ≤ off → x.off ≤ a →
    ∃ w, findL (rowEnts at_ (x :: xs) ++ [⟨m64 (at_ + fin.toNat), f, g, true⟩]) (at_ + a.toNat) = some w ∧ w.file = (wantR a x xs).file ∧ w.line = (wantR a x xs).line := by
  induction xs with
  | nil =>
    intro x off hk h0 hx
    rw [rowsOk, Bool.and_eq_true] at hk
    obtain ⟨e1, e2, e3, e4, e5, e6⟩ := rowOk_iff hk.1
    refine ⟨⟨m64 (at_ + x.off.toNat), x.file, x.line, false⟩, ?_, rfl, rfl⟩
    show (if _ then _ else _) = _
    rw [if_pos]
    refine ⟨rfl, ?_, ?_⟩
    · show (at_ + x.off.toNat) % 18446744073709551616 ≤ _; omega
    · show _ < (at_ + fin.toNat) % 18446744073709551616; omega
  | cons y ys ih =>
    intro x off hk h0 hx
    rw [rowsOk, Bool.and_eq_true] at hk
    obtain ⟨e1, e2, e3, e4, e5, e6⟩ := rowOk_iff hk.1
    have hk2 := hk.2
    rw [rowsOk, Bool.and_eq_true] at hk2
    obtain ⟨f1, f2, f3, f4, f5, f6⟩ := rowOk_iff hk2.1
    by_cases hy : y.off ≤ a
    · obtain ⟨w, hw, h1, h2⟩ := ih y x.off hk.2 (by omega) hy
      refine ⟨w, ?_, by rw [wantR, if_pos hy]; exact h1, by rw [wantR, if_pos hy]; exact h2⟩
      show (if _ then _ else _) = _
      rw [if_neg]
      · exact hw
      · rintro ⟨-, -, h⟩
        have h : at_ + a.toNat < (at_ + y.off.toNat) % 18446744073709551616 := h
        omega
    · refine ⟨⟨m64 (at_ + x.off.toNat), x.file, x.line, false⟩, ?_, ?_, ?_⟩
      · show (if _ then _ else _) = _
        rw [if_pos]
        refine ⟨rfl, ?_, ?_⟩
        · show (at_ + x.off.toNat) % 18446744073709551616 ≤ _; omega
        · show _ < (at_ + y.off.toNat) % 18446744073709551616; omega
      · rw [wantR, if_neg hy, wantR_stay ys y.off x hk2.2 (by omega)]
      · rw [wantR, if_neg hy, wantR_stay ys y.off x hk2.2 (by omega)]
theorem find_none {T : List EntM} {a : Nat} (h : (∀ e ∈ T, a < e.addr) ∨ (∀ e ∈ T, e.addr ≤ a)) : findL T a = none := by
  induction T with
  | nil => rfl
  | cons x T ih =>
    cases T with
    | nil => rfl
    | cons y r =>
      rw [findL, if_neg, ih]
      · rcases h with h | h
        · exact .inl fun e he => h e (by simp [he])
        · exact .inr fun e he => h e (by simp [he])
      · rintro ⟨-, h1, h2⟩
        rcases h with h | h
        · have := h x (by simp); omega
        · have := h y (by simp); omega
theorem rows_in {n : Nat} {fin : Int} (xs : List RowM) : ∀ off, rowsOk n fin off xs = true → ∀ x ∈ xs, off ≤ x.off ∧ x.off ≤ fin := by
  induction xs with
  | nil => intro off _ x hx; cases hx
  | cons x xs ih =>
    intro off hk y hy
    rw [rowsOk, Bool.and_eq_true] at hk
    obtain ⟨e1, e2, e3, e4, e5, e6⟩ := rowOk_iff hk.1
    rcases List.mem_cons.1 hy with rfl | hy
    · omega
    · have := ih x.off hk.2 y hy
      omega
theorem find_miss {r : RunM} {n : Nat} {a : Int} (hk : runOk n r = true) (hfin : r.end_ < 9223372036854775808) (hat : r.at_ ≤ 4611686018427387904) (h0 : 0 ≤ a) (ha9 : a < 9223372036854775808) (h : r.rows = [] ∨ r.end_ ≤ a ∨ ∃ x xs, r.rows = x :: xs ∧ a < x.off) : findL (runEnts r) (r.at_ + a.toNat) = none := by
  obtain ⟨k0, k1⟩ := runOk_iff hk
  have hin := rows_in r.rows 0 k1
  unfold runEnts
  rcases h with h | h | ⟨x, xs, h, hx⟩
  · rw [h]
    rfl
  · refine find_none (.inr fun e he => ?_)
    rcases List.mem_append.1 he with he | he
    · unfold rowEnts at he
      obtain ⟨y, hy, rfl⟩ := List.mem_map.1 he
      have := hin y hy
      show (r.at_ + y.off.toNat) % 18446744073709551616 ≤ _
      omega
    · rw [List.mem_singleton] at he
      subst he
      show (r.at_ + r.end_.toNat) % 18446744073709551616 ≤ _
      omega
  · refine find_none (.inl fun e he => ?_)
    rw [h] at he k1
    rw [rowsOk, Bool.and_eq_true] at k1
    obtain ⟨e1, e2, e3, e4, e5, e6⟩ := rowOk_iff k1.1
    have hin2 := rows_in xs x.off k1.2
    rcases List.mem_append.1 he with he | he
    · unfold rowEnts at he
      obtain ⟨y, hy, rfl⟩ := List.mem_map.1 he
      have : x.off ≤ y.off ∧ y.off ≤ r.end_ := by
        rcases List.mem_cons.1 hy with rfl | hy
        · omega
        · exact hin2 y hy
      show _ < (r.at_ + y.off.toNat) % 18446744073709551616
      omega
    · rw [List.mem_singleton] at he
      subst he
      show _ < (r.at_ + r.end_.toNat) % 18446744073709551616
      omega
/-! Runs moved. -/
def RunM.moved (d : Nat) (r : RunM) : RunM := ⟨m64 (r.at_ + d), r.rows, r.end_⟩
def EntM.moved (d : Nat) (e : EntM) : EntM := ⟨m64 (e.addr + d), e.file, e.line, e.fin⟩
theorem nrows_moved (d : Nat) (rs : List RunM) : nrows (rs.map (RunM.moved d)) = nrows rs := by
  unfold nrows
  rw [List.map_map]
  rfl
theorem faulty_moved (d : Nat) (fs : List (List UInt8)) (rs : List RunM) : faultyL fs (rs.map (RunM.moved d)) = faultyL fs rs := by
  unfold faultyL
  rw [nrows_moved, List.length_map, List.all_map]
  rfl
theorem fits_moved {d : Nat} {r : RunM} (h : r.fits) : (r.moved d).fits := ⟨Nat.mod_lt _ (by decide), h.2.1, h.2.2.1, h.2.2.2⟩
theorem runB_moved_len (d : Nat) (r : RunM) : (runB (r.moved d)).length = (runB r).length := by
  unfold runB RunM.moved
  simp only [List.length_append, length_fixed]
theorem runsB_moved_len (d : Nat) (rs : List RunM) : (runsB (rs.map (RunM.moved d))).length = (runsB rs).length := by
  induction rs with
  | nil => rfl
  | cons r rs ih =>
    unfold runsB at *
    rw [List.map_cons, List.flatMap_cons, List.flatMap_cons, List.length_append, List.length_append, ih, runB_moved_len]
theorem lnBodyB_moved_len (d : Nat) (fs : List (List UInt8)) (rs : List RunM) : (lnBodyB fs (rs.map (RunM.moved d))).length = (lnBodyB fs rs).length := by
  unfold lnBodyB
  rw [List.length_append, List.length_append, runsB_moved_len]
theorem places_moved (d : Nat) (fs : List (List UInt8)) (rs : List RunM) : placesB fs (rs.map (RunM.moved d)) = placesB fs rs := by
  unfold placesB
  rw [List.length_map]
  refine List.map_congr_left fun i _ => ?_
  rw [← List.map_take, runsB_moved_len]
theorem runEnts_moved (d : Nat) (r : RunM) : runEnts (r.moved d) = (runEnts r).map (EntM.moved d) := by
  unfold runEnts rowEnts RunM.moved
  rw [List.map_append, List.map_map, List.map_singleton]
  congr 1
  · refine List.map_congr_left fun x _ => ?_
    simp only [Function.comp, EntM.moved, EntM.mk.injEq, and_true, m64]
    omega
  · simp only [EntM.moved, List.cons.injEq, EntM.mk.injEq, and_true, m64]
    omega
theorem unitEnts_moved (d : Nat) (rs : List RunM) : unitEnts (rs.map (RunM.moved d)) = (unitEnts rs).map (EntM.moved d) := by
  induction rs with
  | nil => rfl
  | cons r rs ih =>
    unfold unitEnts at *
    rw [List.map_cons, List.flatMap_cons, List.flatMap_cons, List.map_append, ih, runEnts_moved]
theorem same_mid {α : Type} {f g : List α} {k : Nat} (x z : List α) (hl : f.length = g.length) (h : ¬ (x.length ≤ k ∧ k < x.length + f.length)) : (x ++ (f ++ z))[k]? = (x ++ (g ++ z))[k]? := by
  by_cases h1 : k < x.length
  · rw [List.getElem?_append_left h1, List.getElem?_append_left h1]
  · rw [List.getElem?_append_right (by omega), List.getElem?_append_right (by omega), List.getElem?_append_right (by omega), List.getElem?_append_right (by omega), hl]
theorem runs_same (d : Nat) (rs : List RunM) : ∀ k, (∀ i, i < rs.length → ¬ ((runsB (rs.take i)).length + 3 ≤ k ∧ k < (runsB (rs.take i)).length + 11)) → (runsB rs)[k]? = (runsB (rs.map (RunM.moved d)))[k]? := by
  induction rs with
  | nil => intro k _; rfl
  | cons r rs ih =>
    intro k h
    have e1 : runsB (r :: rs) = runB r ++ runsB rs := by unfold runsB; rw [List.flatMap_cons]
    have e2 : runsB ((r :: rs).map (RunM.moved d)) = runB (r.moved d) ++ runsB (rs.map (RunM.moved d)) := by unfold runsB; rw [List.map_cons, List.flatMap_cons]
    rw [e1, e2]
    by_cases hk : k < (runB r).length
    · rw [List.getElem?_append_left hk, List.getElem?_append_left (by rw [runB_moved_len]; exact hk)]
      have h0 := h 0 (by simp)
      have h0 : ¬ (3 ≤ k ∧ k < 11) := by
        intro hh
        exact h0 (by simpa [runsB] using hh)
      exact same_mid _ _ (show (fixed r.at_ 8).length = (fixed (r.moved d).at_ 8).length by rw [length_fixed, length_fixed]) (by rw [length_fixed]; exact h0)
    · rw [List.getElem?_append_right (by omega), List.getElem?_append_right (by rw [runB_moved_len]; omega), runB_moved_len]
      refine ih _ fun i hi hh => h (i + 1) (by simp; omega) ?_
      rw [List.take_succ_cons]
      have e3 : (runsB (r :: rs.take i)).length = (runB r).length + (runsB (rs.take i)).length := by unfold runsB; rw [List.flatMap_cons, List.length_append]
      omega
theorem unit_same (d : Nat) (fs : List (List UInt8)) (rs : List RunM) (k : Nat) (h : ∀ p ∈ placesB fs rs, ¬ (p ≤ k ∧ k < p + 8)) : (unitB fs rs)[k]? = (unitB fs (rs.map (RunM.moved d)))[k]? := by
  unfold unitB
  rw [lnBodyB_moved_len]
  by_cases h4 : k < 4
  · rw [List.getElem?_append_left (by rw [length_fixed]; exact h4), List.getElem?_append_left (by rw [length_fixed]; exact h4)]
  · rw [List.getElem?_append_right (by rw [length_fixed]; omega), List.getElem?_append_right (by rw [length_fixed]; omega), length_fixed]
    unfold lnBodyB
    by_cases hf : k - 4 < (lnFrontB fs).length
    · rw [List.getElem?_append_left hf, List.getElem?_append_left hf]
    · rw [List.getElem?_append_right (by omega), List.getElem?_append_right (by omega)]
      refine runs_same d rs _ fun i hi hh => ?_
      refine h (4 + (lnFrontB fs).length + (runsB (rs.take i)).length + 3) ?_ (by omega)
      unfold placesB
      exact List.mem_map.2 ⟨i, List.mem_range.2 hi, rfl⟩
/-! Special opcodes. -/
/-- A unit whose header is given, and whose program is (op, advance 3, op, constant add, copy). -/
def specB (op least base span first : UInt8) : List UInt8 :=
  fixed (first.toNat + 30) 4 ++ ([5, 0, 8, 0] ++ (fixed (first.toNat + 16) 4 ++ ([least, 1, 1, base, span, first, 0, 1, 1, 1, 1, 0, 0, 0, 1, 0, 0, 1] ++ (List.replicate (first.toNat - 13) 0 ++ ([1, 1, 8, 1, 0, 1, 1, 8, 1, 97, 0] ++ [op, 2, 3, op, 8, 1])))))
def signed8 (c : UInt8) : Int := if c.toNat < 128 then (c.toNat : Int) else (c.toNat : Int) - 256
def specH (least base span first : UInt8) : HeadM := ⟨least.toNat, signed8 base, span.toNat, first.toNat, [0, 1, 1, 1, 1, 0, 0, 0, 1, 0, 0, 1] ++ List.replicate (first.toNat - 13) 0⟩
def specEnts (op least base span first : UInt8) : List EntM :=
  [⟨(op.toNat - first.toNat) / span.toNat * least.toNat, 1, 1 + (signed8 base + ((op.toNat - first.toNat) % span.toNat : Nat)), false⟩,
   ⟨2 * ((op.toNat - first.toNat) / span.toNat * least.toNat) + 3 * least.toNat, 1, 1 + 2 * (signed8 base + ((op.toNat - first.toNat) % span.toNat : Nat)), false⟩,
   ⟨2 * ((op.toNat - first.toNat) / span.toNat * least.toNat) + 3 * least.toNat + (255 - first.toNat) / span.toNat * least.toNat, 1, 1 + 2 * (signed8 base + ((op.toNat - first.toNat) % span.toNat : Nat)), false⟩]
theorem specB_len (op least base span first : UInt8) (h : 13 ≤ first.toNat) : (specB op least base span first).length = first.toNat + 34 := by
  unfold specB
  simp only [List.length_append, length_fixed, List.length_cons, List.length_nil, List.length_replicate]
  omega
theorem quot_le (a b c : Nat) (ha : a < 256) (hc : c < 256) : a / b * c ≤ 65025 := by
  have h1 : a / b ≤ 255 := Nat.le_trans (Nat.div_le_self _ _) (by omega)
  calc a / b * c ≤ 255 * 255 := Nat.mul_le_mul h1 (by omega)
    _ = 65025 := by decide
theorem spec_units {op least base span first : UInt8} (h13 : 13 ≤ first.toNat) (hop : first.toNat ≤ op.toNat) (hs : 0 < span.toNat) : UnitsAt (specB op least base span first) 0 (specEnts op least base span first) := by
  have hlen := specB_len op least base span first h13
  have hw := Stands.whole (specB op least base span first)
  have hz := (show Stands _ _ (_ ++ _) from hw).left.fix sz4 (by have := first.toNat_lt; show _ < 4294967296; omega)
  have hb := (show Stands _ _ (_ ++ _) from hw).right
  rw [length_fixed] at hb
  have hv := hb.left
  have hv2 := (Stands.left (x := [5, 0]) (y := [8, 0]) hv).num (s := 2) rfl sz2
  have hsz := hb.right.left.fix sz4 (by have := first.toNat_lt; show _ < 4294967296; omega)
  have hd := hb.right.right
  simp only [List.length_cons, List.length_nil] at hsz
  rw [length_fixed] at hd
  simp only [List.length_cons, List.length_nil] at hd
  have h18 : Stands (specB op least base span first) 12 _ := hd.left
  have hd2 : Stands (specB op least base span first) 30 _ := hd.right
  have hz0 := hd2.left
  have hd3 := hd2.right
  rw [List.length_replicate] at hd3
  have ht := hd3.left
  have hp := hd3.right
  simp only [List.length_cons, List.length_nil] at hp
  have e12 : 30 + (first.toNat - 13) = first.toNat + 17 := by omega
  rw [e12] at ht hp
  have hlt := first.toNat_lt
  have hlo := op.toNat_lt
  have hll := least.toNat_lt
  have hlb := base.toNat_lt
  have hls := span.toNat_lt
  clear hw hb hd hd2 hd3
  have htk : (specB op least base span first).take (first.toNat + 34) = specB op least base span first := List.take_of_length_le (by omega)
  have b0 : ∀ k c, ([least, 1, 1, base, span, first, 0, 1, 1, 1, 1, 0, 0, 0, 1, 0, 0, 1] : List UInt8)[k]? = some c → okB (specB op least base span first) (12 + k) 1 = true ∧ gN (specB op least base span first) (12 + k) 1 = c.toNat := fun k c hk => by
    have hlt : k < ([least, 1, 1, base, span, first, 0, 1, 1, 1, 1, 0, 0, 0, 1, 0, 0, 1] : List UInt8).length := (List.getElem?_eq_some_iff.1 hk).1
    have e := List.take_append_drop k ([least, 1, 1, base, span, first, 0, 1, 1, 1, 1, 0, 0, 0, 1, 0, 0, 1] : List UInt8)
    rw [List.drop_eq_getElem_cons hlt, (List.getElem?_eq_some_iff.1 hk).2] at e
    have h2 := h18
    rw [← e] at h2
    have h3 := h2.right.cons.byte
    rw [List.length_take, Nat.min_eq_left (by omega)] at h3
    exact ⟨h3.2, h3.1⟩
  have hT : specEnts op least base span first = specEnts op least base span first ++ [] := by simp
  rw [hT]
  refine UnitsAt.unit (h := specH least base span first) (p := first.toNat + 28) (e := first.toNat + 34) (by omega) hz.2 (by rw [hz.1]; omega) (by omega) ?_ ?_ (by rw [← hlen]; exact .done)
  · rw [htk]
    have hlens : (specH least base span first).lens.length = first.toNat - 1 := by
      unfold specH
      simp only [List.length_append, List.length_cons, List.length_nil, List.length_replicate]
      omega
    refine ⟨⟨hv2.2, by rw [hv2.1]; rfl⟩, ?_, ?_, ⟨hsz.2, by rw [hsz.1]; omega⟩, b0 0 least rfl, (b0 1 1 rfl).1, (b0 2 1 rfl).1, ?_, ?_, ?_, hlens, ?_, ?_⟩
    · have h1 := (Stands.right (x := [5, 0]) (y := [8, 0]) hv).cons.byte
      exact ⟨h1.2, h1.1⟩
    · have h1 := (Stands.right (x := [5, 0, 8]) (y := [0]) hv).byte
      exact ⟨h1.2, h1.1⟩
    · have h1 := b0 3 base rfl
      exact ⟨h1.1, by show (if gN _ (12 + 3) 1 < 128 then _ else _) = _; rw [h1.2]; rfl⟩
    · have h1 := b0 4 span rfl
      exact ⟨h1.1, h1.2, hs⟩
    · have h1 := b0 5 first rfl
      exact ⟨h1.1, h1.2, by show 0 < first.toNat; omega⟩
    · intro i hi
      have hi : i < first.toNat - 1 := hi
      by_cases h12 : i < 12
      · have h1 := b0 (6 + i) ([0, 1, 1, 1, 1, 0, 0, 0, 1, 0, 0, 1][i]?.getD 0) (by
          have : i = 0 ∨ i = 1 ∨ i = 2 ∨ i = 3 ∨ i = 4 ∨ i = 5 ∨ i = 6 ∨ i = 7 ∨ i = 8 ∨ i = 9 ∨ i = 10 ∨ i = 11 := by omega
          rcases this with rfl | rfl | rfl | rfl | rfl | rfl | rfl | rfl | rfl | rfl | rfl | rfl <;> rfl)
        rw [← Nat.add_assoc] at h1
        have e : (specH least base span first).lens[i]? = ([0, 1, 1, 1, 1, 0, 0, 0, 1, 0, 0, 1] : List UInt8)[i]? := by
          show (_ ++ _ : List UInt8)[i]? = _
          exact List.getElem?_append_left (by simpa using h12)
        rw [e]
        exact h1
      · have hz1 := hz0
        rw [show List.replicate (first.toNat - 13) (0 : UInt8) = List.replicate (i - 12) 0 ++ (0 :: List.replicate (first.toNat - 14 - (i - 12)) 0) by rw [← List.replicate_succ, List.replicate_append_replicate]; congr 1; omega] at hz1
        have h1 := hz1.right.cons.byte
        rw [List.length_replicate, show 30 + (i - 12) = 18 + i by omega] at h1
        have e : (specH least base span first).lens[i]? = some 0 := by
          show (_ ++ _ : List UInt8)[i]? = _
          rw [List.getElem?_append_right (by simp; omega), List.getElem?_replicate, if_pos (by simp; omega)]
        rw [e]
        exact ⟨h1.2, h1.1⟩
    · have e : 4 + 14 + ((specH least base span first).ops - 1) = first.toNat + 17 := by show 4 + 14 + (first.toNat - 1) = _; omega
      show ∃ m, TabAt _ (4 + 14 + _) m ∧ _
      rw [e]
      have tb : ∀ k c, ([1, 1, 8, 1, 0, 1, 1, 8, 1, 97, 0] : List UInt8)[k]? = some c → okB (specB op least base span first) (first.toNat + 17 + k) 1 = true ∧ gN (specB op least base span first) (first.toNat + 17 + k) 1 = c.toNat := fun k c hk => by
        have hlt : k < ([1, 1, 8, 1, 0, 1, 1, 8, 1, 97, 0] : List UInt8).length := (List.getElem?_eq_some_iff.1 hk).1
        have e := List.take_append_drop k ([1, 1, 8, 1, 0, 1, 1, 8, 1, 97, 0] : List UInt8)
        rw [List.drop_eq_getElem_cons hlt, (List.getElem?_eq_some_iff.1 hk).2] at e
        have h2 := ht
        rw [← e] at h2
        have h3 := h2.right.cons.byte
        rw [List.length_take, Nat.min_eq_left (by omega)] at h3
        exact ⟨h3.2, h3.1⟩
      refine ⟨first.toNat + 22, ⟨tb 0 1 rfl, tb 1 1 rfl, tb 2 8 rfl, 1, 1, ?_, by decide, ?_⟩, ⟨tb 5 1 rfl, tb 6 1 rfl, tb 7 8 rfl, 1, 1, ?_, by decide, ?_⟩⟩
      · have h1 : Stands _ (first.toNat + 20) (leb 9 1) := (Stands.right (x := [1, 1, 8]) (y := [1, 0, 1, 1, 8, 1, 97, 0]) ht).cons
        exact h1.leb (by decide)
      · have h1 : Stands _ (first.toNat + 21) [0] := (Stands.right (x := [1, 1, 8, 1]) (y := [0, 1, 1, 8, 1, 97, 0]) ht).cons
        exact .step (s := []) (Stands.text (s := []) h1 (by simp)) (.done _)
      · have h1 : Stands _ (first.toNat + 25) (leb 9 1) := (Stands.right (x := [1, 1, 8, 1, 0, 1, 1, 8]) (y := [1, 97, 0]) ht).cons
        exact h1.leb (by decide)
      · have h1 : Stands _ (first.toNat + 26) ([97] ++ [0]) := Stands.right (x := [1, 1, 8, 1, 0, 1, 1, 8, 1]) (y := [97, 0]) ht
        exact .step (s := [97]) (Stands.text (s := [97]) h1 (by simp)) (.done _)
  · rw [htk]
    have hp0 : Stands _ (first.toNat + 28) [op, 2, 3, op, 8, 1] := hp
    have hp1 : Stands _ (first.toNat + 29) [2, 3, op, 8, 1] := hp0.tail
    have hp2 : Stands _ (first.toNat + 30) [3, op, 8, 1] := hp1.tail
    have hp3 : Stands _ (first.toNat + 31) [op, 8, 1] := hp2.tail
    have hp4 : Stands _ (first.toNat + 32) [8, 1] := hp3.tail
    have hp5 : Stands _ (first.toNat + 33) [1] := hp4.tail
    have q1 := quot_le (op.toNat - first.toNat) span.toNat least.toNat (by omega) hll
    have q2 := quot_le (255 - first.toNat) span.toNat least.toNat (by omega) hll
    have q3 : (op.toNat - first.toNat) % span.toNat < 256 := Nat.lt_trans (Nat.mod_lt _ hs) hls
    have q4 : -128 ≤ signed8 base ∧ signed8 base ≤ 127 := by unfold signed8; split <;> omega
    have o1 := OpAt.special (h := specH least base span first) (s := st0) hp0.cons.byte.2 (by rw [hp0.cons.byte.1]; exact hop)
    rw [hp0.cons.byte.1] at o1
    have o2 := OpAt.pc (h := specH least base span first) (s := (specH least base span first).special st0 op.toNat) hp1.cons.byte.2 hp1.cons.byte.1 (by show 2 < first.toNat; omega) 3 1 (Stands.leb (n := 3) hp2.cons (by decide))
    have o3 := OpAt.special (h := specH least base span first) (s := ⟨m64 (((specH least base span first).special st0 op.toNat).addr + m64 (3 * (specH least base span first).step)), ((specH least base span first).special st0 op.toNat).file, ((specH least base span first).special st0 op.toNat).line⟩) hp3.cons.byte.2 (by rw [hp3.cons.byte.1]; exact hop)
    rw [hp3.cons.byte.1] at o3
    have o4 := OpAt.const (h := specH least base span first) (s := (specH least base span first).special ⟨m64 (((specH least base span first).special st0 op.toNat).addr + m64 (3 * (specH least base span first).step)), ((specH least base span first).special st0 op.toNat).file, ((specH least base span first).special st0 op.toNat).line⟩ op.toNat) hp4.cons.byte.2 hp4.cons.byte.1 (by show 8 < first.toNat; omega)
    have o5 := OpAt.copy (h := specH least base span first) (s := ⟨m64 (((specH least base span first).special ⟨m64 (((specH least base span first).special st0 op.toNat).addr + m64 (3 * (specH least base span first).step)), ((specH least base span first).special st0 op.toNat).file, ((specH least base span first).special st0 op.toNat).line⟩ op.toNat).addr + m64 ((255 - (specH least base span first).ops) / (specH least base span first).span * (specH least base span first).step)), ((specH least base span first).special st0 op.toNat).file, ((specH least base span first).special ⟨m64 (((specH least base span first).special st0 op.toNat).addr + m64 (3 * (specH least base span first).step)), ((specH least base span first).special st0 op.toNat).file, ((specH least base span first).special st0 op.toNat).line⟩ op.toNat).line⟩) hp5.byte.2 hp5.byte.1 (by show 1 < first.toNat; omega)
    have g := RunAt.step (lt_of_stands hp0) o1 (RunAt.step (lt_of_stands hp1) o2 (RunAt.step (lt_of_stands hp3) o3 (RunAt.step (lt_of_stands hp4) o4 (RunAt.step (lt_of_stands hp5) o5 (run_nil _ (by omega))))))
    refine Eq.mp (congrArg (RunAt _ _ _ _) ?_) g
    unfold specEnts
    simp only [StM.tell, HeadM.special, specH, st0, List.cons_append, List.nil_append, List.cons.injEq, EntM.mk.injEq, and_true, m64]
    generalize (op.toNat - first.toNat) / span.toNat * least.toNat = A at *
    generalize (255 - first.toNat) / span.toNat * least.toNat = C at *
    generalize (op.toNat - first.toNat) % span.toNat = B at *
    generalize signed8 base = S at *
    simp only [wrap64]
    omega
end Go.Proofs.Ytmpmkjlkhlagfaa
namespace Go.Proofs.Ytmpmkjlkhlagfaa
open Go.RowKit Go.Fd
theorem owns_keeps {e0 base e size n : Nat} {w w' : World} {v : Value} {xs : List Value} (h : w.ownsRow base e size v n xs) (hk : Keeps e0 w w') (he : e ≠ e0) : w'.ownsRow base e size v n xs := by
  refine ⟨h.1, ?_⟩
  rcases h.2 with h1 | ⟨g, cap, cur, h1, h2, h3, h4⟩
  · exact .inl h1
  · exact .inr ⟨g, cap, cur, h1, h2, hk _ _ _ _ he h3, h4⟩
theorem owns_keepF {base e size n g : Nat} {w w' : World} {v : Value} {xs : List Value} {cs : Array Value} {t : TypeId} {fr : Nat × Nat} (h : w.ownsRow base e size v n xs) (hg : w.heap[g]? = some (.cells cs t fr)) (ht : t ≠ e) (hk : KeepF g w w') (he : e ≠ 5) : w'.ownsRow base e size v n xs := by
  refine ⟨h.1, ?_⟩
  rcases h.2 with h1 | ⟨b, cap, cur, h1, h2, h3, h4⟩
  · exact .inl h1
  · refine .inr ⟨b, cap, cur, h1, h2, hk _ _ _ _ ?_ he h3, h4⟩
    rintro rfl
    rw [hg] at h3
    cases h3
    exact ht rfl
theorem DrAt.keepI {w w' : World} {base g : Nat} {l : List UInt8} {e0 : Nat} (h : DrAt w base g l) (hk : Keeps e0 w w') (h1 : 5 ≠ e0) (h2 : 52 ≠ e0) : DrAt w' base g l := by
  obtain ⟨v, a, b, c⟩ := h
  exact ⟨v, hk _ _ _ _ h2 a, b, owns_keeps c hk h1⟩
/-- copy over a draft's front. -/
theorem wpList_copyD {ops : Array Oper} {rest : List Oper} {Q : Exit → Act → World → Prop} {a : Act} {w : World} {d : Option Tmp} {ty : TypeId} {pos : String} {aft : Array Edge} {s x : Operand} {v u : Value} {base : Nat} {l m : List UInt8} (hown : OB w base v l) (hy : Bs w u m) (hs : a.eval s = v) (hx : a.eval x = u) (h0 : 0 < m.length) (hn : m.length ≤ l.length)
    (h : ∀ w', OB w' base v (m ++ l.drop m.length) → Below base w w' → Keeps 5 w w' → wpList Try.prog ops Q rest (a.put d (.int .i64 m.length)) w') :
    wpList Try.prog ops Q (⟨d, .call { callee := .builtin .copy, args := #[s, x], argTypes := #[52, 52] }, ty, pos, aft, none⟩ :: rest) a w := by
  obtain ⟨hl, hc⟩ := hown
  obtain ⟨hl2, au, cu, rfl, hcap, h00, hcell⟩ := hy
  rcases hc with ⟨-, h1⟩ | ⟨g, cap, cur, rfl, hbg, hg, hnc, hcm, hcs, htk⟩
  · omega
  obtain ⟨b, off, rfl, -⟩ := hcell 0 (by simpa using h0)
  have hrl : (cs' : Array Value) → (w.setRow g cs').heap[g]? = some (.cells cs' 5 (0, 0)) := fun cs' => setRow_heap w g _ _ _ _ hg
  refine wpList_copy_own rfl s x 52 52 rfl 5 (by kernel_rfl) (by kernel_rfl) g 0 l.length cap ⟨b, off, none⟩ m.length cu hs hx cur 5 hg (m.map B) (by rw [List.length_map]; exact (Nat.min_eq_left hn).symm) ?_ (by simp at hcs ⊢; omega) (fun v hv => by obtain ⟨c, -, rfl⟩ := List.mem_map.1 hv; rfl) ?_
  · intro j v hj
    obtain ⟨b', off', e1, e2⟩ := hcell j (List.getElem?_eq_some_iff.1 hj).1
    cases e1
    have e3 : (⟨b, off, none⟩ : Addr).add j = ⟨b, off + j, none⟩ := by unfold Addr.add; split <;> simp_all
    rw [e3, e2, hj]
  · have e : (m ++ l.drop m.length).length = l.length := by simp; omega
    rw [show goInt ((m.map B).length : Nat) = .int .i64 (m.length : Int) by rw [List.length_map]; rfl]
    refine h _ ⟨by simp, .inr ⟨g, cap, _, by rw [e], hbg, hrl _, by rw [e]; exact hnc, hcm, ?_, ?_⟩⟩ (below_setRow (Below.refl _ _) hbg _) ?_
    · simp
      simp at hcs
      omega
    · rw [e]
      simp only [Nat.mul_one] at htk ⊢
      rw [List.take_zero, List.nil_append, Nat.zero_add, List.length_map, List.take_append, List.length_map, List.map_append, List.take_of_length_le (by simp; omega), List.map_drop, ← htk, List.drop_take]
    · intro b' cs' e' fr he hb'
      rw [setRow_other w g b' _ (by rintro rfl; rw [hg] at hb'; cases hb'; exact he rfl)]
      exact hb'
/-- What Unit comes to. -/
def unitR (fs : List (List UInt8)) (rs : List RunM) : List UInt8 × List Nat × Int := if faultyL fs rs = 0 then (unitB fs rs, placesB fs rs, 0) else ([], [], faultyL fs rs)
theorem unitR_no {fs : List (List UInt8)} {rs : List RunM} (h : faultyL fs rs ≠ 0) : unitR fs rs = ([], [], faultyL fs rs) := by unfold unitR; rw [if_neg h]
theorem unitR_yes {fs : List (List UInt8)} {rs : List RunM} (h : faultyL fs rs = 0) : unitR fs rs = (unitB fs rs, placesB fs rs, 0) := by unfold unitR; rw [if_pos h]
def placesN (fs : List (List UInt8)) (rs : List RunM) (i : Nat) : List Nat := (List.range i).map fun j => 4 + (lnFrontB fs).length + (runsB (rs.take j)).length + 3
theorem placesN_succ (fs : List (List UInt8)) (rs : List RunM) (i : Nat) : placesN fs rs (i + 1) = placesN fs rs i ++ [4 + (lnFrontB fs).length + (runsB (rs.take i)).length + 3] := by unfold placesN; rw [List.range_succ, List.map_append]; rfl
theorem runsB_snoc (rs : List RunM) (r : RunM) : runsB (rs ++ [r]) = runsB rs ++ runB r := by unfold runsB; rw [List.flatMap_append, List.flatMap_singleton]
set_option maxRecDepth 100000 in
theorem lengths_any (w : World) : Calls Try.prog 19 #[] w fun e w' => e = .returned (.slice (some ⟨w.heap.size, 0, none⟩) 12 12) ∧ Bs w' (.slice (some ⟨w.heap.size, 0, none⟩) 12 12) [0, 1, 1, 1, 1, 0, 0, 0, 1, 0, 0, 1] ∧ Below w.heap.size w w' := by
  go_enter Try.func19, Try.ntmps19
  go_wp2
  go_ret
  exact ⟨rfl, bs_lit w [0, 1, 1, 1, 1, 0, 0, 0, 1, 0, 0, 1] _ 12 rfl rfl, below_alloc w _⟩
theorem numD_int {z : Int} (n : Nat) {g base size : Nat} {l : List UInt8} {w : World} {y : Int} (hd : DrAt w base g l) (hs : size ≤ 8) (hy : y = size) (hl : l.length ≤ 1000000000) (hz : z = n) (hbase : base ≤ w.heap.size) :
    Calls Try.prog 21 #[.pointer (some ⟨g, 0, none⟩), .int .u64 z, .int .i64 y] w fun r w' => r = .returned (.tuple #[]) ∧ DrAt w' base g (l ++ fixed n size) ∧ Below base w w' ∧ KeepF g w w' := by
  subst hz hy
  exact numD_any g base n size l w hd hs hl hbase
set_option maxHeartbeats 8000000 in
set_option maxRecDepth 100000 in
theorem lnUnit_any (fs : List (List UInt8)) (fv : Value) (rs : List RunM) (L : List (RunM × Value)) (rv : Value) (w : World) (hv : Rd S w fv fs) (hr : RunsAt w rv rs L) (hl : fs.length + rs.length + nrows rs ≤ 400) (hs : ∀ s ∈ fs, s.length ≤ 9223372036854775807) (hf : ∀ r ∈ rs, r.fits) :
    Calls Try.prog 10 #[fv, rv] w fun e w' => ∃ vb va, e = .returned (.tuple #[vb, va, .int .i64 (unitR fs rs).2.2]) ∧ OB w' w.heap.size vb (unitR fs rs).1 ∧ Ow I64 3 w' w.heap.size va (unitR fs rs).2.1 ∧ Below w.heap.size w w' := by
  have HV := Lib.hid hv
  have HRS := Lib.hid hr
  have HF := Lib.hid hf
  have HFY := Lib.hid (faulty_any fs fv rs L rv w hv hr (by omega) (by omega) hs (by omega))
  obtain ⟨m, ad, cap, hm1, rfl, _, _⟩ := hv.shape
  obtain ⟨n, ra, rc, hn1, rfl, _, _⟩ := hr.rd.shape
  have HN := Lib.hid (show n = rs.length by rw [hr.eq, List.length_map]; exact hn1.out)
  have HNL := Lib.hid hn1.out
  have hn9 : n ≤ 400 := by have := HN.out; omega
  have HL := Lib.hid hl
  clear hv hr hf hs hm1 hn1 hl
  by_cases hfy : faultyL fs rs = 0
  · obtain ⟨hok1, hok2, hok3, hok4⟩ := faulty_ok hfy
    have HBY := Lib.hid (lnBodyB_le hfy HL.out)
    have HU := Lib.hid (unitR_yes hfy)
    have HK := Lib.hid hok4
    have HTB := Lib.hid (fun w' (h : Below w.heap.size w w') => tables_any fs (.slice ad m cap) w' (HV.out.mono h) hok2 (fun s hs => (hok1 s hs).2.1))
    have hhb := lnHeadB_len (fun s hs => (hok1 s hs).2.1) hok2
    have HHB := Lib.hid (show lnHeadB fs = [] ++ [1, 1, 1, 251, 14, 13] ++ [0, 1, 1, 1, 1, 0, 0, 0, 1, 0, 0, 1] ++ ([1, 1, 8, 1, 0, 1, 1, 8] ++ (leb 9 fs.length ++ namesB fs)) by unfold lnHeadB; simp)
    have HFL := Lib.hid hok2
    have hrl1 : ∀ r ∈ rs, r.rows.length ≤ 1000 := fun r hr => by have := nrows_ge hr; have := HL.out; omega
    have HRL := Lib.hid hrl1
    have htl : ([1, 1, 8, 1, 0, 1, 1, 8] ++ (leb 9 fs.length ++ namesB fs)).length ≤ 14000 := by
      rw [HHB.out] at hhb
      rw [List.length_append] at hhb
      omega
    generalize hT : [1, 1, 8, 1, 0, 1, 1, 8] ++ (leb 9 fs.length ++ namesB fs) = T at *
    rw [hfy] at HFY
    clear hfy hok1 hok3 hok4 hok2 hT hrl1
    go_enter Try.func10, Try.ntmps10
    go_wp2_with (first
      | (go_at_call 17; go_must (refine HFY.out.mono ?_; rintro e w1 ⟨rfl, hb1⟩; have HB := Lib.hid hb1; have hsz := HB.out.size; have hs1 := hsz; clear hb1))
      | ((with_reducible show wpList _ _ _ (⟨some 8, .alloc _, _, _, _, _⟩ :: _) _ _); go_must (refine wpList_allocD ?_; intro w2 hd2 hb2 hs2; have HC := Lib.hid hd2; have HBn := Lib.hid (HB.out.trans (hb2.mono hsz)); have HB1 := Lib.hid (hb2.trans (Below.refl w1.heap.size w2)); clear HB hsz hd2 hb2; have HB := HBn; clear HBn; have hsz := HB.out.size))
      | ((with_reducible show Calls _ 18 #[_, _] (World.alloc _ (.cells #[_, _, _, _, _, _] _)) _); go_must (refine (putD_lit _ w1.heap.size _ [1, 1, 1, 251, 14, 13] _ 6 _ HC.out rfl rfl (by simp) HB1.out.size).mono ?_; rintro e w3 ⟨rfl, hd3, hb3, hk3⟩; have HCn := Lib.hid hd3; have HBn := Lib.hid (HB.out.trans (hb3.mono hs1)); have HB1n := Lib.hid (HB1.out.trans hb3); clear HC HB HB1 hsz hd3 hb3 hk3; have HC := HCn; have HB := HBn; have HB1 := HB1n; clear HCn HBn HB1n; have hsz := HB.out.size))
      | (go_at_call 19; go_must (refine (lengths_any _).mono ?_; rintro e w3 ⟨rfl, hv3, hb3⟩; have HV3 := Lib.hid hv3; clear hv3; have HCn := Lib.hid (HC.out.mono hb3); have HBn := Lib.hid (HB.out.trans (hb3.mono hsz)); have HB1n := Lib.hid (HB1.out.trans (hb3.mono HB1.out.size)); clear HC HB HB1 hsz hb3; have HC := HCn; have HB := HBn; have HB1 := HB1n; clear HCn HBn HB1n; have hsz := HB.out.size))
      | ((with_reducible show Calls _ 18 #[_, .slice _ 12 12] _ _); go_must (refine (putD_any _ w1.heap.size _ _ _ _ HC.out HV3.out (by simp) HB1.out.size).mono ?_; rintro e w3 ⟨rfl, hd3, hb3, hk3⟩; clear HV3; have HCn := Lib.hid hd3; have HBn := Lib.hid (HB.out.trans (hb3.mono hs1)); have HB1n := Lib.hid (HB1.out.trans hb3); clear HC HB HB1 hsz hd3 hb3 hk3; have HC := HCn; have HB := HBn; have HB1 := HB1n; clear HCn HBn HB1n; have hsz := HB.out.size))
      | (go_at_call 20; go_must (refine (HTB.out _ HB.out).mono ?_; rintro e w3 ⟨v3, rfl, hv3, hb3⟩; have HV4 := Lib.hid hv3.bs; obtain ⟨m3, a3, q3, -, rfl, _, _⟩ := hv3.shape; clear hv3; have HCn := Lib.hid (HC.out.mono hb3); have HBn := Lib.hid (HB.out.trans (hb3.mono hsz)); have HB1n := Lib.hid (HB1.out.trans (hb3.mono HB1.out.size)); clear HC HB HB1 hsz hb3; have HC := HCn; have HB := HBn; have HB1 := HB1n; clear HCn HBn HB1n; have hsz := HB.out.size))
      | ((with_reducible show wpList _ _ _ (⟨some 10, .alloc _, _, _, _, _⟩ :: _) _ _); go_must (obtain ⟨wA, rfl⟩ : ∃ wA : World, wA = w3 := ⟨_, rfl⟩; refine wpList_allocD ?_; intro w4 hd4 hb4 hs4; have HD := Lib.hid hd4; have HBn := Lib.hid (HB.out.trans (hb4.mono hsz)); have hsA := hsz; have HBd := Lib.hid (hb4.trans (Below.refl _ w4)); clear HB hsz hd4 hb4; have HB := HBn; clear HBn; have hsz := HB.out.size; have hszd := HBd.out.size))
      | ((with_reducible show Calls _ 21 #[_, .int .u64 0, _] _ _); go_must (refine (numD_int 0 (size := 4) HD.out (by omega) rfl (by simp) rfl hszd).mono ?_; rintro e w3 ⟨rfl, hd3, hb3, hk3⟩; have HDn := Lib.hid hd3; have HBn := Lib.hid (HB.out.trans (hb3.mono hsA)); have HBdn := Lib.hid (HBd.out.trans hb3); clear HD HB HBd hsz hszd hd3 hb3 hk3; have HD := HDn; have HB := HBn; have HBd := HBdn; clear HDn HBn HBdn; have hsz := HB.out.size; have hszd := HBd.out.size))
      | ((with_reducible show Calls _ 21 #[_, .int .u64 5, _] _ _); go_must (refine (numD_int 5 (size := 2) HD.out (by omega) rfl (by simp [length_fixed]) rfl hszd).mono ?_; rintro e w3 ⟨rfl, hd3, hb3, hk3⟩; have HDn := Lib.hid hd3; have HBn := Lib.hid (HB.out.trans (hb3.mono hsA)); have HBdn := Lib.hid (HBd.out.trans hb3); clear HD HB HBd hsz hszd hd3 hb3 hk3; have HD := HDn; have HB := HBn; have HBd := HBdn; clear HDn HBn HBdn; have hsz := HB.out.size; have hszd := HBd.out.size))
      | ((with_reducible show Calls _ 18 #[_, _] (World.alloc _ (.cells #[_, _] _)) _); go_must (refine (putD_lit _ _ _ [8, 0] _ 2 _ HD.out rfl rfl (by simp [length_fixed]) hszd).mono ?_; rintro e w3 ⟨rfl, hd3, hb3, hk3⟩; have HDn := Lib.hid hd3; have HBn := Lib.hid (HB.out.trans (hb3.mono hsA)); have HBdn := Lib.hid (HBd.out.trans hb3); clear HD HB HBd hsz hszd hd3 hb3 hk3; have HD := HDn; have HB := HBn; have HBd := HBdn; clear HDn HBn HBdn; have hsz := HB.out.size; have hszd := HBd.out.size; rw [← HHB.out] at HC; obtain ⟨vh, hh, hbh, hvh⟩ := HC.out.mono HBd.out; have HVH := Lib.hid hvh; obtain ⟨mh, ah, ch, hmh, rfl, _, _⟩ := hvh.shape; have HMH := Lib.hid hmh.out; have hmh9 : mh ≤ 13000 := (by have := HMH.out; omega); have c8 := cell_rec hh 0; simp only [List.getElem?_toArray, List.getElem?_cons_zero] at c8; clear hh hbh hvh hmh))
      | ((with_reducible show Calls _ 21 _ _ _); go_must (refine (numD_int mh (size := 4) HD.out (by omega) rfl (by simp [length_fixed]) rfl hszd).mono ?_; rintro e w3 ⟨rfl, hd3, hb3, hk3⟩; have HDn := Lib.hid hd3; have HBn := Lib.hid (HB.out.trans (hb3.mono hsA)); have HBdn := Lib.hid (HBd.out.trans hb3); clear HD HB HBd hsz hszd hd3 hb3 hk3; have HD := HDn; have HB := HBn; have HBd := HBdn; clear HDn HBn HBdn; have hsz := HB.out.size; have hszd := HBd.out.size; clear c8; obtain ⟨vh, hh, hbh, hvh⟩ := HC.out.mono HBd.out; obtain ⟨mh2, ah2, ch2, hmh2, rfl, _, _⟩ := hvh.shape; have HVH2 := Lib.hid hvh; have HMH2 := Lib.hid hmh2.out; have c8 := cell_rec hh 0; simp only [List.getElem?_toArray, List.getElem?_cons_zero] at c8; clear hh hbh hvh hmh2))
      | (go_at_call 18; refine (putD_any _ w1.heap.size _ _ _ _ HC.out HV4.out (by simp; omega) HB1.out.size).mono ?_; rintro e w3 ⟨rfl, hd3, hb3, hk3⟩; clear HV4; have HCn := Lib.hid hd3; have HBn := Lib.hid (HB.out.trans (hb3.mono hs1)); have HB1n := Lib.hid (HB1.out.trans hb3); clear HC HB HB1 hsz hd3 hb3 hk3; have HC := HCn; have HB := HBn; have HB1 := HB1n; clear HCn HBn HB1n; have hsz := HB.out.size)
      | (go_at_call 18; refine (putD_any _ _ _ _ _ _ HD.out HVH2.out.bs (by have := HMH2.out; simp [length_fixed]; omega) hszd).mono ?_; rintro e w3 ⟨rfl, hd3, hb3, hk3⟩; clear HVH2; have HDn := Lib.hid hd3; have HBn := Lib.hid (HB.out.trans (hb3.mono hsA)); have HBdn := Lib.hid (HBd.out.trans hb3); clear HD HB HBd hsz hszd hd3 hb3 hk3; have HD := HDn; have HB := HBn; have HBd := HBdn; clear HDn HBn HBdn; have hsz := HB.out.size; have hszd := HBd.out.size))
    have HMM := Lib.hid (show mh = (lnHeadB fs).length from HMH.out)
    have HD0 := Lib.hid (show [] ++ fixed 0 4 ++ fixed 5 2 ++ [8, 0] ++ fixed mh 4 ++ lnHeadB fs = fixed 0 4 ++ lnFrontB fs by
      unfold lnFrontB
      rw [← HMM.out, show fixed 5 2 = [5, 0] from rfl]
      simp)
    rw [HD0.out] at HD
    have HLD := Lib.hid (show (fixed 0 4 ++ lnFrontB fs).length = 4 + (lnFrontB fs).length by rw [List.length_append, length_fixed])
    have hlf : (lnFrontB fs).length ≤ 20000 := by rw [lnFrontB_len]; omega
    have HDs := Lib.hid (show DrAt _ wA.heap.size wA.heap.size ((fixed 0 4 ++ lnFrontB fs) ++ runsB (rs.take 0)) by simpa [runsB] using HD.out)
    have HBs := Lib.hid HB.out
    have HBds := Lib.hid HBd.out
    clear HD HB HBd hsz hszd c8 HD0 HMH2 HC HVH HHB htl HMM HMH hmh9 hhb
    go_loopw [11, 42] (fun av iw wr => ∃ k : Nat, iw = .int .i64 (k : Int) ∧ k ≤ n ∧ Hid (DrAt wr wA.heap.size wA.heap.size ((fixed 0 4 ++ lnFrontB fs) ++ runsB (rs.take k))) ∧ Hid (Ow I64 3 wr wA.heap.size av (placesN fs rs k)) ∧ Hid (Below w.heap.size w wr) ∧ Hid (Below wA.heap.size wA wr)) (fun _ iw _ => n - (intOf iw).toNat)
    case atStart => exact ⟨0, rfl, Nat.zero_le _, HDs.out, Ow.nil _ _ _ _, HBs.out, HBds.out⟩
    case round =>
      obtain ⟨k, rfl, hk, HD, HO, HB, HBd⟩ := hrel
      clear HDs HBs HBds
      have hsz := HB.out.size
      have hszd := HBd.out.size
      have hrk := runsB_len (rs.take k)
      have hnr : nrows (rs.take k) ≤ nrows rs := by
        have h1 : nrows (rs.take k) + nrows (rs.drop k) = nrows rs := by
          unfold nrows
          rw [← List.sum_append, ← List.map_append, List.take_append_drop]
        omega
      have HRK := Lib.hid (show (runsB (rs.take k)).length ≤ 40000 by
        rw [List.length_take] at hrk
        have := HL.out
        omega)
      clear hrk hnr
      have hrk := HRK.out
      by_cases hlt : k < n
      · have X1 := Lib.hid (show L[k]? = some (L[k]'(by have := HNL.out; omega)) from List.getElem?_eq_getElem _)
        generalize L[k]'(by have := HNL.out; omega) = p at *
        have X2 := Lib.hid (show rs[k]? = some p.1 by rw [HRS.out.eq, List.getElem?_map, X1.out]; rfl)
        have HTK := Lib.hid (take_snoc' rs k p.1 X2.out)
        have HPM := Lib.hid (List.mem_of_getElem? X2.out)
        obtain ⟨b2, o2, ha2, u0, u1, u2⟩ := run_cells ((HRS.out.mono HB.out).rd) X1.out
        subst ha2
        have HRW := Lib.hid (HRS.out.rows p (List.mem_of_getElem? X1.out))
        obtain ⟨⟨at_, rows, fin⟩, pv⟩ := p
        simp only at u0 u1 u2
        obtain ⟨pm, pa, pc, hpm, rfl, _, _⟩ := HRW.out.shape
        clear hpm
        obtain ⟨Q, hQ⟩ : ∃ Q, Q = (fixed 0 4 ++ lnFrontB fs) ++ runsB (rs.take k) := ⟨_, rfl⟩
        have HQL := Lib.hid (show Q.length = 4 + (lnFrontB fs).length + (runsB (rs.take k)).length by rw [hQ, List.length_append, HLD.out])
        have hq9 : Q.length ≤ 100000 := by have := HQL.out; omega
        have HQE := Lib.hid (show Q ++ runB ⟨at_, rows, fin⟩ = (fixed 0 4 ++ lnFrontB fs) ++ runsB (rs.take (k + 1)) by rw [hQ, HTK.out, runsB_snoc, List.append_assoc])
        have HPE := Lib.hid (show placesN fs rs (k + 1) = placesN fs rs k ++ [Q.length + 3] by rw [placesN_succ, HQL.out])
        rw [← hQ] at HD
        clear hQ
        obtain ⟨mo, ao, co, hmo, rfl, _, _⟩ := HO.out.shape
        have hpl : (placesN fs rs k).length ≤ 400 := by unfold placesN; simp; omega
        have HRUN := Lib.hid (fun (wx : World) (h1 : DrAt wx wA.heap.size wA.heap.size Q) (h2 : Below w.heap.size w wx) (h3 : wA.heap.size ≤ wx.heap.size) => runD_any w wA.heap.size wA.heap.size fs.length Q ⟨at_, rows, fin⟩ (.slice pa pm pc) wx h1 HRW.out h2 hsA HFL.out (HK.out _ HPM.out) (HF.out _ HPM.out) (by omega) (HRL.out _ HPM.out) h3)
        clear hmo
        go_wp2_with (first
          | ((with_reducible show wpList _ _ _ (⟨none, .store _ _ _, _, _, _, _⟩ :: _) _ _); go_must (refine wpList_storeNew rfl rfl (by kernel_rfl) rfl (by simp [Value.oneCell']) ?_; intro w5 hh5 hb5; clear u0 u1 u2; obtain ⟨r0, r1, r2⟩ := run3 hh5; have HDn := Lib.hid (HD.out.mono hb5); have HOn := Lib.hid (HO.out.mono hb5); have HBn := Lib.hid (HB.out.trans (hb5.mono hsz)); have HBdn := Lib.hid (HBd.out.trans (hb5.mono hszd)); clear HD HO HB HBd hsz hszd hh5 hb5; have HD := HDn; have HO := HOn; have HB := HBn; have HBd := HBdn; clear HDn HOn HBn HBdn; have hsz := HB.out.size; have hszd := HBd.out.size))
          | (go_at_call 22; go_must (refine (HRUN.out _ HD.out HB.out hszd).mono ?_; rintro e w6 ⟨rfl, hd6, hb6, hk6⟩; clear r0 r1 r2; have HOn := Lib.hid (show Ow I64 3 w6 wA.heap.size (.slice ao mo co) (placesN fs rs k) from (by obtain ⟨vx, hx, -, -⟩ := HD.out; exact owns_keepF HO.out hx (by decide) hk6 (by decide))); have HDn := Lib.hid hd6; have HBn := Lib.hid (HB.out.trans (hb6.mono hsA)); have HBdn := Lib.hid (HBd.out.trans hb6); clear HD HO HB HBd hsz hszd hd6 hb6 hk6; have HD := HDn; have HO := HOn; have HB := HBn; have HBd := HBdn; clear HDn HOn HBn HBdn; have hsz := HB.out.size; have hszd := HBd.out.size))
          | (at_builtin; go_must (refine wpList_pushE TI HO.out rfl rfl (Q.length + 3) rfl rfl (by omega) (by omega) hszd ?_; intro v7 w7 hv7 hg7 hb7; have HK7 := Lib.hid (keeps_own HO.out hg7))))
        have HB0 := Lib.hid (hb7.mono hsA)
        have HDn := Lib.hid (show DrAt w7 wA.heap.size wA.heap.size (Q ++ runB ⟨at_, rows, fin⟩) from HD.out.keepI HK7.out (by decide) (by decide))
        go_roundw
        case rel => exact ⟨k + 1, by go_num, by omega, by rw [← HQE.out]; exact HDn.out, by rw [HPE.out]; exact hv7, HB.out.trans HB0.out, HBd.out.trans hb7⟩
        case measure => simp [intOf] <;> omega
      · obtain rfl : k = n := by omega
        have htk : rs.take k = rs := List.take_of_length_le (by have := HN.out; omega)
        rw [htk] at HD
        have HPL := Lib.hid (show placesN fs rs k = placesB fs rs by unfold placesN placesB; rw [HN.out])
        rw [HPL.out] at HO
        have HDL := Lib.hid (show ((fixed 0 4 ++ lnFrontB fs) ++ runsB rs).length = 4 + (lnBodyB fs rs).length by unfold lnBodyB; simp only [List.length_append, length_fixed]; omega)
        have HDE := Lib.hid (show ∀ x : List UInt8, x.length = 4 → [] ++ x ++ ((fixed 0 4 ++ lnFrontB fs) ++ runsB rs).drop ([] ++ x).length = x ++ lnBodyB fs rs from fun x hx => by
          rw [List.nil_append, hx, List.append_assoc, List.drop_left' (length_fixed 0 4)]
          rfl)
        generalize hD : (fixed 0 4 ++ lnFrontB fs) ++ runsB rs = D at *
        clear hD htk hrk HRK HRL
        go_wp2_with (first
          | ((with_reducible show wpList _ _ _ (⟨some 14, .alloc _, _, _, _, _⟩ :: _) _ _); go_must (obtain ⟨wB, rfl⟩ : ∃ wB : World, wB = wr := ⟨_, rfl⟩; refine wpList_allocD ?_; intro w5 hd5 hb5 hs5; have HFr := Lib.hid hd5; have HBf := Lib.hid (hb5.trans (Below.refl _ w5)); obtain ⟨vd, hdc, -, hvd⟩ := HD.out.mono hb5; obtain ⟨md, da, dc, hmd, rfl, _, _⟩ := hvd.shape; have HMD := Lib.hid hmd.out; have hmd9 : md ≤ 50000 := (by have := HMD.out; have := HDL.out; have := HBY.out; omega); have hmd4 : 4 ≤ md := (by have := HMD.out; have := HDL.out; omega); have c10 := cell_rec hdc 0; simp only [List.getElem?_toArray, List.getElem?_cons_zero] at c10; have HMB := Lib.hid (show md - 4 = (lnBodyB fs rs).length by have := HMD.out; have := HDL.out; omega); clear hdc hvd hmd hd5 hb5))
          | (go_at_call 21; go_must (refine (numD_int (md - 4) (size := 4) HFr.out (by omega) rfl (by simp) (by omega) HBf.out.size).mono ?_; rintro e w6 ⟨rfl, hd6, hb6, hk6⟩; have HBg := Lib.hid (HBf.out.trans hb6); obtain ⟨vf, hfc, -, hvf⟩ := hd6; obtain ⟨mf, fa, fc, hmf, rfl, _, _⟩ := hvf.shape; have HVF := Lib.hid hvf.bs; have c14 := cell_rec hfc 0; simp only [List.getElem?_toArray, List.getElem?_cons_zero] at c14; obtain ⟨vd, hdc, -, hvd⟩ := HD.out.mono HBg.out; obtain ⟨mg, da, dc, hmg, rfl, _, _⟩ := hvd.shape; have HVD := Lib.hid hvd; have HDC := Lib.hid hdc; clear c10; have c10 := cell_rec hdc 0; simp only [List.getElem?_toArray, List.getElem?_cons_zero] at c10; clear hdc hvd hmg hfc hvf hmf hb6 hk6))
          | ((with_reducible show wpList _ _ _ (⟨some 59, _, _, _, _, _⟩ :: _) _ _); go_must (refine wpList_copyD HVD.out HVF.out rfl rfl (by simp [length_fixed]) (by have := HDL.out; simp [length_fixed]; omega) ?_; intro w7 ho7 hb7 hk7; have HO7 := Lib.hid ho7; have HB7 := Lib.hid hb7; have HK7 := Lib.hid hk7; clear c10 c14; have c10 := cell_rec (hk7 _ _ _ _ (by decide) HDC.out) 0; simp only [List.getElem?_toArray, List.getElem?_cons_zero] at c10; clear ho7 hb7 hk7)))
        go_ret3
        rw [HU.out]
        refine ⟨_, _, rfl, ?_, ?_, ?_⟩
        · have := HO7.out
          rw [HDE.out _ (length_fixed _ _), HMB.out] at this
          exact OB.base this hsA
        · exact Ow.rebase (show Ow I64 3 w7 wA.heap.size _ _ from owns_keeps (HO.out.mono HBg.out) HK7.out (by decide)) hsA
        · exact (HB.out.trans (HBg.out.mono hsz)).trans (HB7.out.mono hsA)
  · have HU := Lib.hid (unitR_no hfy)
    have hne : (faultyL fs rs != 0) = true := by simpa using hfy
    generalize faultyL fs rs = e0 at *
    clear hfy
    go_enter Try.func10, Try.ntmps10
    go_wp2_with (go_at_call 17; go_must (refine HFY.out.mono ?_; rintro e w1 ⟨rfl, hb1⟩))
    go_ret3
    rw [HU.out]
    exact ⟨_, _, rfl, OB.nil _ _, Ow.nil _ _ _ _, hb1⟩
end Go.Proofs.Ytmpmkjlkhlagfaa
namespace Go.Proofs.Ytmpmkjlkhlagfaa
open Go.RowKit Go.Fd
def idxR (l : List UInt8) : Int := match sevens l with
  | none => -1
  | some g => (g.length : Int) - 1
theorem small_any (c : UInt8) (b : Bool) (w : World) (h : decide ((c.toNat : Int) < 128) = b) : Calls Try.prog 66 #[.int .u8 c.toNat] w fun e w' => e = .returned (.bool b) ∧ w = w' := by
  subst h
  go_enter Try.func66, Try.ntmps66
  go_wp2
  go_ret
  exact ⟨rfl, rfl⟩
theorem take_drop_snoc (l : List UInt8) (k : Nat) (hk : k < l.length) (h : ¬ (l[k]?.getD 0).toNat < 128) (hp : sevens l = (sevens (l.drop k)).map (l.take k ++ ·)) : sevens l = (sevens (l.drop (k + 1))).map (l.take (k + 1) ++ ·) := by
  rw [hp, sevens_miss l k hk h, take_snoc' l k (l[k]?.getD 0) (by rw [List.getElem?_eq_getElem hk]; rfl)]
  simp [Function.comp_def]
set_option maxRecDepth 100000 in
theorem indexFunc_any (l : List UInt8) (v : Value) (w : World) (hl : l.length ≤ 1000000000) (hv : Bs w v l) :
    Calls Try.prog 65 #[v, .func (.func 66) #[] #[]] w fun e w' => e = .returned (.int .i64 (idxR l)) ∧ w = w' := by
  obtain ⟨a, cap, rfl, hcap, _, hc⟩ := hv.open
  have HC := Lib.hid hc
  clear hc
  go_enter Try.func65, Try.ntmps65
  go_wp2
  go_loop [8] (fun i => ∃ k : Nat, k ≤ l.length ∧ i = .int .i64 k ∧ Hid (sevens l = (sevens (l.drop k)).map (l.take k ++ ·))) (fun i => l.length - (intOf i).toNat)
  case atStart => exact ⟨0, Nat.zero_le _, rfl, by show _ = _; simp⟩
  case round =>
    obtain ⟨k, hk, rfl, HP⟩ := hrel
    by_cases hlt : k < l.length
    · obtain ⟨b, off, rfl, hcell⟩ := HC.out k hlt
      have HHIT := Lib.hid (sevens_hit l k hlt)
      have HMISS := Lib.hid (fun h => take_drop_snoc l k hlt h HP.out)
      generalize l[k]?.getD 0 = c at *
      by_cases h : c.toNat < 128
      · have HE := Lib.hid (show idxR l = k by unfold idxR; rw [HP.out, HHIT.out h]; simp; omega)
        have hd : decide ((c.toNat : Int) < 128) = true := by simp; omega
        go_wp2_with (go_at_call 66; go_must (refine (small_any c true _ hd).mono ?_; rintro e w' ⟨rfl, rfl⟩))
        go_ret
        exact ⟨by rw [HE.out]; rfl, rfl⟩
      · have HE := Lib.hid (HMISS.out h)
        have hd : decide ((c.toNat : Int) < 128) = false := by simp; omega
        go_wp2_with (go_at_call 66; go_must (refine (small_any c false _ hd).mono ?_; rintro e w' ⟨rfl, rfl⟩))
        go_round
        case rel => exact ⟨k + 1, by omega, by go_num, HE.out⟩
        case measure => simp [intOf] <;> omega
    · obtain rfl : k = l.length := by omega
      have HE := Lib.hid (show idxR l = -1 by unfold idxR; rw [HP.out]; simp [sevens])
      go_wp2
      go_ret
      exact ⟨by rw [HE.out]; rfl, rfl⟩
theorem sevens_prefix (l g : List UInt8) (h : sevens l = some g) : g = l.take g.length ∧ g.length ≤ l.length := by
  induction l generalizing g with
  | nil => simp [sevens] at h
  | cons c r ih =>
    rw [sevens] at h
    split at h
    · simp at h; subst h; simp
    · cases hr : sevens r with
      | none => rw [hr] at h; simp at h
      | some x =>
        rw [hr] at h; simp at h; subst h
        obtain ⟨h1, h2⟩ := ih x hr
        refine ⟨?_, by simpa using h2⟩
        rw [List.length_cons, List.take_succ_cons, ← h1]
theorem seven_any (l : List UInt8) (at_ : Int) (v : Value) (w : World) (hl : l.length ≤ 1000000000) (hv : Bs w v l) :
    Calls Try.prog 61 #[v, .int .i64 at_] w fun e w' => ∃ v', e = .returned (.tuple #[v', .int .i64 (sevenR l at_).2]) ∧ Bs w v' (sevenR l at_).1 ∧ w = w' := by
  obtain ⟨a, cap, rfl, hcap, _, _⟩ := hv.open
  by_cases h1 : at_ < 0
  · have HR := Lib.hid (show sevenR l at_ = ([], 5) by rw [sevenR, if_pos (.inl h1)])
    go_enter Try.func61, Try.ntmps61
    go_wp2
    go_ret2
    exact ⟨_, by rw [HR.out]; rfl, by rw [HR.out]; exact Bs.nil _, rfl⟩
  by_cases h2 : (l.length : Int) < at_
  · have HR := Lib.hid (show sevenR l at_ = ([], 5) by rw [sevenR, if_pos (.inr h2)])
    go_enter Try.func61, Try.ntmps61
    go_wp2
    go_ret2
    exact ⟨_, by rw [HR.out]; rfl, by rw [HR.out]; exact Bs.nil _, rfl⟩
  have hsev : sevenR l at_ = match sevens (l.drop at_.toNat) with | none => ([], 2) | some g => if g.length > 10 then ([], 3) else (g, 0) := by rw [sevenR, if_neg (by omega)]; rfl
  obtain ⟨v1, hrun, hv1⟩ := run_fromB hv (i := at_) (k := .i64) (by omega) (by omega)
  have HRUN := Lib.hid hrun
  have HI := Lib.hid (indexFunc_any _ v1 w (by rw [List.length_drop]; omega) hv1)
  have hidx : idxR (l.drop at_.toNat) = match sevens (l.drop at_.toNat) with | none => -1 | some g => (g.length : Int) - 1 := rfl
  clear hrun
  cases hs : sevens (l.drop at_.toNat) with
  | none =>
    rw [hs] at hidx hsev
    have HR := Lib.hid hsev
    rw [hidx] at HI
    clear hidx hsev hs
    go_enter Try.func61, Try.ntmps61
    go_wp2_with (first
      | (with_reducible show wpList _ _ _ (⟨some 17, _, _, _, _, _⟩ :: _) _ _; go_must (refine wpList_val rfl (exec_sliceFrom HRUN.out rfl rfl) ?_))
      | (go_at_call 65; go_must (refine HI.out.mono ?_; rintro e w' ⟨rfl, rfl⟩)))
    go_ret2
    exact ⟨_, by rw [HR.out]; rfl, by rw [HR.out]; exact Bs.nil _, rfl⟩
  | some g =>
    have hg1 := sevens_len _ _ hs
    obtain ⟨hg2, hg3⟩ := sevens_prefix _ _ hs
    rw [List.length_drop] at hg3
    have HG := Lib.hid hg2
    rw [hs] at hidx hsev
    simp only at hsev hidx
    rw [hidx] at HI
    clear hidx hs hg2
    by_cases h10 : g.length > 10
    · rw [if_pos h10] at hsev
      have HR := Lib.hid hsev
      clear hsev
      go_enter Try.func61, Try.ntmps61
      go_wp2_with (first
        | (with_reducible show wpList _ _ _ (⟨some 17, _, _, _, _, _⟩ :: _) _ _; go_must (refine wpList_val rfl (exec_sliceFrom HRUN.out rfl rfl) ?_))
        | (go_at_call 65; go_must (refine HI.out.mono ?_; rintro e w' ⟨rfl, rfl⟩)))
      go_ret2
      exact ⟨_, by rw [HR.out]; rfl, by rw [HR.out]; exact Bs.nil _, rfl⟩
    · rw [if_neg h10] at hsev
      have HR := Lib.hid hsev
      clear hsev
      obtain ⟨v2, hrun2, hv2⟩ := run_sliceB hv (i := at_) (j := at_ + (g.length - 1) + 1) (k := .i64) (k' := .i64) (by omega) (by omega) (by omega)
      have HRUN2 := Lib.hid hrun2
      rw [show (at_ + ((g.length : Int) - 1) + 1 - at_).toNat = g.length by omega, ← HG.out] at hv2
      clear hrun2
      go_enter Try.func61, Try.ntmps61
      go_wp2_with (first
        | (with_reducible show wpList _ _ _ (⟨some 17, _, _, _, _, _⟩ :: _) _ _; go_must (refine wpList_val rfl (exec_sliceFrom HRUN.out rfl rfl) ?_))
        | (go_at_call 65; go_must (refine HI.out.mono ?_; rintro e w' ⟨rfl, rfl⟩))
        | (with_reducible show wpList _ _ _ (⟨some 31, _, _, _, _, _⟩ :: _) _ _; go_must (refine wpList_val rfl (exec_slice2 HRUN2.out rfl rfl rfl) ?_)))
      go_ret2
      exact ⟨_, by rw [HR.out]; rfl, by rw [HR.out]; exact hv2, rfl⟩
end Go.Proofs.Ytmpmkjlkhlagfaa
namespace Go.Proofs.Ytmpmkjlkhlagfaa
open Go.RowKit Go.Fd
theorem sevens_last (l g : List UInt8) (h : sevens l = some g) : (g[g.length - 1]?.getD 0).toNat < 128 := by
  induction l generalizing g with
  | nil => simp [sevens] at h
  | cons c r ih =>
    rw [sevens] at h
    split at h
    · next hc => simp at h; subst h; simpa using hc
    · cases hr : sevens r with
      | none => rw [hr] at h; simp at h
      | some x =>
        rw [hr] at h; simp at h; subst h
        have h1 := sevens_len _ _ hr
        have := ih x hr
        rw [List.length_cons, show x.length + 1 - 1 = (x.length - 1) + 1 by omega, List.getElem?_cons_succ]
        exact this
theorem sevenR_last (l : List UInt8) (at_ : Int) (h : (sevenR l at_).2 = 0) : ((sevenR l at_).1[(sevenR l at_).1.length - 1]?.getD 0).toNat < 128 := by
  rw [sevenR] at h ⊢
  split at h
  · simp at h
  · next h0 =>
    rw [if_neg h0]
    split at h
    · simp at h
    · next g hg =>
      split at h
      · simp at h
      · next h1 => simp only [if_neg h1]; exact sevens_last _ _ hg
theorem and127 (c : UInt8) : bits .and .u8 (c.toNat : Int) 127 = ((c.toNat % 128 : Nat) : Int) := by
  have := c.toNat_lt
  rw [show (127 : Int) = ((127 : Nat) : Int) from rfl, u8_and_nat _ _ (by omega) (by omega), nat_mask7]
theorem low7_get (g : List UInt8) (k : Nat) (hk : k < g.length) : (low7 g)[k]? = some ((g[k]?.getD 0).toNat % 128) := by
  unfold low7
  rw [List.getElem?_map, List.getElem?_eq_getElem hk]; rfl
set_option maxRecDepth 100000 in
theorem octReadLeb_any (l : List UInt8) (at_ : Int) (v : Value) (w : World) (hl : l.length ≤ 1000000000) (hv : Bs w v l) :
    Calls Try.prog 54 #[v, .int .i64 at_] w fun e w' =>
      e = .returned (.tuple #[.int .u64 (readLebR l at_).1, .int .i64 (readLebR l at_).2.1, .int .i64 (readLebR l at_).2.2]) ∧ w = w' := by
  have hg := seven_any l at_ v w hl hv
  have HLE := Lib.hid (sevenR_len l at_)
  have HLA := Lib.hid (sevenR_last l at_)
  have HR := Lib.hid (show readLebR l at_ = if (sevenR l at_).2 ≠ 0 then (0, 0, (sevenR l at_).2) else if (sevenR l at_).1.length = 10 ∧ 1 < (low7 (sevenR l at_).1)[9]?.getD 0 then (0, 0, 3) else (lebVal (low7 (sevenR l at_).1), (sevenR l at_).1.length, 0) from rfl)
  generalize sevenR l at_ = r at *
  obtain ⟨g, e⟩ := r
  have HG := Lib.hid hg
  clear hg
  by_cases he : e = 0
  · subst he
    obtain ⟨hl1, hl10⟩ := HLE.out rfl
    have HLB := Lib.hid (show (g[g.length - 1]?.getD 0).toNat < 128 from HLA.out rfl)
    clear HLA HLE
    have HL7 := Lib.hid (low7_lt g)
    have hlow : (low7 g).length = g.length := by simp [low7]
    have HLOW := Lib.hid hlow
    have HR2 := Lib.hid (show readLebR l at_ = if g.length = 10 ∧ 1 < (low7 g)[9]?.getD 0 then (0, 0, 3) else (lebVal (low7 g), g.length, 0) by rw [HR.out]; rfl)
    clear hlow
    go_enter Try.func54, Try.ntmps54
    go_wp2_with (go_at_call 61; go_must (refine HG.out.mono ?_; rintro e w1 ⟨v1, rfl, hown, rfl⟩; obtain ⟨a1, cap1, rfl, hcap1, _, hc1⟩ := hown.open; have HC := Lib.hid hc1; clear hc1))
    go_loop [9, 23] (fun n i => ∃ k : Nat, k ≤ g.length ∧ i = .int .i64 k ∧ n = .int .u64 (lebVal ((low7 g).take k)) ∧ (9 < k → (low7 g)[9]?.getD 0 ≤ 1)) (fun _ i => g.length - (intOf i).toNat)
    case atStart => exact ⟨0, Nat.zero_le _, rfl, rfl, by omega⟩
    case round =>
      obtain ⟨k, hk, rfl, rfl, h9⟩ := hrel
      have H9 := Lib.hid h9
      clear h9
      by_cases hlt : k < g.length
      · obtain ⟨b, off, rfl, hcell⟩ := HC.out k hlt
        have HGET := Lib.hid (low7_get g k hlt)
        have HS := Lib.hid (take_snoc' (low7 g) k _ HGET.out)
        have HV := Lib.hid (lebVal_snoc ((low7 g).take k) ((g[k]?.getD 0).toNat % 128))
        have HTL := Lib.hid (show ((low7 g).take k).length = k by rw [List.length_take, HLOW.out]; omega)
        have HN := Lib.hid (Nat.lt_of_lt_of_eq (lebVal_lt ((low7 g).take k) fun d hd => HL7.out d (List.mem_of_mem_take hd)) (by rw [HTL.out]))
        have HLAST := Lib.hid (fun h9 : k = 9 => show (g[k]?.getD 0).toNat < 128 from by have := HLB.out; rw [show g.length - 1 = k by omega] at this; exact this)
        have HK := Lib.hid (show k = 9 → (low7 g)[9]?.getD 0 = (g[k]?.getD 0).toNat % 128 by rintro rfl; rw [HGET.out]; rfl)
        generalize g[k]?.getD 0 = c at *
        have hcu := c.toNat_lt
        have HA := Lib.hid (and127 c)
        have ha1 : 0 ≤ bits .and .u8 (c.toNat : Int) 127 := by rw [HA.out]; omega
        have ha2 : bits .and .u8 (c.toNat : Int) 127 < 128 := by rw [HA.out]; omega
        generalize lebVal ((low7 g).take k) = n at *
        by_cases hk9 : k = 9
        · subst hk9
          have hc128 := HLAST.out rfl
          by_cases hd1 : 1 < c.toNat
          · have HR3 := Lib.hid (show readLebR l at_ = (0, 0, 3) by rw [HR2.out]; exact if_pos ⟨by omega, by rw [HK.out rfl]; omega⟩)
            go_wp2
            go_ret3
            exact ⟨by rw [HR3.out]; rfl, rfl⟩
          · have HO := Lib.hid (or_group n (c.toNat % 128) 9 HN.out (by omega) (by omega) fun _ => by omega).2
            have ha3 : bits .and .u8 (c.toNat : Int) 127 ≤ 1 := by rw [HA.out]; omega
            go_wp2
            go_round
            case rel => exact ⟨10, by omega, rfl, by rw [HS.out, HV.out, HTL.out, ← HO.out, HA.out]; simp, fun _ => by rw [HK.out rfl]; omega⟩
            case measure => simp [intOf] <;> omega
        · have hb9 : ((k : Int) == 9) = false := beq_eq_false_iff_ne.2 (by omega)
          have HO' := Lib.hid (or_groupW n (c.toNat % 128) k HN.out (by omega) (by omega) fun h => absurd h hk9)
          go_wp2
          go_round
          case rel => exact ⟨k + 1, by omega, by go_num, by rw [HS.out, HV.out, HTL.out, ← HO'.out, HA.out], fun h => by omega⟩
          case measure => simp [intOf] <;> omega
      · obtain rfl : k = g.length := by omega
        have HTK := Lib.hid (show (low7 g).take g.length = low7 g by rw [← HLOW.out, List.take_length])
        have HR3 := Lib.hid (show readLebR l at_ = (lebVal (low7 g), g.length, 0) by rw [HR2.out]; exact if_neg (fun h => by have := H9.out (by omega); omega))
        go_wp2
        go_ret3
        exact ⟨by rw [HR3.out, ← HTK.out]; simp [HTK.out], rfl⟩
  · have HR2 := Lib.hid (show readLebR l at_ = (0, 0, e) by rw [HR.out]; exact if_pos he)
    have he' : (e != 0) = true := bne_iff_ne.2 he
    clear he
    go_enter Try.func54, Try.ntmps54
    go_wp2_with (go_at_call 61; go_must (refine HG.out.mono ?_; rintro e w1 ⟨v1, rfl, hown, rfl⟩))
    go_ret3
    exact ⟨by rw [HR2.out]; rfl, rfl⟩
end Go.Proofs.Ytmpmkjlkhlagfaa
namespace Go.Proofs.Ytmpmkjlkhlagfaa
open Go.RowKit Go.Fd
theorem and64 (c : UInt8) (h : c.toNat < 128) : (bits .and .u8 (c.toNat : Int) 64 != 0) = decide (64 ≤ c.toNat) := by
  rw [show (64 : Int) = ((64 : Nat) : Int) from rfl, u8_and_nat _ _ (by omega) (by omega)]
  have : ∀ x : Fin 128, (((x.val &&& 64 : Nat) : Int) != 0) = decide (64 ≤ x.val) := by decide +kernel
  exact this ⟨c.toNat, h⟩
set_option maxHeartbeats 1000000 in
set_option maxRecDepth 100000 in
theorem octReadSleb_any (l : List UInt8) (at_ : Int) (v : Value) (w : World) (hl : l.length ≤ 1000000000) (hv : Bs w v l) :
    Calls Try.prog 56 #[v, .int .i64 at_] w fun e w' =>
      e = .returned (.tuple #[.int .i64 (readSlebR l at_).1, .int .i64 (readSlebR l at_).2.1, .int .i64 (readSlebR l at_).2.2]) ∧ w = w' := by
  have hg := seven_any l at_ v w hl hv
  have HLE := Lib.hid (sevenR_len l at_)
  have HLA := Lib.hid (sevenR_last l at_)
  have HR := Lib.hid (show readSlebR l at_ = if (sevenR l at_).2 ≠ 0 then (0, 0, (sevenR l at_).2) else if (sevenR l at_).1.length = 10 ∧ (low7 (sevenR l at_).1)[9]?.getD 0 ≠ 0 ∧ (low7 (sevenR l at_).1)[9]?.getD 0 ≠ 127 then (0, 0, 3) else (slebVal (low7 (sevenR l at_).1), (sevenR l at_).1.length, 0) from rfl)
  generalize sevenR l at_ = r at *
  obtain ⟨g, e⟩ := r
  have HG := Lib.hid hg
  clear hg
  by_cases he : e = 0
  · subst he
    obtain ⟨hl1, hl10⟩ := HLE.out rfl
    have HLB := Lib.hid (show (g[g.length - 1]?.getD 0).toNat < 128 from HLA.out rfl)
    clear HLA HLE
    have HL7 := Lib.hid (low7_lt g)
    have HLOW := Lib.hid (show (low7 g).length = g.length by simp [low7])
    have HR2 := Lib.hid (show readSlebR l at_ = if g.length = 10 ∧ (low7 g)[9]?.getD 0 ≠ 0 ∧ (low7 g)[9]?.getD 0 ≠ 127 then (0, 0, 3) else (slebVal (low7 g), g.length, 0) by rw [HR.out]; rfl)
    go_enter Try.func56, Try.ntmps56
    go_wp2_with (go_at_call 61; go_must (refine HG.out.mono ?_; rintro e w1 ⟨v1, rfl, hown, rfl⟩; obtain ⟨a1, cap1, rfl, hcap1, _, hc1⟩ := hown.open; have HC := Lib.hid hc1; clear hc1))
    go_loop [9, 24] (fun n i => ∃ (k m : Nat), k ≤ g.length ∧ i = .int .i64 k ∧ n = .int .u64 m ∧ Hid (m = lebVal ((low7 g).take k) % 18446744073709551616) ∧ (9 < k → (low7 g)[9]?.getD 0 = 0 ∨ (low7 g)[9]?.getD 0 = 127)) (fun _ i => g.length - (intOf i).toNat)
    case atStart => exact ⟨0, 0, Nat.zero_le _, rfl, rfl, rfl, by omega⟩
    case round =>
      obtain ⟨k, m, hk, rfl, rfl, HM, h9⟩ := hrel
      have H9 := Lib.hid h9
      clear h9
      by_cases hlt : k < g.length
      · obtain ⟨b, off, rfl, hcell⟩ := HC.out k hlt
        have HGET := Lib.hid (low7_get g k hlt)
        have HS := Lib.hid (take_snoc' (low7 g) k _ HGET.out)
        have HV := Lib.hid (lebVal_snoc ((low7 g).take k) ((g[k]?.getD 0).toNat % 128))
        have HTL := Lib.hid (show ((low7 g).take k).length = k by rw [List.length_take, HLOW.out]; omega)
        have HN := Lib.hid (Nat.lt_of_lt_of_eq (lebVal_lt ((low7 g).take k) fun d hd => HL7.out d (List.mem_of_mem_take hd)) (by rw [HTL.out]))
        have HMM := Lib.hid (show m = lebVal ((low7 g).take k) by
          rw [HM.out, Nat.mod_eq_of_lt]
          exact Nat.lt_of_lt_of_le HN.out (Nat.le_trans (Nat.pow_le_pow_right (by omega) (by omega : k ≤ 9)) (by decide)))
        have HLAST := Lib.hid (fun h9 : k = 9 => show (g[k]?.getD 0).toNat < 128 from by have := HLB.out; rw [show g.length - 1 = k by omega] at this; exact this)
        have HK := Lib.hid (show k = 9 → (low7 g)[9]?.getD 0 = (g[k]?.getD 0).toNat % 128 by rintro rfl; rw [HGET.out]; rfl)
        generalize g[k]?.getD 0 = c at *
        have hcu := c.toNat_lt
        have HA := Lib.hid (and127 c)
        have ha1 : 0 ≤ bits .and .u8 (c.toNat : Int) 127 := by rw [HA.out]; omega
        have ha2 : bits .and .u8 (c.toNat : Int) 127 < 128 := by rw [HA.out]; omega
        by_cases hk9 : k = 9
        · subst hk9
          have hc128 := HLAST.out rfl
          have HK2 := Lib.hid (show (low7 g)[9]?.getD 0 = c.toNat by rw [HK.out rfl]; omega)
          by_cases hd : c.toNat = 0 ∨ c.toNat = 127
          · have HO := Lib.hid (or_group9 m c.toNat (by rw [HMM.out]; exact HN.out) hd)
            have HD := Lib.hid hd
            have HCM := Lib.hid (show c.toNat % 128 = c.toNat by omega)
            have hd0 : ((c.toNat : Int) != 0) = false ∧ bits .and .u8 (c.toNat : Int) 127 ≤ 1 ∨ ((c.toNat : Int) != 0) = true ∧ ((c.toNat : Int) != 127) = false := by
              rcases hd with h | h
              · exact .inl ⟨by rw [h]; rfl, by rw [HA.out, h]; decide⟩
              · exact .inr ⟨by rw [h]; rfl, by rw [h]; rfl⟩
            clear hd
            rcases hd0 with ⟨hd0, _⟩ | ⟨hd0, hd1⟩
            all_goals
              go_wp2
              go_round
              case rel => exact ⟨10, (m + c.toNat * 128 ^ 9) % 18446744073709551616, by omega, rfl, by rw [← HO.out, HA.out, HCM.out]; first | done | rw [IntKind.wrap_u64, Int.emod_eq_of_lt (by omega) (by have := HD.out; have := HA.out; omega)], by show _ = _; rw [HS.out, HV.out, HTL.out, ← HMM.out, HCM.out], fun _ => by rw [HK2.out]; exact HD.out⟩
              case measure => simp [intOf] <;> omega
          · have hd0 : ((c.toNat : Int) != 0) = true := bne_iff_ne.2 (by omega)
            have hd1 : ((c.toNat : Int) != 127) = true := bne_iff_ne.2 (by omega)
            have HR3 := Lib.hid (show readSlebR l at_ = (0, 0, 3) by rw [HR2.out]; exact if_pos ⟨by omega, by rw [HK2.out]; omega, by rw [HK2.out]; omega⟩)
            clear hd
            go_wp2
            go_ret3
            exact ⟨by rw [HR3.out]; rfl, rfl⟩
        · have hb9 : ((k : Int) == 9) = false := beq_eq_false_iff_ne.2 (by omega)
          have HO' := Lib.hid (or_groupW m (c.toNat % 128) k (by rw [HMM.out]; exact HN.out) (by omega) (by omega) fun h => absurd h hk9)
          go_wp2
          go_round
          case rel => exact ⟨k + 1, m + c.toNat % 128 * 128 ^ k, by omega, by go_num, by rw [← HO'.out, HA.out], by show _ = _; rw [HS.out, HV.out, HTL.out, ← HMM.out, Nat.mod_eq_of_lt (group_lt _ _ _ (by rw [HMM.out]; exact HN.out) (by omega) (by omega))], fun h => by omega⟩
          case measure => simp [intOf] <;> omega
      · obtain rfl : k = g.length := by omega
        have HTK := Lib.hid (show (low7 g).take g.length = low7 g by rw [← HLOW.out, List.take_length])
        have HR3 := Lib.hid (show readSlebR l at_ = (slebVal (low7 g), g.length, 0) by rw [HR2.out]; exact if_neg (fun h => by have := H9.out (by omega); omega))
        rw [HTK.out] at HM
        obtain ⟨b, off, rfl, hcell⟩ := HC.out (g.length - 1) (by omega)
        have HLT := Lib.hid (show lebVal (low7 g) < 128 ^ g.length by rw [← HLOW.out]; exact lebVal_lt (low7 g) HL7.out)
        have HSV := Lib.hid (show slebVal (low7 g) = if g.length < 10 ∧ 64 ≤ (g[g.length - 1]?.getD 0).toNat then (lebVal (low7 g) : Int) - 128 ^ g.length else IntKind.i64.wrap (lebVal (low7 g) % 18446744073709551616 : Nat) by
          unfold slebVal
          rw [HLOW.out, low7_get g (g.length - 1) (by omega), Option.getD_some, Nat.mod_eq_of_lt HLB.out])
        have hc128 := HLB.out
        clear HLB
        generalize g[g.length - 1]?.getD 0 = c at *
        have ht := and64 c hc128
        by_cases h10 : g.length < 10
        · have HMM := Lib.hid (show m = lebVal (low7 g) by rw [HM.out, Nat.mod_eq_of_lt]; exact Nat.lt_of_lt_of_le HLT.out (Nat.le_trans (Nat.pow_le_pow_right (by omega) (by omega : g.length ≤ 9)) (by decide)))
          by_cases h64 : 64 ≤ c.toNat
          · rw [decide_eq_true h64] at ht
            have HSV2 := Lib.hid (show wrap64 (bits .or .u64 (m : Int) (IntKind.u64.wrap (18446744073709551615 * 2 ^ (7 * g.length)))) = slebVal (low7 g) by rw [sleb_high m g.length (by rw [HMM.out]; exact HLT.out) (by omega), HSV.out, if_pos ⟨h10, h64⟩, HMM.out])
            go_wp2
            go_ret3
            exact ⟨by rw [HR3.out, ← HSV2.out]; rfl, rfl⟩
          · rw [decide_eq_false h64] at ht
            have HSV2 := Lib.hid (show wrap64 (m : Int) = slebVal (low7 g) by rw [HSV.out, if_neg (by omega), HM.out, wrapEq])
            go_wp2
            go_ret3
            exact ⟨by rw [HR3.out, ← HSV2.out]; rfl, rfl⟩
        · have HSV2 := Lib.hid (show wrap64 (m : Int) = slebVal (low7 g) by rw [HSV.out, if_neg (by omega), HM.out, wrapEq])
          go_wp2
          go_ret3
          exact ⟨by rw [HR3.out, ← HSV2.out]; rfl, rfl⟩
  · have HR2 := Lib.hid (show readSlebR l at_ = (0, 0, e) by rw [HR.out]; exact if_pos he)
    have he' : (e != 0) = true := bne_iff_ne.2 he
    clear he
    go_enter Try.func56, Try.ntmps56
    go_wp2_with (go_at_call 61; go_must (refine HG.out.mono ?_; rintro e w1 ⟨v1, rfl, hown, rfl⟩))
    go_ret3
    exact ⟨by rw [HR2.out]; rfl, rfl⟩
end Go.Proofs.Ytmpmkjlkhlagfaa
namespace Go.Proofs.Ytmpmkjlkhlagfaa
open Go.RowKit Go.Fd
/-- Is a stretch in the bytes? -/
def inB (l : List UInt8) (at_ size : Nat) : Bool := decide (at_ ≤ l.length) && decide (size ≤ l.length - at_)
end Go.Proofs.Ytmpmkjlkhlagfaa
namespace Go.Proofs.Ytmpmkjlkhlagfaa
open Go.RowKit Go.Fd
/-- A segment's header, as it is read; whether it is there. -/
def segP (l : List UInt8) (a : Nat) : SegM := ⟨gN l a 4, gN l (a + 4) 4, gN l (a + 8) 8, gN l (a + 16) 8, gN l (a + 32) 8, gN l (a + 40) 8, gN l (a + 48) 8⟩
def segOk (l : List UInt8) (a : Nat) : Bool := okB l a 4 && okB l (a + 4) 4 && okB l (a + 8) 8 && okB l (a + 16) 8 && okB l (a + 32) 8 && okB l (a + 40) 8 && okB l (a + 48) 8
end Go.Proofs.Ytmpmkjlkhlagfaa
namespace Go.Fd
open Go.RowKit
section
variable {P : Program} {Up : Exit → Prop} {L r : List Oper} {M : List (Nat × Yld)} {a : Act} {w0 : World} {E : Act → Prop} {i : Nat} {o : Oper}
end
end Go.Fd
namespace Go.Proofs.Ytmpmkjlkhlagfaa
open Go.RowKit Go.Fd
end Go.Proofs.Ytmpmkjlkhlagfaa
namespace Go.Proofs.Ytmpmkjlkhlagfaa
open Go.RowKit Go.Fd
theorem own_kind {w : World} {base e size n : Nat} {v : Value} {xs : List Value} (h : w.ownsRow base e size v n xs) : ∀ g, v.ownBlock = some g → ∃ c fz, w.heap[g]? = some (.cells c e fz) := by
  intro g hg
  rcases h.2 with ⟨rfl, _⟩ | ⟨g', cap, cur, rfl, _, hh, _⟩
  · cases hg
  · cases hg
    exact ⟨cur, _, hh⟩
end Go.Proofs.Ytmpmkjlkhlagfaa
namespace Go.Proofs.Ytmpmkjlkhlagfaa
open Go.RowKit Go.Fd
/-- A section's header, as it is read; whether it is there, with its name and its bytes. -/
def secP (l tab : List UInt8) (a : Nat) : SecM := ⟨(atR tab (gN l a 4 : Nat)).1, gN l (a + 4) 4, gN l (a + 8) 8, gN l (a + 16) 8, gN l (a + 48) 8, gN l (a + 32) 8, gN l (a + 40) 4, gN l (a + 44) 4, gN l (a + 56) 8, if gN l (a + 4) 4 = 8 then [] else (l.drop (gN l (a + 24) 8)).take (gN l (a + 32) 8)⟩
def secOk (l tab : List UInt8) (a : Nat) : Bool := decide (a + 64 ≤ l.length) && decide ((atR tab (gN l a 4 : Nat)).2 = 0) && (decide (gN l (a + 4) 4 = 8) || inB l (gN l (a + 24) 8) (gN l (a + 32) 8))
/-- A whole struct into a block that was made; what else stays. -/
theorem wpList_storeRowS {P : Program} {ops : Array Oper} {rest : List Oper} {Q : Exit → Act → World → Prop} {a : Act} {w : World} {d : Option Tmp} {ty t : TypeId} {pos : String} {aft : Array Edge} {p x : Operand} {c c' : Array Value} {g : Nat} (hg : w.heap[g]? = some (.cells c t (0, 0))) (hp : a.eval p = .pointer (some ⟨g, 0, none⟩)) (hx : a.eval x = .agg c')
    (ho : c.size = c'.size) (hs : (P.info? t).map (·.size) = some c'.size) (h1 : c'.all (·.oneCell') = true)
    (h : ∀ w1, w1.heap[g]? = some (.cells c' t (0, 0)) → Stirs (fun k => k = g) w w1 → wpList P ops Q rest (a.put d undef) w1) :
    wpList P ops Q (⟨d, .store t p x, ty, pos, aft, none⟩ :: rest) a w := by
  have hr : (execOp a.eval ⟨d, .store t p x, ty, pos, aft, none⟩).run P w = .ok .skip (w.setRow g c') := by
    simp only [execOp, hp, hx, Instr.storeAt, Instr.sureAddr, Sem.run_bind, Sem.run_pure, Result.andThen, run_storeVar_row w g t t c c' hg hs ho h1]
  refine wpList_did rfl hr (h _ ?_ ?_)
  · simp only [World.setRow]
    rw [Array.getElem?_modify, if_pos rfl, hg]
    rfl
  · refine ⟨rfl, rfl, rfl, by simp [World.setRow], fun k _ hk => ?_⟩
    have : g ≠ k := fun e => hk e.symm
    simp only [World.setRow]
    rw [Array.getElem?_modify, if_neg this]
attribute [local irreducible] gN okB inB atR
end Go.Proofs.Ytmpmkjlkhlagfaa
namespace Go.Proofs.Ytmpmkjlkhlagfaa
open Go.RowKit Go.Fd
def nsecsP (l : List UInt8) : Nat := gN l 60 2 - 2
def lastP (l : List UInt8) : Nat := gN l 40 8 + 64 * (nsecsP l + 1)
def tabP (l : List UInt8) : List UInt8 := (l.drop (gN l (lastP l + 24) 8)).take (gN l (lastP l + 32) 8)
end Go.Proofs.Ytmpmkjlkhlagfaa
namespace Go.Proofs.Ytmpmkjlkhlagfaa
open Go.RowKit Go.Fd
/-- One number into a block that was there. -/
theorem wpList_setI {P : Program} {ops : Array Oper} {rest : List Oper} {Q : Exit → Act → World → Prop} {a : Act} {w : World} {d : Option Tmp} {ty t tb : TypeId} {pos : String} {aft : Array Edge} {p x : Operand} {c : Array Value} {g j : Nat} {k : IntKind} {n : Int} (hg : w.heap[g]? = some (.cells c tb (0, 0))) (hj : j < c.size) (hp : a.eval p = .pointer (some ⟨g, j, none⟩)) (hx : a.eval x = .int k n) (hs : ∀ w, (sizeOf t).run P w = .ok 1 w)
    (h : ∀ w1, w1.heap[g]? = some (.cells (c.setIfInBounds j (.int k n)) tb (0, 0)) → Stirs (fun k => k = g) w w1 → wpList P ops Q rest (a.put d undef) w1) :
    wpList P ops Q (⟨d, .store t p x, ty, pos, aft, none⟩ :: rest) a w := by
  have hc : w.cell? ⟨g, j, none⟩ = some c[j] := (cell_rec hg j).trans (Array.getElem?_eq_getElem hj)
  have hfz := free_rec' hg j
  have hst : Stirs (fun k => k = g) w (w.setCell ⟨g, j, none⟩ (.int k n)) := stirs_setCell (S := fun k => k = g) _ g j _ rfl
  refine wpList_did (w' := w.setCell ⟨g, j, none⟩ (.int k n)) rfl ?_ (h _ ?_ hst)
  · simp only [execOp, hp, hx]
    simp [go_sem, hs, hc, hfz]
  · simp [World.setCell, Array.getElem?_modify, hg]
end Go.Proofs.Ytmpmkjlkhlagfaa
namespace Go.Proofs.Ytmpmkjlkhlagfaa
open Go.RowKit Go.Fd
/-- A cursor behind a pointer. -/
def CurAt (w : World) (g : Nat) (bv : Value) (at_ bl : Nat) : Prop := w.heap[g]? = some (.cells #[bv, .int .i64 (at_ : Int), .int .i64 (bl : Int)] 65 (0, 0))
theorem CurAt.cells {w : World} {g at_ bl : Nat} {bv : Value} (h : CurAt w g bv at_ bl) : w.cell? ⟨g, 0, none⟩ = some bv ∧ w.cell? ⟨g, 1, none⟩ = some (.int .i64 (at_ : Int)) ∧ w.cell? ⟨g, 2, none⟩ = some (.int .i64 (bl : Int)) :=
  ⟨cell_rec h 0, cell_rec h 1, cell_rec h 2⟩
theorem must_any (p : Value) (w : World) : Calls Try.prog 29 #[p, .bool true] w fun e w' => e = .returned (.tuple #[]) ∧ w = w' := by
  go_enter Try.func29, Try.ntmps29
  go_wp2
  go_end0
  exact ⟨rfl, rfl⟩
theorem okB_get {l : List UInt8} {a s : Nat} (h : okB l a s = true) : getR l a s false = (gN l a s, 0) := by
  unfold okB at h
  have := of_decide_eq_true h
  unfold gN
  rw [← this]
set_option maxRecDepth 100000 in
theorem curU_any (l : List UInt8) (g at_ bl size : Nat) (bv : Value) (w : World) (hc : CurAt w g bv at_ bl) (hv : Bs w bv l) (hl : l.length ≤ 1000000000) (hs : size ≤ 8) (hat : at_ ≤ 1000000000) (hok : okB l at_ size = true) :
    Calls Try.prog 28 #[.pointer (some ⟨g, 0, none⟩), .int .i64 size] w fun e w' => e = .returned (.int .u64 ((gN l at_ size : Nat) : Int)) ∧ CurAt w' g bv (at_ + size) bl ∧ Stirs (fun k => k = g) w w' := by
  have HC := Lib.hid hc
  have HU := Lib.hid (fun n => octU_any l at_ size bv (w.drewN n) hl (hv.mono (below_drewN (Below.refl _ _) n)))
  rw [okB_get hok] at HU
  obtain ⟨c0, c1, c2⟩ := hc.cells
  obtain ⟨m, ad, cap, -, rfl, _, _⟩ := hv.shape
  generalize gN l at_ size = N at *
  have HU2 := Lib.hid (fun n => (HU.out n).mono fun e w' ⟨h1, h2⟩ => (⟨h1, h2.symm⟩ : e = _ ∧ w' = w.drewN n))
  clear hc hv hok HU
  go_enter Try.func28, Try.ntmps28
  go_wp2
  go_quiet ((go_at_call 40; exact Calls.quiet_of_same (HU2.out _)))
  go_wp2_with (first
    | (go_at_call 29; go_must (refine (must_any _ _).mono ?_; rintro e w1 ⟨rfl, rfl⟩))
    | ((with_reducible show wpList _ _ _ (⟨none, .store _ _ _, _, _, _, _⟩ :: _) _ _); go_must (refine wpList_setI HC.out (show 1 < 3 by decide) rfl rfl (fun w => by kernel_rfl) ?_; intro w2 hh2 hs2; have HH2 := Lib.hid hh2; have HS2 := Lib.hid hs2; clear hh2 hs2)))
  go_ret
  exact ⟨rfl, by have := HH2.out; simpa [CurAt] using this, (Stirs.of_below (below_drewN (Below.refl _ _) _)).trans HS2.out fun _ _ h => h⟩
theorem curU1 {l : List UInt8} {g at_ bl N : Nat} {bv : Value} {w : World} (hc : CurAt w g bv at_ bl) (hv : Bs w bv l) (hl : l.length ≤ 1000000000) (hat : at_ ≤ 1000000000) (hok : okB l at_ 1 = true ∧ gN l at_ 1 = N) :
    Calls Try.prog 28 #[.pointer (some ⟨g, 0, none⟩), .int .i64 1] w fun e w' => e = .returned (.int .u64 (N : Int)) ∧ CurAt w' g bv (at_ + 1) bl ∧ Stirs (fun k => k = g) w w' := by
  have h := curU_any l g at_ bl 1 bv w hc hv hl (by decide) hat hok.1
  rw [hok.2] at h
  exact h
theorem curU2 {l : List UInt8} {g at_ bl N : Nat} {bv : Value} {w : World} (hc : CurAt w g bv at_ bl) (hv : Bs w bv l) (hl : l.length ≤ 1000000000) (hat : at_ ≤ 1000000000) (hok : okB l at_ 2 = true ∧ gN l at_ 2 = N) :
    Calls Try.prog 28 #[.pointer (some ⟨g, 0, none⟩), .int .i64 2] w fun e w' => e = .returned (.int .u64 (N : Int)) ∧ CurAt w' g bv (at_ + 2) bl ∧ Stirs (fun k => k = g) w w' := by
  have h := curU_any l g at_ bl 2 bv w hc hv hl (by decide) hat hok.1
  rw [hok.2] at h
  exact h
theorem curU4 {l : List UInt8} {g at_ bl N : Nat} {bv : Value} {w : World} (hc : CurAt w g bv at_ bl) (hv : Bs w bv l) (hl : l.length ≤ 1000000000) (hat : at_ ≤ 1000000000) (hok : okB l at_ 4 = true ∧ gN l at_ 4 = N) :
    Calls Try.prog 28 #[.pointer (some ⟨g, 0, none⟩), .int .i64 4] w fun e w' => e = .returned (.int .u64 (N : Int)) ∧ CurAt w' g bv (at_ + 4) bl ∧ Stirs (fun k => k = g) w w' := by
  have h := curU_any l g at_ bl 4 bv w hc hv hl (by decide) hat hok.1
  rw [hok.2] at h
  exact h
theorem curU8 {l : List UInt8} {g at_ bl N : Nat} {bv : Value} {w : World} (hc : CurAt w g bv at_ bl) (hv : Bs w bv l) (hl : l.length ≤ 1000000000) (hat : at_ ≤ 1000000000) (hok : okB l at_ 8 = true ∧ gN l at_ 8 = N) :
    Calls Try.prog 28 #[.pointer (some ⟨g, 0, none⟩), .int .i64 8] w fun e w' => e = .returned (.int .u64 (N : Int)) ∧ CurAt w' g bv (at_ + 8) bl ∧ Stirs (fun k => k = g) w w' := by
  have h := curU_any l g at_ bl 8 bv w hc hv hl (by decide) hat hok.1
  rw [hok.2] at h
  exact h
set_option maxRecDepth 100000 in
theorem curLeb_any (l : List UInt8) (g at_ bl k : Nat) (n : Nat) (bv : Value) (w : World) (hc : CurAt w g bv at_ bl) (hv : Bs w bv l) (hl : l.length ≤ 1000000000) (hat : at_ ≤ 1000000000) (hk : k ≤ 100) (hr : readLebR l at_ = (n, k, 0)) :
    Calls Try.prog 48 #[.pointer (some ⟨g, 0, none⟩)] w fun e w' => e = .returned (.int .u64 (n : Int)) ∧ CurAt w' g bv (at_ + k) bl ∧ Stirs (fun k => k = g) w w' := by
  have HC := Lib.hid hc
  have HU := Lib.hid (fun n => octReadLeb_any l at_ bv (w.drewN n) hl (hv.mono (below_drewN (Below.refl _ _) n)))
  rw [hr] at HU
  obtain ⟨c0, c1, c2⟩ := hc.cells
  obtain ⟨m, ad, cap, -, rfl, _, _⟩ := hv.shape
  have HU2 := Lib.hid (fun n => (HU.out n).mono fun e w' ⟨h1, h2⟩ => (⟨h1, h2.symm⟩ : e = _ ∧ w' = w.drewN n))
  clear hc hv hr HU
  go_enter Try.func48, Try.ntmps48
  go_wp2
  go_quiet ((go_at_call 54; exact Calls.quiet_of_same (HU2.out _)))
  go_wp2_with (first
    | (go_at_call 29; go_must (refine (must_any _ _).mono ?_; rintro e w1 ⟨rfl, rfl⟩))
    | ((with_reducible show wpList _ _ _ (⟨none, .store _ _ _, _, _, _, _⟩ :: _) _ _); go_must (refine wpList_setI HC.out (show 1 < 3 by decide) rfl rfl (fun w => by kernel_rfl) ?_; intro w2 hh2 hs2; have HH2 := Lib.hid hh2; have HS2 := Lib.hid hs2; clear hh2 hs2)))
  go_ret
  exact ⟨rfl, by have := HH2.out; simpa [CurAt] using this, (Stirs.of_below (below_drewN (Below.refl _ _) _)).trans HS2.out fun _ _ h => h⟩
set_option maxRecDepth 100000 in
theorem curSleb_any (l : List UInt8) (g at_ bl k : Nat) (n : Int) (bv : Value) (w : World) (hc : CurAt w g bv at_ bl) (hv : Bs w bv l) (hl : l.length ≤ 1000000000) (hat : at_ ≤ 1000000000) (hk : k ≤ 100) (hr : readSlebR l at_ = (n, k, 0)) :
    Calls Try.prog 51 #[.pointer (some ⟨g, 0, none⟩)] w fun e w' => e = .returned (.int .i64 (n : Int)) ∧ CurAt w' g bv (at_ + k) bl ∧ Stirs (fun k => k = g) w w' := by
  have HC := Lib.hid hc
  have HU := Lib.hid (fun n => octReadSleb_any l at_ bv (w.drewN n) hl (hv.mono (below_drewN (Below.refl _ _) n)))
  rw [hr] at HU
  obtain ⟨c0, c1, c2⟩ := hc.cells
  obtain ⟨m, ad, cap, -, rfl, _, _⟩ := hv.shape
  have HU2 := Lib.hid (fun n => (HU.out n).mono fun e w' ⟨h1, h2⟩ => (⟨h1, h2.symm⟩ : e = _ ∧ w' = w.drewN n))
  clear hc hv hr HU
  go_enter Try.func51, Try.ntmps51
  go_wp2
  go_quiet ((go_at_call 56; exact Calls.quiet_of_same (HU2.out _)))
  go_wp2_with (first
    | (go_at_call 29; go_must (refine (must_any _ _).mono ?_; rintro e w1 ⟨rfl, rfl⟩))
    | ((with_reducible show wpList _ _ _ (⟨none, .store _ _ _, _, _, _, _⟩ :: _) _ _); go_must (refine wpList_setI HC.out (show 1 < 3 by decide) rfl rfl (fun w => by kernel_rfl) ?_; intro w2 hh2 hs2; have HH2 := Lib.hid hh2; have HS2 := Lib.hid hs2; clear hh2 hs2)))
  go_ret
  exact ⟨rfl, by have := HH2.out; simpa [CurAt] using this, (Stirs.of_below (below_drewN (Below.refl _ _) _)).trans HS2.out fun _ _ h => h⟩
theorem readLeb_k {l : List UInt8} {a n k : Nat} (h : readLebR l (a : Int) = (n, k, 0)) : k ≤ 100 := by
  unfold readLebR at h
  split at h
  · next h1 =>
    simp only [Prod.mk.injEq] at h
    omega
  · next h1 =>
    split at h
    · simp only [Prod.mk.injEq] at h
      omega
    · simp only [Prod.mk.injEq] at h
      have := (sevenR_len l a)
      have h2 : (sevenR l ↑a).2 = 0 := Decidable.byContradiction h1
      have := this h2
      omega
theorem texts_step {l : List UInt8} {n a e : Nat} (h : TextsAt l (n + 1) a e) : ∃ s, textR l a = (s, 0) ∧ TextsAt l n (a + s.length + 1) e := by
  cases h with
  | step h r => exact ⟨_, h, r⟩
theorem texts_done {l : List UInt8} {a e : Nat} (h : TextsAt l 0 a e) : a = e := by cases h; rfl
theorem text_le {l s : List UInt8} {a : Nat} (h : textR l a = (s, 0)) : a + s.length + 1 ≤ l.length := by
  unfold textR at h
  split at h
  · simp at h
  · rw [Int.toNat_natCast] at h
    split at h
    · simp at h
    · next g hg =>
      simp only [Prod.mk.injEq, and_true] at h
      subst h
      have := (upto0_prefix _ _ hg).2
      rw [List.length_drop] at this
      omega
set_option maxHeartbeats 4000000 in
set_option maxRecDepth 100000 in
theorem curTab_any (l : List UInt8) (g at_ bl e : Nat) (bv : Value) (w : World) (hc : CurAt w g bv at_ bl) (hv : Bs w bv l) (hl : l.length ≤ 1000000000) (hat : at_ ≤ 1000000) (hvs : ∀ wx, Stirs (fun k => k = g) w wx → Bs wx bv l) (ht : TabAt l at_ e) :
    Calls Try.prog 41 #[.pointer (some ⟨g, 0, none⟩)] w fun r w' => r = .returned (.tuple #[]) ∧ CurAt w' g bv e bl ∧ Stirs (fun k => k = g) w w' := by
  have HC := Lib.hid hc
  obtain ⟨m, ad, cap, -, rfl, _, _⟩ := hv.shape
  have HT := Lib.hid ht
  have HVS := Lib.hid hvs
  clear hc hv hvs ht
  go_enter Try.func41, Try.ntmps41
  go_wp2
  go_loopw [6] (fun iw wr => ∃ i : Nat, iw = .int .i64 (i : Int) ∧ i ≤ 3 ∧ Hid (CurAt wr g (.slice ad m cap) (at_ + i) bl) ∧ Hid (Stirs (fun k => k = g) w wr)) (fun iw _ => 3 - (intOf iw).toNat)
  case atStart => exact ⟨0, rfl, by decide, HC.out, Stirs.refl _ _⟩
  case round =>
    obtain ⟨i, rfl, hi, HCR, HST⟩ := hrel
    by_cases hlt : i < 3
    · have HVR := Lib.hid (fun (wx : World) (hb : Stirs (fun k => k = g) wr wx) => (show Bs wx (.slice ad m cap) l from HVS.out wx (HST.out.trans hb fun _ _ h => h)))
      have HB := Lib.hid (show okB l (at_ + i) 1 = true ∧ gN l (at_ + i) 1 = ([1, 1, 8] : List Nat)[i]?.getD 0 by
        rcases (by omega : i = 0 ∨ i = 1 ∨ i = 2) with rfl | rfl | rfl
        · exact HT.out.b0
        · exact HT.out.b1
        · exact HT.out.b2)
      have HU := Lib.hid (fun (wx : World) (hb : Stirs (fun k => k = g) wr wx) (h : CurAt wx g (.slice ad m cap) (at_ + i) bl) => curU1 h (HVR.out wx hb) hl (by omega) HB.out)
      clear HB
      rcases (by omega : i = 0 ∨ i = 1 ∨ i = 2) with rfl | rfl | rfl
      all_goals
        simp only [List.getElem?_cons_zero, List.getElem?_cons_succ, Option.getD_some] at HU
        go_wp2
        go_region_with (first | (go_at_call 28; go_loud (refine (HU.out _ (Stirs.of_below (Below.drew (Below.refl _ _))) HCR.out).mono ?_; rintro e w1 ⟨rfl, hc1, hs1⟩)) | (go_at_call 29; refine (must_any _ _).mono ?_; rintro e w2 ⟨rfl, rfl⟩))
        all_goals
          go_wp2
          go_roundw
          have HSN := Lib.hid (HST.out.trans ((Stirs.of_below (S := fun k => k = g) (Below.drew (Below.refl _ _))).trans hs1 fun _ _ h => h) fun _ _ h => h)
          case rel => first | exact ⟨1, rfl, by decide, hc1, HSN.out⟩ | exact ⟨2, rfl, by decide, hc1, HSN.out⟩ | exact ⟨3, rfl, by decide, hc1, HSN.out⟩
          case measure => simp [intOf] <;> omega
    · obtain rfl : i = 3 := by omega
      obtain ⟨n, k, hr0, hn, hts⟩ := HT.out.rest
      have hr : readLebR l ((at_ + 3 : Nat) : Int) = (n, k, 0) := by rw [Int.natCast_add]; exact hr0
      clear hr0
      have hk9 := readLeb_k hr
      have hd1 : decide ((n : Int) ≤ 100) = true := by simp; omega
      have HVR := Lib.hid (fun (wx : World) (hb : Stirs (fun k => k = g) wr wx) => (show Bs wx (.slice ad m cap) l from HVS.out wx (HST.out.trans hb fun _ _ h => h)))
      have HLE := Lib.hid (curLeb_any l g (at_ + 3) bl k n _ wr HCR.out (HVR.out wr (Stirs.refl _ _)) hl (by omega) hk9 hr)
      have HTS := Lib.hid hts
      clear hr hts
      go_wp2_with (first
        | (go_at_call 48; go_must (refine HLE.out.mono ?_; rintro r w2 ⟨rfl, hc2, hs2⟩; have HC2 := Lib.hid hc2; have HS2 := Lib.hid (HST.out.trans hs2 fun _ _ h => h); clear hc2 hs2))
        | (go_at_call 29; go_must (refine (must_any _ _).mono ?_; rintro r w3 ⟨rfl, rfl⟩)))
      clear HST HCR HVR HLE hi hlt
      go_loopw [25] (fun iw wq => ∃ (j a : Nat), iw = .int .u64 (j : Int) ∧ j ≤ n ∧ Hid (CurAt wq g (.slice ad m cap) a bl) ∧ Hid (TextsAt l (n - j) a e) ∧ Hid (Stirs (fun k => k = g) w wq)) (fun iw _ => n - (intOf iw).toNat)
      case atStart => exact ⟨0, at_ + 3 + k, rfl, Nat.zero_le _, HC2.out, HTS.out, HS2.out⟩
      case round =>
        obtain ⟨j, a, rfl, hj, HCR, HTR, HST⟩ := hrel
        by_cases hlt : j < n
        · obtain ⟨s, h1, h2⟩ := texts_step (show TextsAt l (n - (j + 1) + 1) a e by have := HTR.out; rwa [show n - j = n - (j + 1) + 1 by omega] at this)
          have hle := text_le h1
          have HVR := Lib.hid (fun (wx : World) (hb : Stirs (fun k => k = g) wr wx) => (show Bs wx (.slice ad m cap) l from HVS.out wx (HST.out.trans hb fun _ _ h => h)))
          have HX := Lib.hid (fun n => octText_any l a (.slice ad m cap) (wr.drewN n) hl (HVR.out _ (Stirs.of_below (below_drewN (Below.refl _ _) n))))
          rw [h1] at HX
          have HX2 := Lib.hid (fun n => (HX.out n).mono fun e w' ⟨h1, h2⟩ => (⟨h1, h2.symm⟩ : e = _ ∧ w' = wr.drewN n))
          obtain ⟨c0, c1, c2⟩ := HCR.out.cells
          have H2 := Lib.hid h2
          clear HX h1 h2
          go_wp2
          go_quiet ((go_at_call 49; exact Calls.quiet_of_same (HX2.out _)))
          go_wp2_with (first
            | (go_at_call 29; go_must (refine (must_any _ _).mono ?_; rintro e w1 ⟨rfl, rfl⟩))
            | ((with_reducible show wpList _ _ _ (⟨none, .store _ _ _, _, _, _, _⟩ :: _) _ _); go_must (refine wpList_setI HCR.out (show 1 < 3 by decide) rfl rfl (fun w => by kernel_rfl) ?_; intro w2 hh2 hs2; have HH2 := Lib.hid hh2; have HS2 := Lib.hid hs2; clear hh2 hs2)))
          have HCN := Lib.hid (show CurAt w2 g (.slice ad m cap) (a + s.length + 1) bl by
            have := HH2.out
            simp at this
            unfold CurAt
            rw [this]
            simp
            omega)
          have HSN := Lib.hid (HST.out.trans ((Stirs.of_below (S := fun k => k = g) (below_drewN (Below.refl _ _) nq)).trans HS2.out fun _ _ h => h) fun _ _ h => h)
          go_roundw
          case rel => exact ⟨j + 1, a + s.length + 1, by go_num, by omega, HCN.out, H2.out, HSN.out⟩
          case measure => simp [intOf] <;> omega
        · obtain rfl : j = n := by omega
          have hte := texts_done (show TextsAt l 0 a e by have := HTR.out; rwa [Nat.sub_self] at this)
          subst hte
          go_wp2
          go_end0
          exact ⟨rfl, HCR.out, HST.out⟩
end Go.Proofs.Ytmpmkjlkhlagfaa
namespace Go.Proofs.Ytmpmkjlkhlagfaa
open Go.RowKit Go.Fd
theorem gN1 (l : List UInt8) (a : Nat) : gN l a 1 < 256 := gN_lt l a 1
def encHead (h : HeadM) (lv : Value) : List Value := [.int .u64 (h.step : Int), .int .i64 h.base, .int .u64 (h.span : Int), .int .i64 (h.ops : Int), lv]
theorem CurAt.stirs {w w' : World} {g at_ bl : Nat} {bv : Value} {S : Nat → Prop} (h : CurAt w g bv at_ bl) (hs : Stirs S w w') (hn : ¬ S g) : CurAt w' g bv at_ bl := hs.kept h hn
theorem CurAt.mono {w w' : World} {g at_ bl : Nat} {bv : Value} (h : CurAt w g bv at_ bl) (hb : Below w.heap.size w w') : CurAt w' g bv at_ bl := heap_below hb h
theorem head5 {h : HeadM} {v : Value} {w : World} {g : Nat} {fr : Nat × Nat} {t : TypeId} (hh : w.heap[g]? = some (.cells (encHead h v).toArray t fr)) : w.cell? ⟨g, 0, none⟩ = some (.int .u64 (h.step : Int)) ∧ w.cell? ⟨g, 1, none⟩ = some (.int .i64 h.base) ∧ w.cell? ⟨g, 2, none⟩ = some (.int .u64 (h.span : Int)) ∧ w.cell? ⟨g, 3, none⟩ = some (.int .i64 (h.ops : Int)) ∧ w.cell? ⟨g, 4, none⟩ = some v :=
  ⟨cell_rec hh 0, cell_rec hh 1, cell_rec hh 2, cell_rec hh 3, cell_rec hh 4⟩
theorem okB_le {l : List UInt8} {a : Nat} (h : okB l a 1 = true) : a + 1 ≤ l.length := by
  rw [show okB l a 1 = _ from okB_iff sz1] at h
  exact of_decide_eq_true h
theorem lit_cells (w : World) (c : UInt8) (o : Obj) (ho : o = .cells #[.int .u8 (c.toNat : Int)] 5) : ∀ j u, ([c].map B)[j]? = some u → (w.alloc o).cell? ((⟨w.heap.size, 0, none⟩ : Addr).add j) = some u := by
  subst ho
  intro j u hj
  obtain rfl : j = 0 := by
    have := (List.getElem?_eq_some_iff.1 hj).1
    simp at this
    exact this
  exact (cell_rec (heap_alloc_last w _) 0).trans hj
theorem lens_take {L : List UInt8} {i : Nat} (h : i < L.length) : L.take (i + 1) = L.take i ++ [L[i]?.getD 0] := take_snoc' L i _ (by rw [List.getElem?_eq_getElem h]; rfl)
attribute [local irreducible] gN okB readLebR textR
set_option maxHeartbeats 4000000 in
set_option maxRecDepth 100000 in
theorem header_any (l : List UInt8) (g a bl p : Nat) (h : HeadM) (bv : Value) (w : World) (hc : CurAt w g bv a bl) (hvs : ∀ wx, Stirs (fun k => k = g) w wx → Bs wx bv l) (hl : l.length ≤ 1000000) (hp : p ≤ l.length) (hd : HeadAt l a h p) :
    Calls Try.prog 30 #[.pointer (some ⟨g, 0, none⟩)] w fun r w' => ∃ lv, r = .returned (.agg (encHead h lv).toArray) ∧ OB w' w.heap.size lv h.lens ∧ CurAt w' g bv p bl ∧ Stirs (fun k => k = g) w w' := by
  have HC := Lib.hid hc
  have HVS := Lib.hid hvs
  have HS := Lib.hid (Stirs.refl (fun k => k = g) w)
  have hgw : g < w.heap.size := (Array.getElem?_eq_some_iff.1 hc).1
  have hsz : w.heap.size ≤ w.heap.size := Nat.le_refl _
  obtain ⟨m, ad, cap, hm, rfl, _, _⟩ := (hvs w (Stirs.refl _ _)).shape
  have HM := Lib.hid hm.out
  have hm9 : m ≤ 1000000 := by have := hm.out; omega
  have H0 := Lib.hid hd.v
  have H2 := Lib.hid hd.w8
  have H3 := Lib.hid hd.z
  obtain ⟨z, hz⟩ : ∃ z, gN l (a + 4) 4 = z := ⟨_, rfl⟩
  have H4 := Lib.hid (And.intro hd.size.1 hz)
  have H8 := Lib.hid hd.step
  have H9 := Lib.hid hd.i1
  have H10 := Lib.hid hd.i2
  obtain ⟨y, hy⟩ : ∃ y, gN l (a + 11) 1 = y := ⟨_, rfl⟩
  have H11 := Lib.hid (And.intro hd.base.1 hy)
  have H12 := Lib.hid hd.span
  have H13 := Lib.hid hd.ops
  have HLN := Lib.hid hd.lens
  have HL := Lib.hid hd.len
  have HT := Lib.hid hd.tabs
  have hl9 : l.length ≤ 1000000000 := by omega
  have hpa : a + 8 ≤ p := by have := hd.size.2; omega
  have hgs := gN4 l (a + 4)
  rw [hz] at hgs
  have h4e : a + 8 + z = p := by rw [← hz]; exact hd.size.2
  have hd1 : decide ((z : Int) ≤ (m : Int) - ((a : Int) + 8)) = true := by have := HM.out; simp; omega
  have hb0 := gN1 l (a + 11)
  rw [hy] at hb0
  have HW8 := Lib.hid (show IntKind.i8.wrap (y : Int) = h.base by
    have := hd.base.2
    rw [hy] at this
    rw [← this]
    simp only [IntKind.wrap, IntKind.bits, IntKind.signed]
    simp
    split <;> omega)
  have hne : w.heap.size ≠ g := by omega
  have hsp : 0 < h.span := H12.out.2.2
  have hop : 0 < h.ops := H13.out.2.2
  have HWB := Lib.hid (show wrap64 h.base = h.base by
    have := hd.base.2
    rw [hy] at this
    rw [wrap64]
    split at this <;> omega)
  have hop9 : h.ops < 256 := by have := H13.out.2.1; have := gN1 l (a + 13); omega
  clear hc hvs hm hd hz hy
  go_enter Try.func30, Try.ntmps30
  go_wp2_with (first
    | ((with_reducible show wpList _ _ _ (⟨some 2, .alloc _, _, _, _, _⟩ :: _) _ _); go_must (refine wpList_val (v := .pointer (some ⟨w.heap.size, 0, none⟩)) (w' := w.alloc (.cells #[.int .u64 0, .int .i64 0, .int .u64 0, .int .i64 0, .slice none 0 0] 71)) rfl (by kernel_rfl) ?_; have hx1 := heap_alloc_last w (.cells #[.int .u64 0, .int .i64 0, .int .u64 0, .int .i64 0, .slice none 0 0] 71); have hb1 := below_alloc w (.cells #[.int .u64 0, .int .i64 0, .int .u64 0, .int .i64 0, .slice none 0 0] 71); have hs1 : w.heap.size < (w.alloc (.cells #[.int .u64 0, .int .i64 0, .int .u64 0, .int .i64 0, .slice none 0 0] 71)).heap.size := (by rw [World.size_alloc]; omega); generalize w.alloc (.cells #[.int .u64 0, .int .i64 0, .int .u64 0, .int .i64 0, .slice none 0 0] 71) = w0 at *; have HR := Lib.hid hx1; have HSn := Lib.hid (HS.out.thenBelow hb1); have HCn := Lib.hid (HC.out.mono hb1); clear HS HC hsz; have HS := HSn; have HC := HCn; have hsz := Nat.le_of_lt hs1; clear HSn HCn hx1 hb1 hs1))
    | (go_at_call 28; (first | refine (curU2 HC.out (HVS.out _ HS.out) hl9 (by omega) H0.out).mono ?_ | refine (curU1 HC.out (HVS.out _ HS.out) hl9 (by omega) H2.out).mono ?_ | refine (curU1 HC.out (HVS.out _ HS.out) hl9 (by omega) H3.out).mono ?_ | refine (curU4 HC.out (HVS.out _ HS.out) hl9 (by omega) H4.out).mono ?_); rintro r w1 ⟨rfl, hc1, hs1⟩; have HCn := Lib.hid hc1; have HSn := Lib.hid (HS.out.trans hs1 fun _ _ h => h); have HRn := Lib.hid (hs1.kept HR.out hne); have hszn := Nat.le_trans hsz hs1.size; clear HC HS HR hsz hc1; have HC := HCn; have HS := HSn; have HR := HRn; have hsz := hszn; clear HCn HSn HRn hszn)
    | ((with_reducible show Calls _ 29 #[_, .bool true] _ _); refine (must_any _ _).mono ?_; rintro r w2 ⟨rfl, rfl⟩))
  have HMM := Lib.hid (fun n => (must_any (.pointer (some ⟨g, 0, none⟩)) (w1.drewN n)).mono fun e w' ⟨h1, h2⟩ => (⟨h1, h2.symm⟩ : e = _ ∧ w' = w1.drewN n))
  obtain ⟨c0, c1, c2⟩ := HC.out.cells
  rw [show a + 2 + 1 + 1 + 4 = a + 8 by omega] at c1
  go_quiet ((go_at_call 29; exact Calls.quiet_of_same (HMM.out _)))
  rw [show a + 2 + 1 + 1 + 4 = a + 8 by omega] at HC
  have HBd := Lib.hid (below_drewN (Below.refl w1.heap.size w1) nq)
  generalize w1.drewN nq = wd at *
  have HCn := Lib.hid (HC.out.mono HBd.out)
  have HSn := Lib.hid (HS.out.thenBelow HBd.out)
  have HRn := Lib.hid (heap_below HBd.out HR.out)
  have hszn := Nat.le_trans hsz HBd.out.size
  clear HC HS HR hsz HBd HMM c0 c1 c2
  have HC := HCn; have HS := HSn; have HR := HRn; have hsz := hszn
  clear HCn HSn HRn hszn
  obtain ⟨c0, c1, c2⟩ := HC.out.cells
  go_wp2_with (first
    | (go_at_call 28; clear c0 c1 c2; refine (curU1 HC.out (HVS.out _ HS.out) hl9 (by omega) H8.out).mono ?_; rintro r w1 ⟨rfl, hc1, hs1⟩; have HCn := Lib.hid hc1; have HSn := Lib.hid (HS.out.trans hs1 fun _ _ h => h); have HRn := Lib.hid (hs1.kept HR.out hne); have hszn := Nat.le_trans hsz hs1.size; clear HC HS HR hsz hc1; have HC := HCn; have HS := HSn; have HR := HRn; have hsz := hszn; clear HCn HSn HRn hszn)
    | ((with_reducible show wpList _ _ _ (⟨none, .store 71 _ _, _, _, _, _⟩ :: _) _ _); go_must (obtain ⟨wh, rfl⟩ : ∃ wh : World, wh = w1 := ⟨_, rfl⟩; refine wpList_storeNew rfl rfl (by kernel_rfl) rfl (by simp [Value.oneCell']) ?_; intro w2 hh2 hb2; have HH := Lib.hid hh2; have hgh : wh.heap.size ≠ g := (by omega); have hgr : w.heap.size ≠ wh.heap.size := (by have := (Array.getElem?_eq_some_iff.1 HR.out).1; omega); have HCn := Lib.hid (HC.out.mono hb2); have HSn := Lib.hid (HS.out.thenBelow hb2); have HRn := Lib.hid (heap_below hb2 HR.out); have hszn := Nat.le_trans hsz hb2.size; have hgb := hsz; clear HC HS HR hsz hh2; have HC := HCn; have HS := HSn; have HR := HRn; have hsz := hszn; clear HCn HSn HRn hszn hb2))
    | (go_at_call 28; (first | refine (curU1 HC.out (HVS.out _ HS.out) hl9 (by omega) ⟨H9.out, rfl⟩).mono ?_ | refine (curU1 HC.out (HVS.out _ HS.out) hl9 (by omega) ⟨H10.out, rfl⟩).mono ?_ | refine (curU1 HC.out (HVS.out _ HS.out) hl9 (by omega) H11.out).mono ?_ | refine (curU1 HC.out (HVS.out _ HS.out) hl9 (by omega) ⟨H12.out.1, H12.out.2.1⟩).mono ?_ | refine (curU1 HC.out (HVS.out _ HS.out) hl9 (by omega) ⟨H13.out.1, H13.out.2.1⟩).mono ?_); rintro r w1 ⟨rfl, hc1, hs1⟩; have HCn := Lib.hid hc1; have HSn := Lib.hid (HS.out.trans hs1 fun _ _ h => h); have HRn := Lib.hid (hs1.kept HR.out hne); have HHn := Lib.hid (hs1.kept HH.out hgh); have hszn := Nat.le_trans hsz hs1.size; clear HC HS HR HH hsz hc1; have HC := HCn; have HS := HSn; have HR := HRn; have HH := HHn; have hsz := hszn; clear HCn HSn HRn HHn hszn)
    | ((with_reducible show wpList _ _ _ (⟨none, .store 2 _ _, _, _, _, _⟩ :: _) _ _); go_must (refine wpList_setI HH.out (show 1 < 5 by decide) rfl rfl (fun w => by kernel_rfl) ?_; intro w3 hh3 hs3; have HHn := Lib.hid hh3; have HCn := Lib.hid (HC.out.stirs hs3 (fun e => hgh e.symm)); have HSn := Lib.hid (HS.out.trans hs3 (fun j hj e => by omega)); have HRn := Lib.hid (hs3.kept HR.out hgr); have hszn := Nat.le_trans hsz hs3.size; clear HC HS HR HH hsz hh3; have HC := HCn; have HS := HSn; have HR := HRn; have HH := HHn; have hsz := hszn; clear HCn HSn HRn HHn hszn hs3))
    | ((with_reducible show wpList _ _ _ (⟨none, .store 36 _ _, _, _, _, _⟩ :: _) _ _); go_must (refine wpList_setI HH.out (show 2 < 5 by decide) rfl rfl (fun w => by kernel_rfl) ?_; intro w3 hh3 hs3; have HHn := Lib.hid hh3; have HCn := Lib.hid (HC.out.stirs hs3 (fun e => hgh e.symm)); have HSn := Lib.hid (HS.out.trans hs3 (fun j hj e => by omega)); have HRn := Lib.hid (hs3.kept HR.out hgr); have hszn := Nat.le_trans hsz hs3.size; clear HC HS HR HH hsz hh3; have HC := HCn; have HS := HSn; have HR := HRn; have HH := HHn; have hsz := hszn; clear HCn HSn HRn HHn hszn hs3))
    | ((with_reducible show wpList _ _ _ (⟨none, .store 3 _ _, _, _, _, _⟩ :: _) _ _); go_must (refine wpList_setI HH.out (show 3 < 5 by decide) rfl rfl (fun w => by kernel_rfl) ?_; intro w3 hh3 hs3; have HHn := Lib.hid hh3; have HCn := Lib.hid (HC.out.stirs hs3 (fun e => hgh e.symm)); have HSn := Lib.hid (HS.out.trans hs3 (fun j hj e => by omega)); have HRn := Lib.hid (hs3.kept HR.out hgr); have hszn := Nat.le_trans hsz hs3.size; clear HC HS HR HH hsz hh3; have HC := HCn; have HS := HSn; have HR := HRn; have HH := HHn; have hsz := hszn; clear HCn HSn HRn HHn hszn hs3; have HHn := Lib.hid (show w3.heap[wh.heap.size]? = some (.cells (encHead h (.slice none 0 0)).toArray 71 (0, 0)) by have := HH.out; simpa [encHead, HW8.out, HWB.out] using this); clear HH; have HH := HHn; clear HHn; obtain ⟨e0, e1, e2, e3, e4⟩ := head5 HH.out))
    | ((with_reducible show Calls _ 29 #[_, .bool true] _ _); refine (must_any _ _).mono ?_; rintro r w2 ⟨rfl, rfl⟩))
  clear e0 e1 e2 e3 e4
  have hpos : 1 ≤ h.ops := by have := H13.out.2.2; omega
  have HC0 := Lib.hid HC.out
  have HH0 := Lib.hid HH.out
  have HS0 := Lib.hid HS.out
  have HR0 := Lib.hid HR.out
  have hsz0 := hsz
  clear HC HH HS HR hsz
  go_loopw [76] (fun iw wr => ∃ (i : Nat) (v : Value), iw = .int .i64 (i : Int) ∧ i ≤ h.ops - 1 ∧ w.heap.size ≤ wr.heap.size ∧ Hid (CurAt wr g (.slice ad m cap) (a + 14 + i) bl) ∧ Hid (wr.heap[wh.heap.size]? = some (.cells (encHead h v).toArray 71 (0, 0))) ∧ Hid (OB wr w.heap.size v (h.lens.take i)) ∧ Hid (Stirs (fun k => k = g) w wr) ∧ Hid (wr.heap[w.heap.size]? = some (.cells #[.int .u64 0, .int .i64 0, .int .u64 0, .int .i64 0, .slice none 0 0] 71 (0, 0)))) (fun iw _ => h.ops - 1 - (intOf iw).toNat)
  case atStart => exact ⟨0, .slice none 0 0, rfl, Nat.zero_le _, hsz0, HC0.out, HH0.out, OB.nil _ _, HS0.out, HR0.out⟩
  case round =>
    obtain ⟨i, v, rfl, hi, hsz, HC, HH, HO, HS, HR⟩ := hrel
    obtain ⟨e0, e1, e2, e3, e4⟩ := head5 HH.out
    clear HC0 HH0 HS0 HR0 hsz0
    by_cases hlt : i < h.ops - 1
    · have HLI := Lib.hid (HL.out i hlt)
      have HTK := Lib.hid (lens_take (L := h.lens) (i := i) (by rw [HLN.out]; exact hlt))
      have hd2 : decide ((i : Int) < (h.ops : Int) - 1) = true := by simp; omega
      generalize h.lens[i]?.getD 0 = c at *
      obtain ⟨mv, va, vc, hmv, rfl, _, _⟩ := HO.out.shape
      have hle : a + 14 + i ≤ 1000000 := by have := HLI.out.1; have := okB_le this; omega
      have HCU := Lib.hid (show ∀ wx : World, CurAt wx g (.slice ad m cap) (a + 14 + i) bl → Stirs (fun k => k = g) w wx → Calls Try.prog 28 #[.pointer (some ⟨g, 0, none⟩), .int .i64 1] wx fun e w' => e = .returned (.int .u64 ((c.toNat : Nat) : Int)) ∧ CurAt w' g (.slice ad m cap) (a + 14 + i + 1) bl ∧ Stirs (fun k => k = g) wx w' from fun wx h1 h2 => curU1 h1 (HVS.out _ h2) hl9 (by omega) HLI.out)
      have HCD := Lib.hid (show CurAt wr.drew g (.slice ad m cap) (a + 14 + i) bl from HC.out)
      have HSD := Lib.hid (HS.out.thenBelow ((Below.refl wr.heap.size wr).drew))
      have hcl : (c.toNat : Int) < 256 := by have := c.toNat_lt; omega
      have HWC := Lib.hid (show IntKind.u8.wrap (c.toNat : Int) = (c.toNat : Int) by simp only [IntKind.wrap, IntKind.bits, IntKind.signed]; simp; omega)
      have HLT := Lib.hid (show (h.lens.take i).length ≤ 300 by rw [List.length_take]; omega)
      clear hmv
      go_wp2
      go_region_law (first
        | (refine step_catF rfl (.tmp 79) (.tmp 83) 26 5 TB rfl (m := [c]) (HOV.out _) rfl rfl rfl (HLC.out _ (by first | rfl | rw [HWC.out])) (by have := HLT.out; simp; omega) (Nat.le_trans HSZ.out (by rw [World.size_alloc]; omega)) ?_; intro v3 w3 hv3 hg3; obtain ⟨m3, ad3, cap3, hm3, rfl, _, _⟩ := (show OB w3 w.heap.size v3 (h.lens.take i ++ [c]) from hv3).shape; have hg33 := keeps_own (HOV.out _) hg3 _ _ _ _ (by decide) (HHA.out _); have c3 := cell_rec hg33 4; have z3 := free_rec' hg33 4; have HG33 := Lib.hid hg33; have HV3 := Lib.hid hv3; have HGR3 := Lib.hid hg3; have HC3 := Lib.hid (keeps_own (HOV.out _) hg3 _ _ _ _ (by decide) (HCA.out _)); have HR3 := Lib.hid (keeps_own (HOV.out _) hg3 _ _ _ _ (by decide) (HRA.out _)); simp only [encHead, List.getElem?_toArray, List.getElem?_cons_zero, List.getElem?_cons_succ] at c3; clear hg33 hv3 hg3)
        | (go_simp; go_at_call 28; refine (HCU.out _ HCD.out HSD.out).mono ?_; rintro r w1 ⟨rfl, hc1, hs1⟩; have hh1 := hs1.kept (show wr.drew.heap[wh.heap.size]? = _ from HH.out) hgh; have k4 := cell_rec hh1 4; simp only [encHead, List.getElem?_toArray, List.getElem?_cons_zero, List.getElem?_cons_succ] at k4; have k4a := fun (o : Obj) => cell_rec (heap_below (below_alloc w1 o) hh1) 4; simp only [encHead, List.getElem?_toArray, List.getElem?_cons_zero, List.getElem?_cons_succ] at k4a; have HO1 := Lib.hid (show OB w1 w.heap.size (.slice va mv vc) (h.lens.take i) from owns_stirs (show OB wr.drew w.heap.size (.slice va mv vc) (h.lens.take i) from HO.out) hs1 (ob_apart HO.out HC.out (by decide))); have HOV := Lib.hid (fun o => (show OB (w1.alloc o) w.heap.size (.slice va mv vc) (h.lens.take i) from HO1.out.mono (below_alloc w1 o))); have HHA := Lib.hid (fun o => heap_below (below_alloc w1 o) hh1); have HCA := Lib.hid (fun o => heap_below (below_alloc w1 o) hc1); have HRA := Lib.hid (fun o => heap_below (below_alloc w1 o) (hs1.kept (show wr.drew.heap[w.heap.size]? = _ from HR.out) hne)); have HLC := Lib.hid (fun (o : Obj) (ho : o = .cells #[.int .u8 (c.toNat : Int)] 5) => lit_cells w1 c o ho); have HSZ := Lib.hid (Nat.le_trans hsz hs1.size); have HS1 := Lib.hid (HSD.out.trans hs1 fun _ _ h => h); clear hh1 hc1))
      all_goals
        have hstc : Stirs (fun k => k = wh.heap.size) w3 (w3.setCell ⟨wh.heap.size, 4, none⟩ (.slice ad3 m3 cap3)) := stirs_setCell (S := fun k => k = wh.heap.size) _ wh.heap.size 4 _ rfl
        have HHN := Lib.hid (show (w3.setCell ⟨wh.heap.size, 4, none⟩ (.slice ad3 m3 cap3)).heap[wh.heap.size]? = some (.cells (encHead h (.slice ad3 m3 cap3)).toArray 71 (0, 0)) by
          have := HG33.out
          simp [World.setCell, Array.getElem?_modify, this, encHead])
        have HON := Lib.hid (show OB (w3.setCell ⟨wh.heap.size, 4, none⟩ (.slice ad3 m3 cap3)) w.heap.size (.slice ad3 m3 cap3) (h.lens.take (i + 1)) by
          rw [HTK.out]
          exact owns_stirs (show OB w3 w.heap.size (.slice ad3 m3 cap3) (h.lens.take i ++ [c]) from HV3.out) hstc (ob_apart (show OB w3 w.heap.size (.slice ad3 m3 cap3) (h.lens.take i ++ [c]) from HV3.out) HG33.out (by decide)))
        have HCN := Lib.hid (show CurAt (w3.setCell ⟨wh.heap.size, 4, none⟩ (.slice ad3 m3 cap3)) g (.slice ad m cap) (a + 14 + (i + 1)) bl from hstc.kept HC3.out (fun e => hgh e.symm))
        have HRN := Lib.hid (hstc.kept HR3.out hgr)
        have hb3 := HGR3.out.size
        have HSN := Lib.hid (show Stirs (fun k => k = g) w (w3.setCell ⟨wh.heap.size, 4, none⟩ (.slice ad3 m3 cap3)) from
          ((HS1.out.thenBelow (below_alloc w1 _)).trans (Stirs.of_belowB (S := fun k => w.heap.size ≤ k) (below_of_grown HGR3.out (Nat.le_trans HSZ.out (by rw [World.size_alloc]; omega)) fun k hk => (World.ownsRow.lt (HOV.out (.cells #[] 0)) k hk).1) (fun k hk => hk)) (fun j hj e => by exfalso; omega)).trans hstc (fun j hj e => by exfalso; omega))
        have hszN : w.heap.size ≤ (w3.setCell ⟨wh.heap.size, 4, none⟩ (.slice ad3 m3 cap3)).heap.size := HSN.out.size
        clear hstc c3 z3 k4 k4a hs1 hb3
        go_wp2
        go_roundw
        case rel => exact ⟨i + 1, _, by go_num, by omega, hszN, HCN.out, HHN.out, HON.out, HSN.out, HRN.out⟩
        case measure => simp [intOf] <;> omega
    · obtain rfl : i = h.ops - 1 := by omega
      have hd2 : decide (((h.ops - 1 : Nat) : Int) < (h.ops : Int) - 1) = false := by simp; omega
      rw [List.take_of_length_le (by rw [HLN.out]; exact Nat.le_refl _)] at HO
      obtain ⟨mv, va, vc, -, rfl, _, _⟩ := HO.out.shape
      obtain ⟨m2, ht1, ht2⟩ := HT.out
      have HT1 := Lib.hid ht1
      have HT2 := Lib.hid ht2
      have hle : a + 14 + (h.ops - 1) ≤ 1000000 := by have := okB_le ht1.b0.1; omega
      have hle2 : m2 ≤ 1000000 := by have := okB_le ht2.b0.1; omega
      have hpz : (p : Int) = (a : Int) + 8 + (z : Int) := by omega
      clear ht1 ht2
      go_wp2_with (first
        | (go_at_call 41; refine (curTab_any l g _ bl _ _ _ HC.out (HVS.out _ HS.out) hl9 hle (fun wx hx => HVS.out wx (HS.out.trans hx fun _ _ h => h)) HT1.out).mono ?_; rintro r w5 ⟨rfl, hc5, hs5⟩; have HCn := Lib.hid hc5; have HSn := Lib.hid (HS.out.trans hs5 fun _ _ h => h); have HRn := Lib.hid (hs5.kept HR.out hne); have HHn := Lib.hid (hs5.kept HH.out hgh); have HOn := Lib.hid (show OB w5 w.heap.size _ h.lens from owns_stirs HO.out hs5 (ob_apart HO.out HC.out (by decide))); have hszn := Nat.le_trans hsz hs5.size; clear HC HS HR HH HO hsz hc5 hs5; have HC := HCn; have HS := HSn; have HR := HRn; have HH := HHn; have HO := HOn; have hsz := hszn; clear HCn HSn HRn HHn HOn hszn; clear HT1)
        | (go_at_call 41; refine (curTab_any l g _ bl _ _ _ HC.out (HVS.out _ HS.out) hl9 hle2 (fun wx hx => HVS.out wx (HS.out.trans hx fun _ _ h => h)) HT2.out).mono ?_; rintro r w5 ⟨rfl, hc5, hs5⟩; have HCn := Lib.hid hc5; have HSn := Lib.hid (HS.out.trans hs5 fun _ _ h => h); have HRn := Lib.hid (hs5.kept HR.out hne); have HHn := Lib.hid (hs5.kept HH.out hgh); have HOn := Lib.hid (show OB w5 w.heap.size _ h.lens from owns_stirs HO.out hs5 (ob_apart HO.out HC.out (by decide))); have hszn := Nat.le_trans hsz hs5.size; clear HC HS HR HH HO hsz hc5 hs5; have HC := HCn; have HS := HSn; have HR := HRn; have HH := HHn; have HO := HOn; have hsz := hszn; clear HCn HSn HRn HHn HOn hszn; obtain ⟨c0, c1, c2⟩ := HC.out.cells; rw [hpz] at c1; clear e0 e1 e2 e3 e4; obtain ⟨e0, e1, e2, e3, e4⟩ := head5 HH.out)
        | ((with_reducible show Calls _ 29 #[_, .bool true] _ _); refine (must_any _ _).mono ?_; rintro r w6 ⟨rfl, rfl⟩)
        | ((with_reducible show wpList _ _ _ (⟨none, .store 71 _ _, _, _, _, _⟩ :: _) _ _); go_must (refine wpList_storeRowS HR.out rfl rfl rfl (by kernel_rfl) (by simp [Value.oneCell']) ?_; intro w7 hh7 hs7; have HH7 := Lib.hid hh7; have HS7 := Lib.hid hs7; clear hh7 hs7)))
      refine bodyPost_ret (results_cell_row rfl _ _ w.heap.size _ _ _ _ rfl HH7.out rfl rfl (by kernel_rfl)) rfl ⟨_, rfl, owns_stirs HO.out HS7.out (ob_apart HO.out HR.out (by decide)), HC.out.stirs HS7.out (fun e => hne e.symm), HS.out.trans HS7.out (fun j hj e => by exfalso; omega)⟩
end Go.Proofs.Ytmpmkjlkhlagfaa
