/-
  Symbols and relocations as values: compared.
-/
import Derived.Test.YtgknmmnffgikbaaRec
import Derived.Test.YtgknmmnffgikbaaPers
import Derived.Test.YtgknmmnffgikbaaStrAll
namespace Go.Fd
structure SymM where
  name : List UInt8
  bind : Int
  typ : Int
  sec : Int
  value : Nat
  size : Nat
deriving DecidableEq
structure RelaM where
  off : Nat
  typ : Int
  sym : Int
  add : Int
deriving DecidableEq
abbrev encSym (s : SymM) : List Value := [.string ⟨s.name.toArray⟩, .int .i64 s.bind, .int .i64 s.typ, .int .i64 s.sec, .int .u64 (s.value : Int), .int .u64 (s.size : Int)]
abbrev encRela (r : RelaM) : List Value := [.int .u64 (r.off : Int), .int .i64 r.typ, .int .i64 r.sym, .int .i64 r.add]

section
variable {P : Program} {ops : Array Oper} {C : World → Prop}
theorem wpQuiet_run {Q : Act → Prop} {a : Act} {o : Oper} {rest : List Oper} {v : Value} (hg : o.guard = none) (hr : ∀ w, C w → (execOp a.eval o).run P w = .ok (.value v) w)
    (h : wpQuiet P ops C Q rest (a.put o.dst v)) : wpQuiet P ops C Q (o :: rest) a := by
  unfold wpQuiet
  rw [if_pos (by simp [Region.wanted, hg])]
  refine ⟨v, fun w hw => ?_, h⟩
  unfold Oper.quietAt
  rw [hr w hw]
  exact ⟨rfl, rfl⟩
end

/-- Fields of one cell each, compared: a result each. -/
def eqT (P : Program) (d : Nat) (xs ys : Array Value) (w : World) : List (String × TypeId × Nat) → List Bool → Prop
  | [], [] => True
  | (n, t, o) :: ts, r :: rs => n ≠ "_" ∧ (isAgg t).run P w = .ok false w ∧ (∃ a b, xs[o]? = some a ∧ ys[o]? = some b ∧ (Op.equalIn d t a b).run P w = .ok r w) ∧ eqT P d xs ys w ts rs
  | _, _ => False

theorem run_part1 {P : Program} {w : World} {t : TypeId} {xs : Array Value} {o : Nat} {a : Value} (h : (isAgg t).run P w = .ok false w) (ha : xs[o]? = some a) : (part t xs o).run P w = .ok a w := by
  unfold part
  rw [Sem.run_bind, h, Result.andThen_ok, if_neg (by decide), ha]
  rfl

theorem run_eqFields_flat {P : Program} {d : Nat} {xs ys : Array Value} {w : World} : ∀ (fs : List Field) (ts : List (String × TypeId × Nat)) (rs : List Bool), fs.map (fun f => (f.name, f.type, f.offset)) = ts → eqT P d xs ys w ts rs →
    (Op.eqFields d xs ys fs).run P w = .ok (rs.all id) w := by
  intro fs
  induction fs with
  | nil =>
    rintro ts rs rfl h
    cases rs with
    | nil => rfl
    | cons r rs => exact h.elim
  | cons f fs ih =>
    rintro ts rs rfl h
    cases rs with
    | nil => exact h.elim
    | cons r rs =>
      obtain ⟨hn, hg, ⟨a, b, ha, hb, hr⟩, h⟩ := h
      unfold Op.eqFields
      rw [if_pos hn]
      simp only [Sem.run_bind, run_part1 hg ha, run_part1 hg hb, hr, Result.andThen_ok, Sem.run_ite, List.all_cons, id]
      cases r with
      | false => simp
      | true =>
        simp only [Bool.not_true, Bool.false_eq_true, if_false, Bool.true_and]
        exact ih _ rs rfl h
end Go.Fd
namespace Go.Proofs.Ytgknmmnffgikbaa
open Go.RowKit Go.Fd

theorem sym_fields : Try.prog.underlying 55 = some (.struct (Try.prog.fieldsOf 55)) := by kernel_rfl

set_option maxRecDepth 100000 in
theorem neq_sym (x y : SymM) (p q : Operand) (w : World) : (do eqGuard .neq 55 p q (.agg (encSym x).toArray) (.agg (encSym y).toArray); binOp .neq 55 (.agg (encSym x).toArray) (.agg (encSym y).toArray) : Sem Value).run Try.prog w = .ok (.bool (!decide (x = y))) w := by
  have h1 : Try.prog.eqGuardType Try.prog.depth 55 = false := by kernel_rfl
  have h2 : Try.prog.stoodInHeld 55 = false := by kernel_rfl
  have h3 : (Try.prog.fieldsOf 55).toList.map (fun f => (f.name, f.type, f.offset)) = [("Name", 9, 0), ("Bind", 3, 1), ("Type", 3, 2), ("Sec", 3, 3), ("Value", 53, 4), ("Size", 53, 5)] := by kernel_rfl
  have h4 := sym_fields
  have a9 : ∀ w, (isAgg 9).run Try.prog w = .ok false w := fun w => by kernel_rfl
  have a3 : ∀ w, (isAgg 3).run Try.prog w = .ok false w := fun w => by kernel_rfl
  have a53 : ∀ w, (isAgg 53).run Try.prog w = .ok false w := fun w => by kernel_rfl
  have u9 : Try.prog.underlying 9 = some .string := by kernel_rfl
  have u3 : Try.prog.underlying 3 = some (.int .i64) := by kernel_rfl
  have u53 : Try.prog.underlying 53 = some (.int .u64) := by kernel_rfl
  have h5 := run_eqFields_flat (P := Try.prog) (d := 9999) (xs := (encSym x).toArray) (ys := (encSym y).toArray) (w := w) _ _ [((⟨x.name.toArray⟩ : ByteArray).toList == (⟨y.name.toArray⟩ : ByteArray).toList), x.bind == y.bind, x.typ == y.typ, x.sec == y.sec, (x.value : Int) == y.value, (x.size : Int) == y.size] h3
    ⟨by decide, a9 w, ⟨_, _, rfl, rfl, run_equalIn_string w 9998 _ _ _ u9⟩, by decide, a3 w, ⟨_, _, rfl, rfl, run_equalIn_int w 9998 _ _ _ _ _ u3⟩, by decide, a3 w, ⟨_, _, rfl, rfl, run_equalIn_int w 9998 _ _ _ _ _ u3⟩, by decide, a3 w, ⟨_, _, rfl, rfl, run_equalIn_int w 9998 _ _ _ _ _ u3⟩, by decide, a53 w, ⟨_, _, rfl, rfl, run_equalIn_int w 9998 _ _ _ _ _ u53⟩, by decide, a53 w, ⟨_, _, rfl, rfl, run_equalIn_int w 9998 _ _ _ _ _ u53⟩, trivial⟩
  rw [Sem.run_bind, run_eqGuard_agg _ _ _ _ _ _ _ h1, Result.andThen_ok, run_neq_struct, run_equalIn_agg _ 9999 _ _ _ h4 h2, h5, Result.andThen_ok]
  congr 3
  rw [Bool.eq_iff_iff, decide_eq_true_iff]
  cases x
  cases y
  simp [ByteArray.toList_eq]
  omega

set_option maxRecDepth 100000 in
theorem neq_rela (x y : RelaM) (p q : Operand) (w : World) : (do eqGuard .neq 84 p q (.agg (encRela x).toArray) (.agg (encRela y).toArray); binOp .neq 84 (.agg (encRela x).toArray) (.agg (encRela y).toArray) : Sem Value).run Try.prog w = .ok (.bool (!decide (x = y))) w := by
  have h1 : Try.prog.eqGuardType Try.prog.depth 84 = false := by kernel_rfl
  have h2 : Try.prog.stoodInHeld 84 = false := by kernel_rfl
  have h3 : (Try.prog.fieldsOf 84).toList.map (fun f => (f.name, f.type, f.offset)) = [("Off", 53, 0), ("Type", 3, 1), ("Sym", 3, 2), ("Add", 2, 3)] := by kernel_rfl
  have h4 : Try.prog.underlying 84 = some (.struct (Try.prog.fieldsOf 84)) := by kernel_rfl
  have a3 : ∀ w, (isAgg 3).run Try.prog w = .ok false w := fun w => by kernel_rfl
  have a2 : ∀ w, (isAgg 2).run Try.prog w = .ok false w := fun w => by kernel_rfl
  have a53 : ∀ w, (isAgg 53).run Try.prog w = .ok false w := fun w => by kernel_rfl
  have u3 : Try.prog.underlying 3 = some (.int .i64) := by kernel_rfl
  have u2 : Try.prog.underlying 2 = some (.int .i64) := by kernel_rfl
  have u53 : Try.prog.underlying 53 = some (.int .u64) := by kernel_rfl
  have h5 := run_eqFields_flat (P := Try.prog) (d := 9999) (xs := (encRela x).toArray) (ys := (encRela y).toArray) (w := w) _ _ [(x.off : Int) == y.off, x.typ == y.typ, x.sym == y.sym, x.add == y.add] h3
    ⟨by decide, a53 w, ⟨_, _, rfl, rfl, run_equalIn_int w 9998 _ _ _ _ _ u53⟩, by decide, a3 w, ⟨_, _, rfl, rfl, run_equalIn_int w 9998 _ _ _ _ _ u3⟩, by decide, a3 w, ⟨_, _, rfl, rfl, run_equalIn_int w 9998 _ _ _ _ _ u3⟩, by decide, a2 w, ⟨_, _, rfl, rfl, run_equalIn_int w 9998 _ _ _ _ _ u2⟩, trivial⟩
  rw [Sem.run_bind, run_eqGuard_agg _ _ _ _ _ _ _ h1, Result.andThen_ok, run_neq_struct, run_equalIn_agg _ 9999 _ _ _ h4 h2, h5, Result.andThen_ok]
  congr 3
  rw [Bool.eq_iff_iff, decide_eq_true_iff]
  cases x
  cases y
  simp
  omega
end Go.Proofs.Ytgknmmnffgikbaa
