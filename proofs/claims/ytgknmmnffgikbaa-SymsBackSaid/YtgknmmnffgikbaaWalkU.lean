/-
  The walk of a region that draws its order (XWalk), step by step.
-/
import Derived.Test.YtgknmmnffgikbaaWalk
import Derived.Maps.RangeWalk
import Derived.Deep.WholeRow
namespace Go.Fd
open Go.RowKit

/-- An operation that comes to a value, if it comes to anything. -/
def valB (o : Oper) : Bool :=
  match o.op with
  | .move _ | .assign _ | .pick _ _ _ | .alloc _ | .box _ _ | .build _ _ | .buildSlice _ _ _ | .load _ _ | .binOp _ _ _ _ _ | .unOp _ _ _ | .convert _ _ _ | .makeInterface _ _ | .makeFunc _ _ _ | .makeSlice _ _ _ | .makeMap _ _ | .slice _ _ _ _ _ | .fieldAddr _ _ _ | .field _ _ _ | .indexAddr _ _ _ | .index _ _ _ | .lookup _ _ _ _ | .extract _ _ | .typeAssert _ _ _ _ => true
  | .call c => (match c.callee with | .builtin .len => true | .builtin .cap => true | .builtin .min => true | .builtin .max => true | .builtin .append => true | .builtin .copy => true | _ => false)
  | _ => false

theorem run_v {P : Program} {s : Sem Value} {w w' : World} {n : Next} (h : (do pure (.value (← s)) : Sem Next).run P w = .ok n w') : ∃ v, n = .value v := by
  rw [Sem.run_bind] at h
  cases hs : s.run P w with
  | ok v w1 =>
    rw [hs, Result.andThen_ok] at h
    have : (pure (Next.value v) : Sem Next).run P w1 = .ok (.value v) w1 := rfl
    rw [this] at h
    cases h
    exact ⟨v, rfl⟩
  | halt x w1 =>
    rw [hs, Result.andThen_halt] at h
    cases h

theorem valB_spec {P : Program} {o : Oper} (h : valB o = true) {ρ : Operand → Value} {w w' : World} {n : Next} (hr : (execOp ρ o).run P w = .ok n w') : ∃ v, n = .value v := by
  obtain ⟨dst, op, type, pos, after, guard⟩ := o
  cases op <;> simp only [valB] at h <;> simp only [execOp] at hr
  case move x => exact run_v (s := pure (ρ x)) hr
  case assign x => exact run_v (s := pure (ρ x)) hr
  case call c =>
    obtain ⟨callee, args, ats⟩ := c
    cases callee with
    | value f => cases h
    | invoke r m => cases h
    | builtin b =>
      cases b <;> simp only at h <;> first | (cases h; done) | exact run_v hr
  case pick c x y =>
    rw [Sem.run_bind] at hr
    cases hs : (asBool (ρ c)).run P w with
    | ok v w1 =>
      rw [hs, Result.andThen_ok] at hr
      have : (pure (Next.value (if v = true then ρ x else ρ y)) : Sem Next).run P w1 = .ok (.value (if v = true then ρ x else ρ y)) w1 := rfl
      exact ⟨(if v = true then ρ x else ρ y), by
        rw [show (pure (Next.value (if v = true then ρ x else ρ y)) : Sem Next).run P w1 = .ok (.value (if v = true then ρ x else ρ y)) w1 from rfl] at hr
        cases hr; rfl⟩
    | halt x w1 =>
      rw [hs, Result.andThen_halt] at hr
      cases hr
  all_goals first | (cases h; done) | exact run_v hr

section
variable {P : Program} {L r : List Oper} {M : List (Nat × Yld)} {a : Act} {w0 : World} {E : Act → Prop} {i : Nat} {o : Oper}

theorem Above.cell (x : Above w0) (b k : Nat) (h : b < w0.heap.size) : x.w.cell? ⟨b, k, none⟩ = w0.cell? ⟨b, k, none⟩ := x.h.cell (p := ⟨b, k, none⟩) h

theorem walk_skip (hw : Region.wanted o (yielded L.toArray a.tmps) = false) (h : walk P L M w0 E (i + 1) r (a.put o.dst undef)) : walk P L M w0 E i (o :: r) a := by
  rw [walk, if_neg (by rw [hw]; exact Bool.false_ne_true)]
  exact h
theorem walk_val {v : Value} (hw : Region.wanted o (yielded L.toArray a.tmps) = true) (hM : madeAt M i = none) (h : ∀ w, Below w0.heap.size w0 w → Deps L M a o w → (execOp a.eval o).run P w = .ok (.value v) w) (hn : walk P L M w0 E (i + 1) r (a.put o.dst v)) : walk P L M w0 E i (o :: r) a := by
  rw [walk, if_pos hw, hM]
  exact ⟨v, h, hn⟩
theorem walk_made {S : Yld} (hw : Region.wanted o (yielded L.toArray a.tmps) = true) (hM : madeAt M i = some S) (h : ∀ w, Below w0.heap.size w0 w → Deps L M a o w → WpYld P o a S w) (hn : ∀ x, walk P L M w0 E (i + 1) r (a.put o.dst (S.shape x))) : walk P L M w0 E i (o :: r) a := by
  rw [walk, if_pos hw, hM]
  exact ⟨h, hn⟩
/-- An operation that is run by the walk's own rules. -/
theorem walk_quiet (hw : Region.wanted o (yielded L.toArray a.tmps) = true) (hM : madeAt M i = none) (hv : valB o = true) (h : ∀ K : Act → Prop, (∀ a, walk P L M w0 E (i + 1) r a → K a) → o.quiet P a (fun w => ∃ x : Above w0, w = x.w) K) : walk P L M w0 E i (o :: r) a := by
  obtain ⟨v, h1, h2⟩ := h (walk P L M w0 E (i + 1) r) (fun _ h => h)
  refine walk_val hw hM (fun w hb _ => ?_) h2
  have := h1 w ⟨⟨w, hb⟩, rfl⟩
  unfold Oper.quietAt at this
  generalize hr : (execOp a.eval o).run P w = res at this
  cases res with
  | halt x w' => exact this.elim
  | ok n w' =>
    obtain ⟨u, rfl⟩ := valB_spec hv hr
    obtain ⟨rfl, rfl⟩ := (this : w' = w ∧ u = v)
    rfl
theorem walk_nil (h : E a) : walk P L M w0 E i [] a := h

theorem WpYld.val {S : Yld} {v : Value} {w w' : World} (hr : (execOp a.eval o).run P w = .ok (.value v) w') (hR : S.R v w') (hb : Below w.heap.size w w') : WpYld P o a S w := by
  unfold WpYld Oper.wp Oper.upon
  rw [hr]
  exact ⟨v, rfl, hR, hb⟩
theorem WpYld.call {S : Yld} {f : FuncId} {args : Array Value} {w : World} (hr : (execOp a.eval o).run P w = .ok (.enter f args) w) (h : Calls P f args w fun e w' => ∃ v, e = .returned v ∧ S.R v w' ∧ Below w.heap.size w w') : WpYld P o a S w := by
  unfold WpYld Oper.wp Oper.upon
  rw [hr]
  refine h.mono fun e w' ⟨v, he, hv, hb⟩ => ?_
  subst he
  exact ⟨v, rfl, hv, hb⟩
end

theorem run_callL {P : Program} {a : Act} {w : World} {d : Option Tmp} {ty : TypeId} {pos : String} {aft : Array Edge} {g : Option (Nat × Bool)} {f : FuncId} {fn : Func} {xs : List Operand} {ts : Array TypeId} {vals : List Value} (hf : P.funcs[f]? = some fn) (hn : (fn.name == "runtime.NumGoroutine") = false) {c : Code} (hb : fn.body = some c) (hx : xs.map a.eval = vals) :
    (execOp a.eval ⟨d, .call { callee := .value (.func f), args := xs.toArray, argTypes := ts }, ty, pos, aft, g⟩).run P w = .ok (.enter f vals.toArray) w :=
  run_call hf hn hb (by rw [List.map_toArray, hx])
theorem WpYld.callIs {P : Program} {a : Act} {o : Oper} {f : FuncId} {args : Array Value} {c : Value} {w : World} (hr : (execOp a.eval o).run P w = .ok (.enter f args) w) (h : Calls P f args w fun e w' => e = .returned c ∧ w = w') : WpYld P o a (Yld.is c) w :=
  WpYld.call hr (h.mono fun _ _ ⟨he, hw⟩ => ⟨c, he, ⟨(), rfl, trivial⟩, hw ▸ Below.refl _ _⟩)
theorem WpYld.callIsB {P : Program} {a : Act} {o : Oper} {f : FuncId} {args : Array Value} {c : Value} {w : World} (hr : (execOp a.eval o).run P w = .ok (.enter f args) w) (h : Calls P f args w fun e w' => e = .returned c ∧ Below w.heap.size w w') : WpYld P o a (Yld.is c) w :=
  WpYld.call hr (h.mono fun _ _ ⟨he, hb⟩ => ⟨c, he, ⟨(), rfl, trivial⟩, hb⟩)

section
variable {P : Program} {L r : List Oper} {M : List (Nat × Yld)} {a : Act} {w0 : World} {E : Act → Prop} {i : Nat} {o : Oper}
theorem walk_is {c : Value} (hw : Region.wanted o (yielded L.toArray a.tmps) = true) (hM : madeAt M i = some (Yld.is c)) (h : ∀ w, Below w0.heap.size w0 w → Deps L M a o w → WpYld P o a (Yld.is c) w) (hn : walk P L M w0 E (i + 1) r (a.put o.dst c)) : walk P L M w0 E i (o :: r) a :=
  walk_made hw hM h fun _ => hn
theorem walk_any {rel : Value → World → Prop} {st} (hw : Region.wanted o (yielded L.toArray a.tmps) = true) (hM : madeAt M i = some (Yld.any rel st)) (h : ∀ w, Below w0.heap.size w0 w → Deps L M a o w → WpYld P o a (Yld.any rel st) w) (hn : ∀ v : Value, walk P L M w0 E (i + 1) r (a.put o.dst v)) : walk P L M w0 E i (o :: r) a :=
  walk_made hw hM h hn
end
/-- A block of memory, made in the region, of so many cells. -/
def Yld.new (B : Nat) (t : TypeId) (n : Nat) : Yld := ⟨Nat, 0, fun g => .pointer (some ⟨g, 0, none⟩), fun g w => B ≤ g ∧ ∃ cs : Array Value, w.heap[g]? = some (.cells cs t (0, 0)) ∧ cs.size = n,
  fun g w w' ⟨h1, cs, h2, h3⟩ hb => ⟨h1, cs, by rw [hb.block g (Array.getElem?_eq_some_iff.1 h2).1]; exact h2, h3⟩⟩
theorem walk_new {P : Program} {L r : List Oper} {M : List (Nat × Yld)} {a : Act} {w0 : World} {E : Act → Prop} {i : Nat} {o : Oper} {B n : Nat} {t : TypeId} (hw : Region.wanted o (yielded L.toArray a.tmps) = true) (hM : madeAt M i = some (Yld.new B t n)) (h : ∀ w, Below w0.heap.size w0 w → Deps L M a o w → WpYld P o a (Yld.new B t n) w) (hn : ∀ g : Nat, walk P L M w0 E (i + 1) r (a.put o.dst (.pointer (some ⟨g, 0, none⟩)))) : walk P L M w0 E i (o :: r) a :=
  walk_made hw hM h hn
theorem Yld.new_got {B n g : Nat} {t : TypeId} {w : World} (h : (Yld.new B t n).R (.pointer (some ⟨g, 0, none⟩)) w) : B ≤ g ∧ ∃ cs : Array Value, w.heap[g]? = some (.cells cs t (0, 0)) ∧ cs.size = n := by
  obtain ⟨x, e, hr⟩ := h
  have : g = x := by
    have e' : (Value.pointer (some ⟨g, 0, none⟩)) = .pointer (some ⟨x, 0, none⟩) := e
    injection e' with e'; injection e' with e'; injection e'
  subst this
  exact hr
theorem Yld.new_mk {w0 w : World} {t : TypeId} (cs : Array Value) (h : Below w0.heap.size w0 w) : (Yld.new w0.heap.size t cs.size).R (.pointer (some ⟨w.heap.size, 0, none⟩)) (w.alloc (.cells cs t)) ∧ Below w.heap.size w (w.alloc (.cells cs t)) :=
  ⟨⟨w.heap.size, rfl, h.size, cs, heap_alloc_last w _, rfl⟩, below_alloc w _⟩
theorem Yld.is_got {c v : Value} {w : World} (h : (Yld.is c).R v w) : v = c := by obtain ⟨_, e, _⟩ := h; exact e
theorem Yld.is_mk {c : Value} {w : World} : (Yld.is c).R c w := ⟨(), rfl, trivial⟩

section
variable {P : Program} {ops : Array Oper} {rest : List Oper} {Q : Exit → Act → World → Prop} {a : Act} {w : World}
/-- The store of a record into a block that was made. -/
theorem wpList_storeMade {d : Option Tmp} {ty t : TypeId} {pos : String} {aft : Array Edge} {p x : Operand} {c c' : Array Value} {g B : Nat} (hg : w.heap[g]? = some (.cells c t (0, 0))) (hp : a.eval p = .pointer (some ⟨g, 0, none⟩)) (hx : a.eval x = .agg c')
    (hi : (P.info? t).map (·.size) = some c'.size) (ho : c.size = c'.size) (h1 : c'.all (·.oneCell') = true) (hB : B ≤ g) (hBw : B ≤ w.heap.size)
    (h : ∀ w1, w1.heap[g]? = some (.cells c' t (0, 0)) → Below B w w1 → wpList P ops Q rest (a.put d undef) w1) :
    wpList P ops Q (⟨d, .store t p x, ty, pos, aft, none⟩ :: rest) a w := by
  unfold wpList
  rw [if_pos (by simp [Region.wanted])]
  exact .inl (wp_store_made hg hp hx hi ho h1 hB hBw h)
end
end Go.Fd
