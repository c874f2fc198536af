/-
  Part 2 of 7: laws and walks for objectBackUpto_holds; no condition of its own.
-/
import Derived.Test.YtimnbnomaajmmaaOz1
import Derived.Maps.RangeWalk
import Derived.Deep.WholeRow
import Derived.Laws.Bits64b
import Derived.Deep.RegionLaw
namespace Go.Fd
open Go.RowKit
/-- An operation that comes to a value, if it comes to anything. -/
def valB (o : Oper) : Bool :=
  match o.op with
  | .move _ | .assign _ | .pick _ _ _ | .alloc _ | .box _ _ | .build _ _ | .buildSlice _ _ _ | .load _ _ | .binOp _ _ _ _ _ | .unOp _ _ _ | .convert _ _ _ | .makeInterface _ _ | .makeFunc _ _ _ | .makeSlice _ _ _ | .makeMap _ _ | .slice _ _ _ _ _ | .fieldAddr _ _ _ | .field _ _ _ | .indexAddr _ _ _ | .index _ _ _ | .lookup _ _ _ _ | .extract _ _ | .typeAssert _ _ _ _ => true
  | .call c => (match c.callee with | .builtin .len => true | .builtin .cap => true | .builtin .min => true | .builtin .max => true | .builtin .append => true | .builtin .copy => true | _ => false)
  | _ => false
theorem run_v {P : Program} {s : Sem Value} {w w' : World} {n : Next} (h : (do pure (.value (← s)) : Sem Next).run P w = .ok n w') : ∃ v, n = .value v := by
  rw [Sem.run_bind] at h
  cases hs : s.run P w with
  | ok v w1 =>
    rw [hs, Result.andThen_ok] at h
    have : (pure (Next.value v) : Sem Next).run P w1 = .ok (.value v) w1 := rfl
    rw [this] at h
    cases h
    exact ⟨v, rfl⟩
  | halt x w1 =>
    rw [hs, Result.andThen_halt] at h
    cases h
theorem valB_spec {P : Program} {o : Oper} (h : valB o = true) {ρ : Operand → Value} {w w' : World} {n : Next} (hr : (execOp ρ o).run P w = .ok n w') : ∃ v, n = .value v := by
  obtain ⟨dst, op, type, pos, after, guard⟩ := o
  cases op <;> simp only [valB] at h <;> simp only [execOp] at hr
  case move x => exact run_v (s := pure (ρ x)) hr
  case assign x => exact run_v (s := pure (ρ x)) hr
  case call c =>
    obtain ⟨callee, args, ats⟩ := c
    cases callee with
    | value f => cases h
    | invoke r m => cases h
    | builtin b =>
      cases b <;> simp only at h <;> first | (cases h; done) | exact run_v hr
  case pick c x y =>
    rw [Sem.run_bind] at hr
    cases hs : (asBool (ρ c)).run P w with
    | ok v w1 =>
      rw [hs, Result.andThen_ok] at hr
      have : (pure (Next.value (if v = true then ρ x else ρ y)) : Sem Next).run P w1 = .ok (.value (if v = true then ρ x else ρ y)) w1 := rfl
      exact ⟨(if v = true then ρ x else ρ y), by
        rw [show (pure (Next.value (if v = true then ρ x else ρ y)) : Sem Next).run P w1 = .ok (.value (if v = true then ρ x else ρ y)) w1 from rfl] at hr
        cases hr; rfl⟩
    | halt x w1 =>
      rw [hs, Result.andThen_halt] at hr
      cases hr
  all_goals first | (cases h; done) | exact run_v hr
section
variable {P : Program} {Up : Exit → Prop} {L r : List Oper} {M : List (Nat × Yld)} {a : Act} {w0 : World} {E : Act → Prop} {i : Nat} {o : Oper}
theorem Above.cell (x : Above w0) (b k : Nat) (h : b < w0.heap.size) : x.w.cell? ⟨b, k, none⟩ = w0.cell? ⟨b, k, none⟩ := x.h.cell (p := ⟨b, k, none⟩) h
theorem walk_skip (hw : Region.wanted o (yielded L.toArray a.tmps) = false) (h : walk P Up L M w0 E (i + 1) r (a.put o.dst undef)) : walk P Up L M w0 E i (o :: r) a := by
  rw [walk, if_neg (by rw [hw]; exact Bool.false_ne_true)]
  exact h
theorem walk_val {v : Value} (hw : Region.wanted o (yielded L.toArray a.tmps) = true) (hM : madeAt M i = none) (h : ∀ w, Below w0.heap.size w0 w → Deps L M a o w → (execOp a.eval o).run P w = .ok (.value v) w) (hn : walk P Up L M w0 E (i + 1) r (a.put o.dst v)) : walk P Up L M w0 E i (o :: r) a := by
  rw [walk, if_pos hw, hM]
  exact ⟨v, h, hn⟩
theorem walk_made {S : Yld} (hw : Region.wanted o (yielded L.toArray a.tmps) = true) (hM : madeAt M i = some S) (h : ∀ w, Below w0.heap.size w0 w → Deps L M a o w → WpYld P Up o a S w) (hn : ∀ x, walk P Up L M w0 E (i + 1) r (a.put o.dst (S.shape x))) : walk P Up L M w0 E i (o :: r) a := by
  rw [walk, if_pos hw, hM]
  exact ⟨h, hn⟩
/-- An operation that is run by the walk's own rules. -/
theorem walk_quiet (hw : Region.wanted o (yielded L.toArray a.tmps) = true) (hM : madeAt M i = none) (hv : valB o = true) (h : ∀ K : Act → Prop, (∀ a, walk P Up L M w0 E (i + 1) r a → K a) → o.quiet P a (fun w => ∃ x : Above w0, w = x.w) K) : walk P Up L M w0 E i (o :: r) a := by
  obtain ⟨v, h1, h2⟩ := h (walk P Up L M w0 E (i + 1) r) (fun _ h => h)
  refine walk_val hw hM (fun w hb _ => ?_) h2
  have := h1 w ⟨⟨w, hb⟩, rfl⟩
  unfold Oper.quietAt at this
  generalize hr : (execOp a.eval o).run P w = res at this
  cases res with
  | halt x w' => exact this.elim
  | ok n w' =>
    obtain ⟨u, rfl⟩ := valB_spec hv hr
    obtain ⟨rfl, rfl⟩ := (this : w' = w ∧ u = v)
    rfl
theorem walk_nil (h : E a) : walk P Up L M w0 E i [] a := h
theorem WpYld.val {S : Yld} {v : Value} {w w' : World} (hr : (execOp a.eval o).run P w = .ok (.value v) w') (hR : S.R v w') (hb : Below w.heap.size w w') : WpYld P Up o a S w := by
  unfold WpYld Oper.wp Oper.upon
  rw [hr]
  exact ⟨v, rfl, hR, hb⟩
theorem WpYld.call {S : Yld} {f : FuncId} {args : Array Value} {w : World} (hr : (execOp a.eval o).run P w = .ok (.enter f args) w) (h : Calls P f args w fun e w' => ∃ v, e = .returned v ∧ S.R v w' ∧ Below w.heap.size w w') : WpYld P Up o a S w := by
  unfold WpYld Oper.wp Oper.upon
  rw [hr]
  refine h.mono fun e w' ⟨v, he, hv, hb⟩ => ?_
  subst he
  exact ⟨v, rfl, hv, hb⟩
/-- A call that returns, or goes up. -/
theorem WpYld.callUp {S : Yld} {f : FuncId} {args : Array Value} {w : World} (hr : (execOp a.eval o).run P w = .ok (.enter f args) w) (h : Calls P f args w fun e w' => (∃ v, e = .returned v ∧ S.R v w' ∧ Below w.heap.size w w') ∨ (∃ c, e = .panicked c ∧ Up (.panic c) ∧ Below w.heap.size w w')) : WpYld P Up o a S w := by
  unfold WpYld Oper.wp Oper.upon
  rw [hr]
  refine h.mono fun e w' he => ?_
  rcases he with ⟨v, he, hv, hb⟩ | ⟨c, he, hv, hb⟩
  · subst he
    exact ⟨v, rfl, hv, hb⟩
  · subst he
    exact ⟨hv, rfl, hb⟩
end
theorem run_callL {P : Program} {a : Act} {w : World} {d : Option Tmp} {ty : TypeId} {pos : String} {aft : Array Edge} {g : Option (Nat × Bool)} {f : FuncId} {fn : Func} {xs : List Operand} {ts : Array TypeId} {vals : List Value} (hf : P.funcs[f]? = some fn) (hn : (fn.name == "runtime.NumGoroutine") = false) {c : Code} (hb : fn.body = some c) (hx : xs.map a.eval = vals) :
    (execOp a.eval ⟨d, .call { callee := .value (.func f), args := xs.toArray, argTypes := ts }, ty, pos, aft, g⟩).run P w = .ok (.enter f vals.toArray) w :=
  run_call hf hn hb (by rw [List.map_toArray, hx])
theorem WpYld.callIs {P : Program} {Up : Exit → Prop} {a : Act} {o : Oper} {f : FuncId} {args : Array Value} {c : Value} {w : World} (hr : (execOp a.eval o).run P w = .ok (.enter f args) w) (h : Calls P f args w fun e w' => e = .returned c ∧ w = w') : WpYld P Up o a (Yld.is c) w :=
  WpYld.call hr (h.mono fun _ _ ⟨he, hw⟩ => ⟨c, he, ⟨(), rfl, trivial⟩, hw ▸ Below.refl _ _⟩)
theorem WpYld.callIsB {P : Program} {Up : Exit → Prop} {a : Act} {o : Oper} {f : FuncId} {args : Array Value} {c : Value} {w : World} (hr : (execOp a.eval o).run P w = .ok (.enter f args) w) (h : Calls P f args w fun e w' => e = .returned c ∧ Below w.heap.size w w') : WpYld P Up o a (Yld.is c) w :=
  WpYld.call hr (h.mono fun _ _ ⟨he, hb⟩ => ⟨c, he, ⟨(), rfl, trivial⟩, hb⟩)
section
variable {P : Program} {Up : Exit → Prop} {L r : List Oper} {M : List (Nat × Yld)} {a : Act} {w0 : World} {E : Act → Prop} {i : Nat} {o : Oper}
theorem walk_is {c : Value} (hw : Region.wanted o (yielded L.toArray a.tmps) = true) (hM : madeAt M i = some (Yld.is c)) (h : ∀ w, Below w0.heap.size w0 w → Deps L M a o w → WpYld P Up o a (Yld.is c) w) (hn : walk P Up L M w0 E (i + 1) r (a.put o.dst c)) : walk P Up L M w0 E i (o :: r) a :=
  walk_made hw hM h fun _ => hn
theorem walk_any {rel : Value → World → Prop} {st} (hw : Region.wanted o (yielded L.toArray a.tmps) = true) (hM : madeAt M i = some (Yld.any rel st)) (h : ∀ w, Below w0.heap.size w0 w → Deps L M a o w → WpYld P Up o a (Yld.any rel st) w) (hn : ∀ v : Value, walk P Up L M w0 E (i + 1) r (a.put o.dst v)) : walk P Up L M w0 E i (o :: r) a :=
  walk_made hw hM h hn
end
/-- A block of memory, made in the region, of so many cells. -/
def Yld.new (B : Nat) (t : TypeId) (n : Nat) : Yld := ⟨Nat, 0, fun g => .pointer (some ⟨g, 0, none⟩), fun g w => B ≤ g ∧ ∃ cs : Array Value, w.heap[g]? = some (.cells cs t (0, 0)) ∧ cs.size = n,
  fun g w w' ⟨h1, cs, h2, h3⟩ hb => ⟨h1, cs, by rw [hb.block g (Array.getElem?_eq_some_iff.1 h2).1]; exact h2, h3⟩⟩
theorem walk_new {P : Program} {Up : Exit → Prop} {L r : List Oper} {M : List (Nat × Yld)} {a : Act} {w0 : World} {E : Act → Prop} {i : Nat} {o : Oper} {B n : Nat} {t : TypeId} (hw : Region.wanted o (yielded L.toArray a.tmps) = true) (hM : madeAt M i = some (Yld.new B t n)) (h : ∀ w, Below w0.heap.size w0 w → Deps L M a o w → WpYld P Up o a (Yld.new B t n) w) (hn : ∀ g : Nat, walk P Up L M w0 E (i + 1) r (a.put o.dst (.pointer (some ⟨g, 0, none⟩)))) : walk P Up L M w0 E i (o :: r) a :=
  walk_made hw hM h hn
theorem Yld.new_got {B n g : Nat} {t : TypeId} {w : World} (h : (Yld.new B t n).R (.pointer (some ⟨g, 0, none⟩)) w) : B ≤ g ∧ ∃ cs : Array Value, w.heap[g]? = some (.cells cs t (0, 0)) ∧ cs.size = n := by
  obtain ⟨x, e, hr⟩ := h
  have : g = x := by
    have e' : (Value.pointer (some ⟨g, 0, none⟩)) = .pointer (some ⟨x, 0, none⟩) := e
    injection e' with e'; injection e' with e'; injection e'
  subst this
  exact hr
theorem Yld.new_mk {w0 w : World} {t : TypeId} (cs : Array Value) (h : Below w0.heap.size w0 w) : (Yld.new w0.heap.size t cs.size).R (.pointer (some ⟨w.heap.size, 0, none⟩)) (w.alloc (.cells cs t)) ∧ Below w.heap.size w (w.alloc (.cells cs t)) :=
  ⟨⟨w.heap.size, rfl, h.size, cs, heap_alloc_last w _, rfl⟩, below_alloc w _⟩
theorem Yld.is_mk {c : Value} {w : World} : (Yld.is c).R c w := ⟨(), rfl, trivial⟩
section
variable {P : Program} {ops : Array Oper} {rest : List Oper} {Q : Exit → Act → World → Prop} {a : Act} {w : World}
/-- The store of a record into a block that was made. -/
theorem wpList_storeMade {d : Option Tmp} {ty t : TypeId} {pos : String} {aft : Array Edge} {p x : Operand} {c c' : Array Value} {g B : Nat} (hg : w.heap[g]? = some (.cells c t (0, 0))) (hp : a.eval p = .pointer (some ⟨g, 0, none⟩)) (hx : a.eval x = .agg c')
    (hi : (P.info? t).map (·.size) = some c'.size) (ho : c.size = c'.size) (h1 : c'.all (·.oneCell') = true) (hB : B ≤ g) (hBw : B ≤ w.heap.size)
    (h : ∀ w1, w1.heap[g]? = some (.cells c' t (0, 0)) → Below B w w1 → wpList P ops Q rest (a.put d undef) w1) :
    wpList P ops Q (⟨d, .store t p x, ty, pos, aft, none⟩ :: rest) a w := by
  unfold wpList
  rw [if_pos (by simp [Region.wanted])]
  exact .inl (wp_store_made hg hp hx hi ho h1 hB hBw h)
end
end Go.Fd
namespace Go.Proofs.Ytimnbnomaajmmaa
open Go.RowKit Go.Fd
set_option maxRecDepth 100000 in
theorem slice_cut {w : World} {v : Value} {l : List UInt8} (hv : Bs w v l) (a s : Nat) {z y : Int} (hz : z = (a : Int)) (hy : y = (a : Int) + s) (hin : a + s ≤ l.length) (_ : l.length ≤ 1000000000) :
    ∃ v', (∀ w', (Instr.sliceAt 29 v (some (.int .i64 z)) (some (.int .i64 y)) none).run Try.prog w' = .ok v' w') ∧ Bs w v' ((l.drop a).take s) := by
  subst hz hy
  obtain ⟨v', h1, h2⟩ := run_sliceB hv (i := (a : Int)) (j := (a : Int) + s) (k := .i64) (k' := .i64) (by omega) (by omega) (by omega)
  rw [show (a : Int) + s - a = (s : Int) by omega] at h2
  exact ⟨v', h1, by simpa using h2⟩
end Go.Proofs.Ytimnbnomaajmmaa
namespace Go.Fd
/-- Does no local symbol stand behind one that is not? -/
def ordB (l : List SymM) : Bool := (l.zip l.tail).all fun p => decide (p.2.bind ≠ 0) || decide (p.1.bind = 0)
/-- How many are local. -/
def locs (l : List SymM) : Nat := l.countP fun s => decide (s.bind = 0)
theorem ordB_get {l : List SymM} (h : ordB l = true) {i : Nat} {a b : SymM} (ha : l[i]? = some a) (hb : l[i + 1]? = some b) (h0 : b.bind = 0) : a.bind = 0 := by
  unfold ordB at h
  rw [List.all_eq_true] at h
  have hm : (a, b) ∈ l.zip l.tail := by
    rw [List.mem_iff_getElem?]
    refine ⟨i, ?_⟩
    rw [List.getElem?_zip_eq_some]
    exact ⟨ha, by simpa using hb⟩
  have := h _ hm
  simp only [Bool.or_eq_true, decide_eq_true_eq] at this
  rcases this with h1 | h1
  · exact absurd h0 h1
  · exact h1
theorem ordB_of {l : List SymM} (h : ∀ i a b, l[i]? = some a → l[i + 1]? = some b → b.bind = 0 → a.bind = 0) : ordB l = true := by
  unfold ordB
  rw [List.all_eq_true]
  rintro ⟨a, b⟩ hm
  obtain ⟨i, hi⟩ := List.mem_iff_getElem?.1 hm
  rw [List.getElem?_zip_eq_some] at hi
  obtain ⟨h1, h2⟩ := hi
  simp only [Bool.or_eq_true, decide_eq_true_eq]
  by_cases h0 : b.bind = 0
  · exact .inr (h i a b h1 (by simpa using h2) h0)
  · exact .inl h0
theorem ordB_take {l : List SymM} (h : ordB l = true) (k : Nat) : ordB (l.take k) = true := ordB_of fun i a b ha hb h0 => by
  rw [List.getElem?_take] at ha hb
  split at ha
  · split at hb
    · exact ordB_get h ha hb h0
    · cases hb
  · cases ha
theorem ordB_step {l : List SymM} {k : Nat} {x : SymM} (hk : l[k]? = some x) (h : ordB (l.take k) = true) (hx : x.bind ≠ 0 ∨ ∀ y, l[k - 1]? = some y → 0 < k → y.bind = 0) : ordB (l.take (k + 1)) = true := ordB_of fun i a b ha hb h0 => by
  rw [List.getElem?_take] at ha hb
  split at hb
  · by_cases hi : i + 1 < k
    · exact ordB_get (i := i) h (by rw [List.getElem?_take, if_pos (by omega)]; split at ha; exact ha; cases ha) (by rw [List.getElem?_take, if_pos hi]; exact hb) h0
    · obtain rfl : k = i + 1 := by omega
      rw [hk] at hb
      cases hb
      rcases hx with hx | hx
      · exact absurd h0 hx
      · rw [if_pos (by omega)] at ha
        exact hx a (by simpa using ha) (by omega)
  · cases hb
/-- All local ahead of a local one. -/
theorem ordB_locs {l : List SymM} {k : Nat} (h : ordB (l.take k) = true) (hk : k ≤ l.length) : locs (l.take k) = k ∨ ∃ y, l[k - 1]? = some y ∧ 0 < k ∧ y.bind ≠ 0 := by
  induction k with
  | zero => exact .inl rfl
  | succ k ih =>
    have hx : l[k]? = some l[k] := List.getElem?_eq_getElem (by omega)
    by_cases h0 : l[k].bind = 0
    · left
      have h' : ordB (l.take k) = true := by
        have := ordB_take h k
        rwa [List.take_take, Nat.min_eq_left (by omega)] at this
      rcases ih h' (by omega) with h1 | ⟨y, hy, hk0, hne⟩
      · rw [List.take_add_one, hx]
        unfold locs at h1 ⊢
        rw [List.countP_append, h1]
        simp [h0]
      · exfalso
        refine hne (ordB_get (i := k - 1) h (b := l[k]) ?_ ?_ h0)
        · rw [List.getElem?_take, if_pos (by omega)]; exact hy
        · rw [List.getElem?_take, if_pos (by omega), show k - 1 + 1 = k by omega]; exact hx
    · exact .inr ⟨_, hx, by omega, h0⟩
theorem locs_le (l : List SymM) (k : Nat) : locs (l.take k) ≤ k := by
  unfold locs
  exact Nat.le_trans List.countP_le_length (by rw [List.length_take]; omega)
theorem locs_step0 {l : List SymM} {k : Nat} {x : SymM} (hk : l[k]? = some x) (h : x.bind = 0) : locs (l.take (k + 1)) = locs (l.take k) + 1 := by
  rw [List.take_add_one, hk]; unfold locs; rw [List.countP_append]; simp [h]
theorem locs_step1 {l : List SymM} {k : Nat} {x : SymM} (hk : l[k]? = some x) (h : ¬ x.bind = 0) : locs (l.take (k + 1)) = locs (l.take k) := by
  rw [List.take_add_one, hk]; unfold locs; rw [List.countP_append]; simp [h]
/-- A local one behind one that is not. -/
theorem ordB_bad {l : List SymM} {k : Nat} {x : SymM} (hk : l[k]? = some x) (h : ordB (l.take k) = true) (h0 : x.bind = 0) (hl : locs (l.take k) ≠ k) : ordB l = false := by
  have hlt := (List.getElem?_eq_some_iff.1 hk).1
  rcases ordB_locs h (by omega) with h1 | ⟨y, hy, hk0, hne⟩
  · exact absurd h1 hl
  · rw [Bool.eq_false_iff]
    intro hb
    exact hne (ordB_get (i := k - 1) hb hy (by rw [show k - 1 + 1 = k by omega]; exact hk) h0)
theorem ordB_good {l : List SymM} {k : Nat} {x : SymM} (hk : l[k]? = some x) (h : ordB (l.take k) = true) (hl : x.bind ≠ 0 ∨ locs (l.take k) = k) : ordB (l.take (k + 1)) = true := by
  refine ordB_step hk h ?_
  rcases hl with hl | hl
  · exact .inl hl
  · refine .inr fun y hy hk0 => ?_
    have hlt := (List.getElem?_eq_some_iff.1 hk).1
    have hall : ∀ s ∈ l.take k, s.bind = 0 := by
      have : (l.take k).countP (fun s => decide (s.bind = 0)) = (l.take k).length := by rw [List.length_take, Nat.min_eq_left (by omega)]; exact hl
      rw [List.countP_eq_length] at this
      exact fun s hs => by simpa using this s hs
    exact hall y (List.mem_of_getElem? (i := k - 1) (by rw [List.getElem?_take, if_pos (by omega)]; exact hy))
end Go.Fd
namespace Go.Proofs.Ytimnbnomaajmmaa
open Go.RowKit Go.Fd
/-- What a symbol may not be. -/
def symBad (s : SymM) : Bool := !kindB s.bind s.typ || decide (s.sec < 0) || decide (65535 < s.sec)
theorem kindB_pos {b t : Int} (h : kindB b t = true) : 0 ≤ b ∧ b ≤ 2 ∧ 0 ≤ t ∧ t ≤ 6 := by unfold kindB at h; simp at h; omega
def infoB (s : SymM) : UInt8 := UInt8.ofNat (16 * s.bind + s.typ).toNat
def symB (p : SymM × Nat) : List UInt8 := fixed p.2 4 ++ [infoB p.1, 0] ++ fixed (u64of p.1.sec) 2 ++ fixed p.1.value 8 ++ fixed p.1.size 8
def symsB (l : List SymM) (at_ : List Nat) : List UInt8 := List.replicate 24 0 ++ (l.zip at_).flatMap symB
theorem symB_len (p : SymM × Nat) : (symB p).length = 24 := by simp [symB, length_fixed]
theorem bad_step {l : List SymM} {k : Nat} {x : SymM} (h : l[k]? = some x) (h0 : (l.take k).any symBad = false) (hb : symBad x = false) : (l.take (k + 1)).any symBad = false := by
  rw [List.take_add_one, h, List.any_append, h0]
  simp [hb]
theorem bad_yes {l : List SymM} {k : Nat} {x : SymM} (h : l[k]? = some x) (hb : symBad x = true) : l.any symBad = true := List.any_eq_true.2 ⟨x, List.mem_of_getElem? h, hb⟩
theorem bad_all {l : List SymM} {k : Nat} (h : l.length ≤ k) (h0 : (l.take k).any symBad = false) : l.any symBad = false := by rwa [List.take_of_length_le h] at h0
/-- What is written of symbols. -/
def symW (l : List SymM) : List UInt8 × List UInt8 × Nat × Int :=
  if l.any symBad = true then ([], [], 0, 1)
  else if ordB l = false then ([], [], 0, 24)
  else if (buildR (l.map (·.name))).2.2 = 0 then (symsB l (buildR (l.map (·.name))).2.1, (buildR (l.map (·.name))).1, locs l + 1, 0)
  else ([], [], 0, (buildR (l.map (·.name))).2.2)
theorem symW_bad {l : List SymM} (h : l.any symBad = true) : symW l = ([], [], 0, 1) := by unfold symW; rw [if_pos h]
theorem symW_ord {l : List SymM} (h : l.any symBad = false) (h2 : ordB l = false) : symW l = ([], [], 0, 24) := by unfold symW; rw [if_neg (by simp [h]), if_pos h2]
theorem symW_err {l : List SymM} (h : l.any symBad = false) (h2 : ordB l = true) (h3 : (buildR (l.map (·.name))).2.2 ≠ 0) : symW l = ([], [], 0, (buildR (l.map (·.name))).2.2) := by
  unfold symW; rw [if_neg (by simp [h]), if_neg (by simp [h2]), if_neg h3]
theorem symW_ok {l : List SymM} (h : l.any symBad = false) (h2 : ordB l = true) (h3 : (buildR (l.map (·.name))).2.2 = 0) : symW l = (symsB l (buildR (l.map (·.name))).2.1, (buildR (l.map (·.name))).1, locs l + 1, 0) := by
  unfold symW; rw [if_neg (by simp [h]), if_neg (by simp [h2]), if_pos h3]
theorem zip_step {α β : Type} {l : List α} {m : List β} {k : Nat} {x : α} {y : β} (hx : l[k]? = some x) (hy : m[k]? = some y) : (l.zip m).take (k + 1) = (l.zip m).take k ++ [(x, y)] := by
  rw [List.take_add_one]
  congr 1
  rw [show (l.zip m)[k]? = some (x, y) by rw [List.getElem?_zip_eq_some]; exact ⟨hx, hy⟩]
  rfl
end Go.Proofs.Ytimnbnomaajmmaa
namespace Go.Proofs.Ytimnbnomaajmmaa
open Go.RowKit Go.Fd
def ordR (l : List SymM) : Nat × Bool := if ordB l = true then (locs l, true) else (0, false)
theorem ordR_bad {l : List SymM} (h : ordB l = false) : ordR l = (0, false) := by unfold ordR; rw [if_neg (by simp [h])]
theorem ordR_ok {l : List SymM} (h : ordB l = true) : ordR l = (locs l, true) := by unfold ordR; rw [if_pos h]
set_option maxHeartbeats 1000000 in
set_option maxRecDepth 100000 in
theorem ordered_any (l : List SymM) (v : Value) (w : World) (hl : l.length ≤ 1000000) (hv : RdR 6 encSym w v l) :
    Calls Try.prog 38 #[v] w fun e w' => e = .returned (.tuple #[.int .i64 ((ordR l).1 : Nat), .bool (ordR l).2]) ∧ Below w.heap.size w w' := by
  obtain ⟨a, ca, rfl, hca, -, hc⟩ := hv.open (fun _ => rfl)
  have HC := Lib.hid hc
  obtain ⟨nl, hnl⟩ : ∃ n, n = l.length := ⟨_, rfl⟩
  rw [← hnl] at hl hca ⊢
  have HL := Lib.hid hnl
  clear hc hv hnl
  go_enter Try.func38, Try.ntmps38
  go_wp2
  go_loopw [4, 9] (fun c i wr => ∃ k n : Nat, i = .int .i64 k ∧ c = .int .i64 n ∧ k ≤ nl ∧ n ≤ k ∧ Hid (n = locs (l.take k)) ∧ Hid (ordB (l.take k) = true) ∧ Hid (Below w.heap.size w wr)) (fun _ i _ => nl - (intOf i).toNat)
  case atStart => exact ⟨0, 0, rfl, rfl, Nat.zero_le _, Nat.le_refl _, rfl, by simp [Hid, ordB], Below.refl _ _⟩
  case round =>
    obtain ⟨k, n, rfl, rfl, hk, hnk, HN, HT, HB⟩ := hrel
    by_cases hlt : k < nl
    · have X1 := Lib.hid (show l[k]? = some (l[k]'(by have := HL.out; omega)) from List.getElem?_eq_getElem _)
      generalize l[k]'(by have := HL.out; omega) = x at *
      obtain ⟨b1, o1, ha, hc1⟩ := HC.out k x X1.out (by decide)
      subst ha
      have hd1 : ∀ c v, (encSym x)[c]? = some v → wr.cell? ⟨b1, o1 + k * 6 + c, none⟩ = some v := fun c v h => by
        have h6 : c < 6 := (List.getElem?_eq_some_iff.1 h).1
        have := (hc1 c h6).trans h
        rw [← Nat.add_assoc] at this
        exact (HB.out.cell (block_lt this)).trans this
      have c10 := hd1 0 _ rfl
      have c11 := hd1 1 _ rfl
      have c12 := hd1 2 _ rfl
      have c13 := hd1 3 _ rfl
      have c14 := hd1 4 _ rfl
      have c15 := hd1 5 _ rfl
      rw [Nat.add_zero] at c10
      clear hc1 hd1
      by_cases h0 : x.bind = 0
      · by_cases hn : n = k
        · have G1 := Lib.hid (locs_step0 X1.out h0)
          have G2 := Lib.hid (ordB_good X1.out HT.out (.inr (by rw [← HN.out]; exact hn)))
          have G3 : Hid (k + 1 = locs (l.take (k + 1))) := by rw [G1.out, ← HN.out, hn]; rfl
          have hz : (x.bind == 0) = true := by simp [h0]
          have H0 := Lib.hid h0
          clear h0 HN
          subst hn
          have hz2 : ((n : Int) + 1 != (n : Int) + 1) = false := by simp
          go_wp2_with (((with_reducible show wpList _ _ _ (⟨none, .store _ _ _, _, _, _, _⟩ :: _) _ _); go_must (refine wpList_storeNew rfl rfl (by kernel_rfl) rfl (by simp [Value.oneCell']) ?_; intro w1 hh1 hb1; have e1 := cell_rec hh1 1; simp only [List.getElem?_toArray, List.getElem?_cons_succ, List.getElem?_cons_zero] at e1)))
          have HB1 := Lib.hid (HB.out.trans (hb1.mono HB.out.size))
          clear hh1 hb1 e1
          go_roundw
          case rel =>
            first
              | exact ⟨n + 1, n + 1, by go_num, by go_num, by omega, by omega, G3.out, G2.out, HB1.out⟩
              | ((repeat apply Exists.intro); exact ⟨⟨n + 1, n + 1, by go_num, by go_num, by omega, by omega, G3.out, G2.out, HB1.out⟩, rfl⟩)
          case measure => simp [intOf] <;> omega
        · have HR := Lib.hid (ordR_bad (ordB_bad X1.out HT.out h0 (by rw [← HN.out]; exact hn)))
          have hz : (x.bind == 0) = true := by simp [h0]
          have hz2 : ((n : Int) + 1 != (k : Int) + 1) = true := by simp; omega
          have H0 := Lib.hid h0
          clear h0 HN
          go_wp2_with (((with_reducible show wpList _ _ _ (⟨none, .store _ _ _, _, _, _, _⟩ :: _) _ _); go_must (refine wpList_storeNew rfl rfl (by kernel_rfl) rfl (by simp [Value.oneCell']) ?_; intro w1 hh1 hb1; have e1 := cell_rec hh1 1; simp only [List.getElem?_toArray, List.getElem?_cons_succ, List.getElem?_cons_zero] at e1)))
          go_ret2
          exact ⟨by rw [HR.out]; rfl, HB.out.trans (hb1.mono HB.out.size)⟩
      · have G1 := Lib.hid (locs_step1 X1.out h0)
        have G2 := Lib.hid (ordB_good X1.out HT.out (.inl h0))
        have G3 : Hid (n = locs (l.take (k + 1))) := by rw [G1.out, ← HN.out]; rfl
        have hz : (x.bind == 0) = false := by simpa using h0
        have H0 := Lib.hid h0
        clear h0
        go_wp2_with (((with_reducible show wpList _ _ _ (⟨none, .store _ _ _, _, _, _, _⟩ :: _) _ _); go_must (refine wpList_storeNew rfl rfl (by kernel_rfl) rfl (by simp [Value.oneCell']) ?_; intro w1 hh1 hb1; have e1 := cell_rec hh1 1; simp only [List.getElem?_toArray, List.getElem?_cons_succ, List.getElem?_cons_zero] at e1)))
        have HB1 := Lib.hid (HB.out.trans (hb1.mono HB.out.size))
        clear hh1 hb1 e1
        go_roundw
        case rel =>
          first
            | exact ⟨k + 1, n, by go_num, rfl, by omega, by omega, G3.out, G2.out, HB1.out⟩
            | ((repeat apply Exists.intro); exact ⟨⟨k + 1, n, by go_num, rfl, by omega, by omega, G3.out, G2.out, HB1.out⟩, rfl⟩)
        case measure => simp [intOf] <;> omega
    · have hkn : l.length ≤ k := by have := HL.out; omega
      have HR : Hid (ordR l = (n, true)) := by
        have h1 := HT.out
        have h2 := HN.out
        rw [List.take_of_length_le hkn] at h1 h2
        rw [ordR_ok h1, h2]; rfl
      clear HT HN hkn
      go_wp2
      go_ret2
      exact ⟨by rw [HR.out]; rfl, HB.out⟩
end Go.Proofs.Ytimnbnomaajmmaa
namespace Go.Proofs.Ytimnbnomaajmmaa
open Go.RowKit Go.Fd
/-- At a place lies a name with a 0 behind. -/
def InTab (T : List UInt8) (p : Nat) (s : List UInt8) : Prop := ∃ a b, T = a ++ (s ++ 0 :: b) ∧ a.length = p
theorem InTab.app {T : List UInt8} {p : Nat} {s : List UInt8} (h : InTab T p s) (x : List UInt8) : InTab (T ++ x) p s := by
  obtain ⟨a, b, rfl, hp⟩ := h
  exact ⟨a, b ++ x, by simp, hp⟩
theorem InTab.lt {T : List UInt8} {p : Nat} {s : List UInt8} (h : InTab T p s) : p + s.length < T.length := by
  obtain ⟨a, b, rfl, hp⟩ := h
  simp; omega
theorem InTab.drop {T : List UInt8} {p : Nat} {s : List UInt8} (h : InTab T p s) : ∃ b, T.drop p = s ++ 0 :: b := by
  obtain ⟨a, b, rfl, rfl⟩ := h
  exact ⟨b, by simp⟩
theorem upto0_name (s b : List UInt8) (h : (0 : UInt8) ∉ s) : upto0 (s ++ 0 :: b) = some s := by
  induction s with
  | nil => simp [upto0]
  | cons c s ih =>
    simp only [List.mem_cons, not_or] at h
    rw [List.cons_append, upto0, if_neg (fun e => h.1 e.symm), ih h.2]
    rfl
theorem InTab.upto {T : List UInt8} {p : Nat} {s : List UInt8} (h : InTab T p s) (h0 : (0 : UInt8) ∉ s) : upto0 (T.drop p) = some s := by
  obtain ⟨b, hb⟩ := h.drop
  rw [hb, upto0_name s b h0]
theorem mayS_no0 {s : List UInt8} (h : mayS s = true) : (0 : UInt8) ∉ s := by unfold mayS at h; simp at h; exact h.2
theorem build_in (names : List (List UInt8)) : ∀ s p, lkp (buildT names).at_ s = some p → InTab (buildT names).tab p s := by
  refine snoc_ind (P := fun names => ∀ s p, lkp (buildT names).at_ s = some p → InTab (buildT names).tab p s) ?_ (fun names x ih => ?_) names
  · intro s p h
    have h' : lkp [(([] : List UInt8), 0)] s = some p := h
    rw [lkp_cons] at h'
    by_cases e : s = []
    · rw [if_pos e] at h'
      cases h'
      subst e
      exact ⟨[], [], rfl, rfl⟩
    · rw [if_neg e] at h'
      exact absurd h' (by simp [lkp])
  · intro s p h
    rw [buildT_snoc] at h ⊢
    rw [step_at] at h
    unfold stepB
    cases hx : lkp (buildT names).at_ x with
    | some q =>
      rw [hx] at h
      by_cases e : s = x
      · rw [if_pos e] at h
        cases h
        subst e
        exact ih s _ hx
      · rw [if_neg e] at h
        exact ih s p h
    | none =>
      rw [hx] at h
      by_cases e : s = x
      · rw [if_pos e] at h
        cases h
        subst e
        exact ⟨(buildT names).tab, [], by simp, rfl⟩
      · rw [if_neg e] at h
        have := ((ih s p h).app x).app [0]
        exact this
theorem at_place {T : List UInt8} {p : Nat} {s : List UInt8} (h : InTab T p s) (hs : mayS s = true) : atR T p = (s, 0) := by
  unfold atR
  have hl := h.lt
  rw [if_neg (by omega), Int.toNat_natCast, h.upto (mayS_no0 hs)]
  have := mayS_len hs
  simp
  omega
/-- What is known where a table was built. -/
theorem build_ok {names : List (List UInt8)} (h : (buildR names).2.2 = 0) : names.all mayS = true ∧ buildR names = ((buildT names).tab, (buildT names).out, 0) := by
  unfold buildR at h ⊢
  by_cases h1 : names.all mayS = true
  · rw [if_pos h1] at h ⊢
    by_cases h2 : 1048576 < (buildT names).tab.length
    · rw [if_pos h2] at h
      simp at h
    · rw [if_neg h2]
      exact ⟨h1, rfl⟩
  · rw [if_neg h1] at h
    simp at h
/-- At each name: its place. -/
theorem build_at {names : List (List UInt8)} (h : names.all mayS = true) {i : Nat} {s : List UInt8} (hi : names[i]? = some s) : ∃ p, (buildT names).out[i]? = some p ∧ lkp (buildT names).at_ s = some p ∧ InTab (buildT names).tab p s ∧ mayS s = true := by
  have hp := build_places names
  have hlt : i < names.length := (List.getElem?_eq_some_iff.1 hi).1
  have ho : (buildT names).out[i]? = some ((buildT names).out[i]'(by rw [hp.1]; exact hlt)) := List.getElem?_eq_getElem _
  have hl := hp.2.1 i s _ hi ho
  exact ⟨_, ho, hl, build_in names s _ hl, List.all_eq_true.1 h s (List.mem_of_getElem? hi)⟩
end Go.Proofs.Ytimnbnomaajmmaa
namespace Go.Proofs.Ytimnbnomaajmmaa
open Go.RowKit Go.Fd
theorem TTexts : SliceT Try.prog 33 9 1 16 := SliceT.mk' (z := .string ⟨#[]⟩) (by kernel_rfl) (by kernel_rfl) rfl (by omega)
theorem ats_ok {names : List (List UInt8)} (h : (buildR names).2.2 = 0) (hl : names.length ≤ 1000) : (buildR names).2.1.length = names.length ∧ ∀ p ∈ (buildR names).2.1, p ≤ 130000 := by
  obtain ⟨h1, h2⟩ := build_ok h
  rw [List.all_eq_true] at h1
  have h3 := buildT_len names fun s hs => by have := h1 s hs; unfold mayS at this; simp at this; exact this.1
  have h4 := (build_bound names).1
  rw [h2]
  exact ⟨h3.2.1, fun p hp => by have := h4 p hp; have := h3.1; omega⟩
theorem names_step {l : List SymM} {k : Nat} {x : SymM} (h : l[k]? = some x) : (l.take (k + 1)).map (·.name) = (l.take k).map (·.name) ++ [x.name] := by
  rw [List.take_add_one, h]; simp
theorem flatz_step {l : List SymM} {m : List Nat} {k : Nat} {x : SymM} {p : Nat} (hx : l[k]? = some x) (hp : m[k]? = some p) : ((l.zip m).take (k + 1)).flatMap symB = ((l.zip m).take k).flatMap symB ++ symB (x, p) := by
  rw [zip_step hx hp]; simp
theorem flatz_len (L : List (SymM × Nat)) : (L.flatMap symB).length = L.length * 24 := flat_len' symB_len L
theorem shl4_run {w : World} {x y : Operand} {b : Int} (h0 : 0 ≤ b) (h2 : b ≤ 2) : (do eqGuard .shl 3 x y (.int .i64 b) (.int .u64 4); binOp .shl 3 (.int .i64 b) (.int .u64 4) : Sem Value).run Try.prog w = .ok (.int .i64 (16 * b)) w := by
  obtain rfl | rfl | rfl : b = 0 ∨ b = 1 ∨ b = 2 := by omega
  all_goals kernel_rfl
theorem or_run {w : World} {x y : Operand} {b t : Int} (h0 : 0 ≤ b) (h2 : b ≤ 2) (h3 : 0 ≤ t) (h4 : t ≤ 6) : (do eqGuard .or 3 x y (.int .i64 (16 * b)) (.int .i64 t); binOp .or 3 (.int .i64 (16 * b)) (.int .i64 t) : Sem Value).run Try.prog w = .ok (.int .i64 (16 * b + t)) w := by
  obtain rfl | rfl | rfl : b = 0 ∨ b = 1 ∨ b = 2 := by omega
  all_goals
    obtain rfl | rfl | rfl | rfl | rfl | rfl | rfl : t = 0 ∨ t = 1 ∨ t = 2 ∨ t = 3 ∨ t = 4 ∨ t = 5 ∨ t = 6 := by omega
    all_goals kernel_rfl
theorem info_u8 {s : SymM} (h0 : 0 ≤ s.bind) (h2 : s.bind ≤ 2) (h3 : 0 ≤ s.typ) (h4 : s.typ ≤ 6) : 16 * s.bind + s.typ = ((infoB s).toNat : Int) := by
  unfold infoB
  rw [u8_of]
  omega
/-- 'append(v, c1, c2, ..)', bytes written out. -/
theorem wpList_pushLit {ops : Array Oper} {rest : List Oper} {Q : Exit → Act → World → Prop} {a : Act} {w : World} {d : Option Tmp} {ty : TypeId} {pos : String} {aft : Array Edge} {s x : Operand} {v : Value} {base : Nat} {l : List UInt8} (hown : OB w base v l) (m : List UInt8) {n : Nat} {cs : Array Value}
    (hs : a.eval s = v) (hx : a.eval x = .slice (some ⟨w.heap.size, 0, none⟩) n n) (hcs : cs = (m.map B).toArray) (hm : n = m.length) (hn : l.length + m.length ≤ 140737488355328) (hb : base ≤ w.heap.size)
    (h : ∀ v' w', OB w' base v' (l ++ m) → Keeps 5 w w' → Below base w w' → wpList Try.prog ops Q rest (a.put d v') w') :
    wpList Try.prog ops Q (⟨d, .call { callee := .builtin .append, args := #[s, x], argTypes := #[29, 29] }, ty, pos, aft, none⟩ :: rest) a (w.alloc (.cells cs 5)) := by
  have h1 := hown.mono (below_alloc w (.cells cs 5))
  refine wpList_catB h1 (bs_lit w m cs n hcs hm) hs hx hn (by simp; omega) fun v' w' h2 h3 h4 => h v' w' h2 ((keeps_below (below_alloc w _)).trans (keeps_own h1 h3)) ((below_alloc w _).mono hb |>.trans h4)
set_option maxHeartbeats 4000000 in
set_option maxRecDepth 100000 in
theorem symsWrite_any (l : List SymM) (v : Value) (w : World) (hl : l.length ≤ 1000) (hwf : ∀ s ∈ l, s.value < 18446744073709551616 ∧ s.size < 18446744073709551616) (hv : RdR 6 encSym w v l) :
    Calls Try.prog 21 #[v] w fun e w' => ∃ v1 v2, e = .returned (.tuple #[v1, v2, .int .i64 ((symW l).2.2.1 : Nat), .int .i64 (symW l).2.2.2]) ∧ OB w' w.heap.size v1 (symW l).1 ∧ OB w' w.heap.size v2 (symW l).2.1 ∧ Below w.heap.size w w' ∧ (∀ k, v1.ownBlock = some k → v2.ownBlock ≠ some k) := by
  obtain ⟨a, ca, rfl, hca, -, hc⟩ := hv.open (fun _ => rfl)
  have HV := Lib.hid hv
  have HC := Lib.hid hc
  have HWF := Lib.hid hwf
  obtain ⟨nl, hnl⟩ : ∃ n, n = l.length := ⟨_, rfl⟩
  rw [← hnl] at hl hca HV ⊢
  have HL := Lib.hid hnl
  clear hc hv hnl hwf
  go_enter Try.func21, Try.ntmps21
  go_wp2
  go_loopw [6, 16] (fun tx i wr => ∃ k : Nat, i = .int .i64 k ∧ k ≤ nl ∧ Hid ((l.take k).any symBad = false) ∧ Hid (Ow S 9 wr w.heap.size tx ((l.take k).map (·.name))) ∧ Hid (Below w.heap.size w wr)) (fun _ i _ => nl - (intOf i).toNat)
  case atStart => exact ⟨0, rfl, Nat.zero_le _, by simp [Hid], Ow.nil _ _ _ _, Below.refl _ _⟩
  case round =>
    obtain ⟨k, rfl, hk, HT, HO, HB⟩ := hrel
    by_cases hlt : k < nl
    · have X1 := Lib.hid (show l[k]? = some (l[k]'(by have := HL.out; omega)) from List.getElem?_eq_getElem _)
      generalize l[k]'(by have := HL.out; omega) = x at *
      obtain ⟨b1, o1, ha, hc1⟩ := HC.out k x X1.out (by decide)
      subst ha
      have hd1 : ∀ c v, (encSym x)[c]? = some v → wr.cell? ⟨b1, o1 + k * 6 + c, none⟩ = some v := fun c v h => by
        have h6 : c < 6 := (List.getElem?_eq_some_iff.1 h).1
        have := (hc1 c h6).trans h
        rw [← Nat.add_assoc] at this
        exact (HB.out.cell (block_lt this)).trans this
      have c10 := hd1 0 _ rfl
      have c11 := hd1 1 _ rfl
      have c12 := hd1 2 _ rfl
      have c13 := hd1 3 _ rfl
      have c14 := hd1 4 _ rfl
      have c15 := hd1 5 _ rfl
      rw [Nat.add_zero] at c10
      clear hc1 hd1
      have HNS := Lib.hid (names_step X1.out)
      have HTL := Lib.hid (show ((l.take k).map (·.name)).length ≤ 1000 by rw [List.length_map, List.length_take]; omega)
      have hbs := HB.out.size
      have KC := Lib.hid (fun w => kind_any x.bind x.typ w)
      cases hb : symBad x with
      | true =>
        have HR := Lib.hid (symW_bad (bad_yes X1.out hb))
        have HBAD := Lib.hid hb
        clear hb
        cases hk1 : kindB x.bind x.typ with
        | false =>
          rw [hk1] at KC
          have HK1 := Lib.hid hk1
          clear hk1
          go_wp2_with (first
            | ((with_reducible show wpList _ _ _ (⟨none, .store _ _ _, _, _, _, _⟩ :: _) _ _); go_must (refine wpList_storeNew rfl rfl (by kernel_rfl) rfl (by simp [Value.oneCell']) ?_; intro w1 hh1 hb1; have e1 := cell_rec hh1 1; have e2 := cell_rec hh1 2; have e3 := cell_rec hh1 3; simp only [List.getElem?_toArray, List.getElem?_cons_succ, List.getElem?_cons_zero] at e1 e2 e3))
            | (go_at_call 37; refine (KC.out _).mono ?_; rintro e w2 ⟨rfl, rfl⟩))
          refine bodyPost_ret (v := .tuple #[.slice none 0 0, .slice none 0 0, .int .i64 0, .int .i64 1]) (by simp [results, Try.results21, go_sem]) rfl ?_
          exact ⟨_, _, by rw [HR.out]; rfl, by rw [HR.out]; exact OB.nil _ _, by rw [HR.out]; exact OB.nil _ _, HB.out.trans (hb1.mono HB.out.size), fun k h => by cases h⟩
        | true =>
          rw [hk1] at KC
          have hsec : x.sec < 0 ∨ 65535 < x.sec := by
            have := HBAD.out
            unfold symBad at this
            simpa [hk1] using this
          have HK1 := Lib.hid hk1
          clear hk1
          rcases hsec with hsec | hsec
          all_goals
            go_wp2_with (first
              | ((with_reducible show wpList _ _ _ (⟨none, .store _ _ _, _, _, _, _⟩ :: _) _ _); go_must (refine wpList_storeNew rfl rfl (by kernel_rfl) rfl (by simp [Value.oneCell']) ?_; intro w1 hh1 hb1; have e1 := cell_rec hh1 1; have e2 := cell_rec hh1 2; have e3 := cell_rec hh1 3; simp only [List.getElem?_toArray, List.getElem?_cons_succ, List.getElem?_cons_zero] at e1 e2 e3))
              | (go_at_call 37; refine (KC.out _).mono ?_; rintro e w2 ⟨rfl, rfl⟩))
            refine bodyPost_ret (v := .tuple #[.slice none 0 0, .slice none 0 0, .int .i64 0, .int .i64 1]) (by simp [results, Try.results21, go_sem]) rfl ?_
            exact ⟨_, _, by rw [HR.out]; rfl, by rw [HR.out]; exact OB.nil _ _, by rw [HR.out]; exact OB.nil _ _, HB.out.trans (hb1.mono HB.out.size), fun k h => by cases h⟩
      | false =>
        have HN := Lib.hid (bad_step X1.out HT.out hb)
        have hk1 : kindB x.bind x.typ = true ∧ ¬ x.sec < 0 ∧ ¬ 65535 < x.sec := by
          unfold symBad at hb
          simp at hb
          exact ⟨hb.1.1, by omega, by omega⟩
        clear hb
        obtain ⟨hk1, hs1, hs2⟩ := hk1
        rw [hk1] at KC
        have HK1 := Lib.hid hk1
        clear hk1
        go_wp2_with (first
          | ((with_reducible show wpList _ _ _ (⟨none, .store _ _ _, _, _, _, _⟩ :: _) _ _); go_must (refine wpList_storeNew rfl rfl (by kernel_rfl) rfl (by simp [Value.oneCell']) ?_; intro w1 hh1 hb1; have e0 := cell_rec hh1 0; have e1 := cell_rec hh1 1; have e2 := cell_rec hh1 2; have e3 := cell_rec hh1 3; simp only [List.getElem?_toArray, List.getElem?_cons_succ, List.getElem?_cons_zero] at e0 e1 e2 e3; have HO1 := Lib.hid (HO.out.mono hb1); have HB1 := Lib.hid (HB.out.trans (hb1.mono HB.out.size)); clear hb1))
          | (go_at_call 37; refine (KC.out _).mono ?_; rintro e w2 ⟨rfl, rfl⟩)
          | ((with_reducible show wpList _ _ _ (⟨some 40, _, _, _, _, _⟩ :: _) _ _); go_must (refine wpList_pushE TTexts HO1.out rfl rfl x.name rfl rfl (by have := HTL.out; omega) (by omega) HB1.out.size ?_; intro v3 w3 hv3 _ hb3; have HO3 := Lib.hid (show Ow S 9 w3 w.heap.size v3 ((l.take (k + 1)).map (·.name)) by rw [HNS.out]; exact hv3); have HB3 := Lib.hid (HB1.out.trans hb3); clear hv3 hb3)))
        clear hh1 e0 e1 e2 e3
        go_roundw
        case rel =>
          first
            | exact ⟨k + 1, by go_num, by omega, HN.out, HO3.out, HB3.out⟩
            | ((repeat apply Exists.intro); exact ⟨⟨k + 1, by go_num, by omega, HN.out, HO3.out, HB3.out⟩, rfl⟩)
        case measure => simp [intOf] <;> omega
    · have hkn : l.length ≤ k := by have := HL.out; omega
      have HBF := Lib.hid (bad_all hkn HT.out)
      have HO1 : Hid (Ow S 9 wr w.heap.size u6 (l.map (·.name))) := by
        have := HO.out
        rw [List.take_of_length_le hkn] at this
        exact this
      clear HT HO hkn
      have HOC := Lib.hid (ordered_any l (.slice a nl ca) wr (by have := HL.out; omega) (HV.out.mono HB.out))
      have HLL := Lib.hid (show (l.map (·.name)).length ≤ 1000 by rw [List.length_map]; have := HL.out; omega)
      cases ho : ordB l with
      | false =>
        have HR := Lib.hid (symW_ord HBF.out ho)
        rw [ordR_bad ho] at HOC
        clear ho
        go_wp2_with fail
        refine HOC.out.mono ?_
        rintro e w1 ⟨rfl, hb1⟩
        go_wp2
        refine bodyPost_ret (v := .tuple #[.slice none 0 0, .slice none 0 0, .int .i64 0, .int .i64 24]) (by simp [results, Try.results21, go_sem]) rfl ?_
        exact ⟨_, _, by rw [HR.out]; rfl, by rw [HR.out]; exact OB.nil _ _, by rw [HR.out]; exact OB.nil _ _, HB.out.trans (hb1.mono HB.out.size), fun k h => by cases h⟩
      | true =>
        rw [ordR_ok ho] at HOC
        have HW1 : Hid ((buildR (l.map (·.name))).2.2 ≠ 0 → symW l = ([], [], 0, (buildR (l.map (·.name))).2.2)) := symW_err HBF.out ho
        have HW2 : Hid ((buildR (l.map (·.name))).2.2 = 0 → symW l = (symsB l (buildR (l.map (·.name))).2.1, (buildR (l.map (·.name))).1, locs l + 1, 0)) := symW_ok HBF.out ho
        have HAT : Hid ((buildR (l.map (·.name))).2.2 = 0 → (buildR (l.map (·.name))).2.1.length = (l.map (·.name)).length ∧ ∀ p ∈ (buildR (l.map (·.name))).2.1, p ≤ 130000) := fun h => ats_ok h HLL.out
        have hlocs : locs l ≤ 1000 := by have := locs_le l l.length; rw [List.take_length] at this; have := HL.out; omega
        clear ho
        go_wp2_with fail
        refine HOC.out.mono ?_
        rintro e w1 ⟨rfl, hb1⟩
        have HB1 := Lib.hid (HB.out.trans (hb1.mono HB.out.size))
        have HBU := Lib.hid (build_any (l.map (·.name)) u6 w1 (by have := HLL.out; omega) (HO1.out.rd.mono hb1))
        clear hb1
        generalize locs l = nloc at *
        generalize buildR (l.map (·.name)) = r at *
        obtain ⟨tb, ats, z⟩ := r
        go_wp2_with fail
        refine HBU.out.mono ?_
        rintro e w2 ⟨v1, v2, rfl, ob1, ow2, hb2⟩
        have OB1 := Lib.hid ob1
        have OW2 := Lib.hid ow2
        have HB2 := Lib.hid (HB1.out.trans (hb2.mono HB1.out.size))
        have HS12 := Lib.hid (HB1.out.size)
        clear ob1 ow2 hb2
        by_cases hz : z = 0
        · have HR := Lib.hid (HW2.out hz)
          have HA := Lib.hid (HAT.out hz)
          clear HW1 HW2 HAT
          subst hz
          obtain ⟨aa, cca, rfl, hmac, _, hac⟩ := (show Rd I64 w2 v2 ats from OW2.out.rd).open 0
          have hal : ats.length = nl := by have h1 := HA.out.1; rw [List.length_map] at h1; have := HL.out; omega
          rw [hal] at hmac ⊢
          have HAL := Lib.hid hal
          have HAC := Lib.hid hac
          clear hal hac HBU
          go_wp2_with (((with_reducible show wpList _ _ _ (⟨some 63, _, _, _, _, _⟩ :: _) _ _); go_must (refine wpList_makeB 24 rfl rfl rfl rfl (by omega) ?_; intro vt w3 hvt hb3)))
          have HVT := Lib.hid hvt
          have HB3 := Lib.hid hb3
          clear hvt hb3
          have HRX : Hid (symsB l ats = List.replicate 24 0 ++ ((l.zip ats).take nl).flatMap symB) := by
            unfold symsB
            rw [List.take_of_length_le (by rw [List.length_zip]; have := HL.out; omega)]
            rfl
          go_loopw [2, 66] (fun t i wr => ∃ k : Nat, i = .int .i64 k ∧ k ≤ nl ∧ Hid (OB wr w2.heap.size t (List.replicate 24 0 ++ ((l.zip ats).take k).flatMap symB)) ∧ Hid (Below w2.heap.size w2 wr)) (fun _ i _ => nl - (intOf i).toNat)
          case atStart => exact ⟨0, rfl, Nat.zero_le _, by have := HVT.out; simpa [Hid] using this, HB3.out⟩
          case round =>
            obtain ⟨k, rfl, hk, HO, HB⟩ := hrel
            by_cases hlt : k < nl
            · have X1 := Lib.hid (show l[k]? = some (l[k]'(by have := HL.out; omega)) from List.getElem?_eq_getElem _)
              generalize l[k]'(by have := HL.out; omega) = x at *
              have X2 := Lib.hid (show ats[k]? = some (ats[k]'(by have := HAL.out; omega)) from List.getElem?_eq_getElem _)
              obtain ⟨bA, oA, hA1, cA⟩ := HAC.out k (by have := HAL.out; omega)
              rw [X2.out] at cA
              generalize ats[k]'(by have := HAL.out; omega) = p at *
              have hp : p ≤ 130000 := HA.out.2 p (List.mem_of_getElem? X2.out)
              simp only [Option.getD_some] at cA
              replace cA := (HB.out.cell (block_lt cA)).trans cA
              subst hA1
              obtain ⟨b1, o1, ha, hc1⟩ := HC.out k x X1.out (by decide)
              subst ha
              have hd1 : ∀ c v, (encSym x)[c]? = some v → wr.cell? ⟨b1, o1 + k * 6 + c, none⟩ = some v := fun c v h => by
                have h6 : c < 6 := (List.getElem?_eq_some_iff.1 h).1
                have := (hc1 c h6).trans h
                rw [← Nat.add_assoc] at this
                have h2 := (HB2.out.cell (block_lt this)).trans this
                exact (HB.out.cell (block_lt h2)).trans h2
              have c10 := hd1 0 _ rfl
              have c11 := hd1 1 _ rfl
              have c12 := hd1 2 _ rfl
              have c13 := hd1 3 _ rfl
              have c14 := hd1 4 _ rfl
              have c15 := hd1 5 _ rfl
              rw [Nat.add_zero] at c10
              clear hc1 hd1
              have HF := Lib.hid (flatz_step X1.out X2.out)
              have HTL := Lib.hid (show (List.replicate 24 (0 : UInt8) ++ ((l.zip ats).take k).flatMap symB).length ≤ 30000 by rw [List.length_append, List.length_replicate, flatz_len, List.length_take]; omega)
              have HOF := Lib.hid (HWF.out x (List.mem_of_getElem? X1.out))
              have hgood : kindB x.bind x.typ = true ∧ ¬ x.sec < 0 ∧ ¬ 65535 < x.sec := by
                have := List.any_eq_false.1 HBF.out x (List.mem_of_getElem? X1.out)
                unfold symBad at this
                simp at this
                exact ⟨this.1.1, by omega, by omega⟩
              obtain ⟨hg1, hg2, hg3⟩ := hgood
              obtain ⟨hg4, hg5, hg6, hg7⟩ := kindB_pos hg1
              have HG1 := Lib.hid hg1
              have HI := Lib.hid (info_u8 (s := x) hg4 hg5 hg6 hg7)
              have HT1 := Lib.hid (show x.sec = ((u64of x.sec : Nat) : Int) by unfold u64of; omega)
              have hbs := HB.out.size
              clear hg1
              generalize hT0 : List.replicate 24 (0 : UInt8) ++ ((l.zip ats).take k).flatMap symB = T at *
              have HE0 := Lib.hid hT0
              clear hT0
              go_wp2_with (first
                | ((with_reducible show wpList _ _ _ (⟨none, .store _ _ _, _, _, _, _⟩ :: _) _ _); go_must (refine wpList_storeNew rfl rfl (by kernel_rfl) rfl (by simp [Value.oneCell']) ?_; intro w4 hh1 hb1; have cA1 := (hb1.cell (block_lt cA)).trans cA))
                | fail)
              have HO1 := Lib.hid (HO.out.mono hb1)
              have HB4 := Lib.hid (HB.out.trans (hb1.mono HB.out.size))
              have HH1 := Lib.hid hh1
              have HCA1 := Lib.hid cA1
              clear hh1 hb1 cA1 cA c10 c11 c12 c13 c14 c15
              refine (put4_any T p u2 w4 w2.heap.size rfl (Nat.le_trans HTL.out (by decide)) (by omega) HO1.out HB4.out.size).mono ?_
              rintro e w5 ⟨v5, rfl, ho5, hb5, hk5⟩
              have HH5 := Lib.hid (hk5 _ _ _ _ (by decide) HH1.out)
              have HO5 := Lib.hid ho5
              have HB5 := Lib.hid (HB4.out.trans hb5)
              have HL5 := Lib.hid (show (T ++ fixed p 4).length ≤ 30004 by rw [List.length_append, length_fixed]; have := HTL.out; omega)
              clear ho5 hb5 hk5
              generalize hT5 : T ++ fixed p 4 = T5 at *
              have HE5 := Lib.hid hT5
              clear hT5
              have e1 := cell_rec HH5.out 1
              have e2 := cell_rec HH5.out 2
              simp only [List.getElem?_toArray, List.getElem?_cons_succ, List.getElem?_cons_zero] at e1 e2
              go_wp2_with (first
                | ((with_reducible show wpList _ _ _ (⟨some 81, _, _, _, _, _⟩ :: _) _ _); go_must (refine wpList_val rfl (run_bin rfl rfl (shl4_run hg4 hg5)) ?_))
                | ((with_reducible show wpList _ _ _ (⟨some 84, _, _, _, _, _⟩ :: _) _ _); go_must (refine wpList_val rfl (run_bin rfl rfl (or_run hg4 hg5 hg6 hg7)) ?_))
                | ((with_reducible show wpList _ _ _ (⟨some 87, _, _, _, _, _⟩ :: _) _ _); go_must (refine wpList_pushLit HO5.out [infoB x, 0] rfl rfl (by rw [HI.out]; rfl) rfl (by have := HL5.out; simp; omega) HB5.out.size ?_; intro v6 w6 ho6 hk6 hb6; have HH6 := Lib.hid (hk6 _ _ _ _ (by decide) HH5.out); have e3 := cell_rec HH6.out 3; simp only [List.getElem?_toArray, List.getElem?_cons_succ, List.getElem?_cons_zero] at e3)))
              have HO6 := Lib.hid ho6
              have HB6 := Lib.hid (HB5.out.trans hb6)
              have HL6 := Lib.hid (show (T5 ++ [infoB x, 0]).length ≤ 30006 by rw [List.length_append]; have := HL5.out; simp; omega)
              clear ho6 hk6 hb6 e1 e2
              generalize hT6 : T5 ++ [infoB x, 0] = T6 at *
              have HE6 := Lib.hid hT6
              clear hT6
              refine (put2_any T6 (u64of x.sec) v6 w6 w2.heap.size HT1.out (Nat.le_trans HL6.out (by decide)) (u64of_lt _) HO6.out HB6.out.size).mono ?_
              rintro e w7 ⟨v7, rfl, ho7, hb7, hk7⟩
              have HO7 := Lib.hid ho7
              have HB7 := Lib.hid (HB6.out.trans hb7)
              have HH7 := Lib.hid (hk7 _ _ _ _ (by decide) HH6.out)
              have HL7 := Lib.hid (show (T6 ++ fixed (u64of x.sec) 2).length ≤ 30008 by rw [List.length_append, length_fixed]; have := HL6.out; omega)
              clear ho7 hb7 hk7 e3
              generalize hT7 : T6 ++ fixed (u64of x.sec) 2 = T7 at *
              have HE7 := Lib.hid hT7
              clear hT7
              have f4 := cell_rec HH7.out 4
              have f5 := cell_rec HH7.out 5
              simp only [List.getElem?_toArray, List.getElem?_cons_succ, List.getElem?_cons_zero] at f4 f5
              go_wp2
              have HC4 := Lib.hid (fun w' (hO : OB w' w2.heap.size v7 T7) (hb : w2.heap.size ≤ w'.heap.size) => put8_any T7 x.value v7 w' w2.heap.size rfl (Nat.le_trans HL7.out (by decide)) HOF.out.1 hO hb)
              have HC5 := Lib.hid (fun w' v3 (hO : OB w' w2.heap.size v3 (T7 ++ fixed x.value 8)) (hb : w2.heap.size ≤ w'.heap.size) => put8_any (T7 ++ fixed x.value 8) x.size v3 w' w2.heap.size rfl (by rw [List.length_append, length_fixed]; have := HL7.out; omega) HOF.out.2 hO hb)
              go_region_with (first
                  | (go_at_call_of 36 v7; refine (HC4.out w7.drew HO7.out HB7.out.size).mono ?_; rintro e w8 ⟨v8, rfl, ho8, hb8, hk8⟩; have HH8 := Lib.hid (hk8 _ _ _ _ (by decide) HH7.out); have g4 := cell_rec HH8.out 4; have g5 := cell_rec HH8.out 5; simp only [List.getElem?_toArray, List.getElem?_cons_succ, List.getElem?_cons_zero] at g4 g5)
                  | (go_at_call_of 36 v8; refine (HC5.out w8 v8 ho8 (Nat.le_trans HB7.out.size hb8.size)).mono ?_; rintro e w9 ⟨v9, rfl, ho9, hb9, hk9⟩))
              all_goals
                have HB8 := Lib.hid (show Below w2.heap.size w7 w8 from ⟨hb8.os, hb8.tape, hb8.output, hb8.size, hb8.block⟩)
                have HB9 := Lib.hid (HB7.out.trans (HB8.out.trans hb9))
                have HO9 := Lib.hid ho9
                clear ho8 ho9 hb8 hb9 hk8 hk9 f4 f5 g4 g5 HC4 HC5
                have G1 : Hid (OB w9 w2.heap.size v9 (List.replicate 24 0 ++ ((l.zip ats).take (k + 1)).flatMap symB)) := by
                  rw [HF.out, ← List.append_assoc, HE0.out]
                  show OB w9 w2.heap.size v9 (T ++ symB (x, p))
                  have := HO9.out
                  rw [← HE7.out, ← HE6.out, ← HE5.out] at this
                  unfold symB
                  simpa [List.append_assoc] using this
                clear HO9
                go_wp2
                go_roundw
                case rel =>
                  first
                    | exact ⟨k + 1, by go_num, by omega, G1.out, HB9.out⟩
                    | ((repeat apply Exists.intro); exact ⟨⟨k + 1, by go_num, by omega, G1.out, HB9.out⟩, rfl⟩)
                case measure => simp [intOf] <;> omega
            · have hkn : k = nl := by omega
              have HAP : Hid (∀ k, u2.ownBlock = some k → v1.ownBlock ≠ some k) := fun k h1 h2 => by
                have := (World.ownsRow.lt HO.out k h1).1
                have := (World.ownsRow.lt OB1.out k h2).2
                omega
              have HE : Hid (OB wr w.heap.size u2 (symsB l ats)) := by
                have := HO.out
                rw [hkn, ← HRX.out] at this
                exact this.base HB2.out.size
              clear HO hkn
              go_wp2
              refine bodyPost_ret (v := .tuple #[u2, v1, .int .i64 ((nloc : Int) + 1), .int .i64 0]) (by simp [results, Try.results21, go_sem]) rfl ?_
              exact ⟨_, _, by rw [HR.out]; rfl, by rw [HR.out]; exact HE.out, by rw [HR.out]; exact (OB1.out.mono HB.out).base HB1.out.size, HB2.out.trans (HB.out.mono HB2.out.size), HAP.out⟩
        · have hz2 : (z != 0) = true := by simpa using hz
          have HR := Lib.hid (HW1.out hz)
          have HZ := Lib.hid hz
          clear HW1 HW2 HAT hz
          go_wp2
          refine bodyPost_ret (v := .tuple #[.slice none 0 0, .slice none 0 0, .int .i64 0, .int .i64 z]) (by simp [results, Try.results21, go_sem]) rfl ?_
          exact ⟨_, _, by rw [HR.out]; rfl, by rw [HR.out]; exact OB.nil _ _, by rw [HR.out]; exact OB.nil _ _, HB2.out, fun k h => by cases h⟩
end Go.Proofs.Ytimnbnomaajmmaa
namespace Go.Proofs.Ytimnbnomaajmmaa
open Go.RowKit Go.Fd
/-- The error of a list. -/
def symE (l : List SymM) : Int := if l.any symBad = true then 1 else if ordB l = false then 24 else (buildR (l.map (·.name))).2.2
end Go.Proofs.Ytimnbnomaajmmaa
namespace Go.Proofs.Ytimnbnomaajmmaa
open Go.RowKit Go.Fd
theorem symW_E {l : List SymM} (h : symE l ≠ 0) : symW l = ([], [], 0, symE l) := by
  unfold symW symE at *
  split
  · rfl
  · split
    · rfl
    · next h1 h2 =>
      rw [if_neg h1, if_neg h2] at h
      rw [if_neg h]
theorem symE_0 {l : List SymM} (h : symE l = 0) : l.any symBad = false ∧ (buildR (l.map (·.name))).2.2 = 0 ∧ symW l = (symsB l (buildR (l.map (·.name))).2.1, (buildR (l.map (·.name))).1, locs l + 1, 0) := by
  unfold symE at h
  split at h
  · cases h
  · next h1 =>
    split at h
    · cases h
    · next h2 => exact ⟨by simpa using h1, h, symW_ok (by simpa using h1) (by simpa using h2) h⟩
end Go.Proofs.Ytimnbnomaajmmaa
namespace Go.Proofs.Ytimnbnomaajmmaa
open Go.RowKit Go.Fd
theorem bytesEq_any (l m : List UInt8) (v u : Value) (w : World) (hv : Bs w v l) (hu : Bs w u m) :
    Calls Try.prog 32 #[v, u] w fun e w' => e = .returned (.bool (decide (l = m))) ∧ w = w' :=
  (Try.bytes_Equal_strs v u ⟨l.toArray⟩ ⟨m.toArray⟩ w (run_str hv) (run_str hu)).mono fun e w' ⟨h1, h2⟩ => ⟨by rw [h1]; congr 2; rw [Bool.eq_iff_iff, beq_iff_eq, decide_eq_true_iff, ByteArray.toList_eq, ByteArray.toList_eq], h2.symm⟩
/-- The symbol's record at place k, its name's place, and the byte that must be 0. -/
def recS (b : List UInt8) (k : Nat) (name : List UInt8) : SymM := ⟨name, ((b[24 * k + 4]?.getD 0).toNat / 16 : Nat), ((b[24 * k + 4]?.getD 0).toNat % 16 : Nat), numLE ((b.drop (24 * k + 6)).take 2), numLE ((b.drop (24 * k + 8)).take 8), numLE ((b.drop (24 * k + 16)).take 8)⟩
def recAt (b : List UInt8) (k : Nat) : Nat := numLE ((b.drop (24 * k)).take 4)
def rec5 (b : List UInt8) (k : Nat) : UInt8 := b[24 * k + 5]?.getD 0
/-- May s stand behind L? -/
def ordL (L : List SymM) (s : SymM) : Bool := decide (s.bind ≠ 0) || (match L.getLast? with | some y => decide (y.bind = 0) | none => true)
def stepSym (b names : List UInt8) (k : Nat) (L : List SymM) : Except Int (List SymM) :=
  if kindB (recS b (k + 1) []).bind (recS b (k + 1) []).typ = false ∨ rec5 b (k + 1) ≠ 0 then .error 1
  else if ordL L (recS b (k + 1) []) = false then .error 24
  else if (atR names (recAt b (k + 1))).2 ≠ 0 then .error (atR names (recAt b (k + 1))).2
  else .ok (L ++ [recS b (k + 1) (atR names (recAt b (k + 1))).1])
def symRd (b names : List UInt8) : List SymM × Int :=
  if b.length % 24 ≠ 0 ∨ b.length < 24 ∨ b.take 24 ≠ List.replicate 24 0 then ([], 4)
  else match foldU (stepSym b names) (b.length / 24 - 1) with | .ok L => (L, 0) | .error e => ([], e)
theorem foldSym_len (b names : List UInt8) : ∀ k L, foldU (stepSym b names) k = .ok L → L.length = k := by
  intro k
  induction k with
  | zero => intro L h; cases h; rfl
  | succ k ih =>
    intro L h
    rw [foldU] at h
    cases hk : foldU (stepSym b names) k with
    | error e => rw [hk] at h; cases h
    | ok L0 =>
      rw [hk] at h
      have h' : stepSym b names k L0 = .ok L := h
      unfold stepSym at h'
      repeat' split at h'
      all_goals first | (cases h'; done) | (cases h'; rw [List.length_append, ih L0 hk]; rfl)
theorem symRd_form {b names : List UInt8} (h : b.length % 24 ≠ 0 ∨ b.length < 24 ∨ b.take 24 ≠ List.replicate 24 0) : symRd b names = ([], 4) := by unfold symRd; rw [if_pos h]
theorem symRd_err {b names : List UInt8} {k : Nat} {L : List SymM} {e : Int} (h0 : ¬ (b.length % 24 ≠ 0 ∨ b.length < 24 ∨ b.take 24 ≠ List.replicate 24 0)) (hk : k < b.length / 24 - 1) (h : foldU (stepSym b names) k = .ok L) (hs : stepSym b names k L = .error e) : symRd b names = ([], e) := by
  unfold symRd
  rw [if_neg h0, foldU_err h hs _ hk]
theorem symRd_ok {b names : List UInt8} {k : Nat} {L : List SymM} (h0 : ¬ (b.length % 24 ≠ 0 ∨ b.length < 24 ∨ b.take 24 ≠ List.replicate 24 0)) (hk : k = b.length / 24 - 1) (h : foldU (stepSym b names) k = .ok L) : symRd b names = (L, 0) := by
  unfold symRd
  rw [if_neg h0, ← hk, h]
theorem step_arg {b names : List UInt8} {k : Nat} {L : List SymM} (h : kindB (recS b (k + 1) []).bind (recS b (k + 1) []).typ = false ∨ rec5 b (k + 1) ≠ 0) : stepSym b names k L = .error 1 := by unfold stepSym; rw [if_pos h]
theorem step_ord {b names : List UInt8} {k : Nat} {L : List SymM} (h : ¬ (kindB (recS b (k + 1) []).bind (recS b (k + 1) []).typ = false ∨ rec5 b (k + 1) ≠ 0)) (h2 : ordL L (recS b (k + 1) []) = false) : stepSym b names k L = .error 24 := by
  unfold stepSym; rw [if_neg h, if_pos h2]
theorem step_name {b names : List UInt8} {k : Nat} {L : List SymM} (h : ¬ (kindB (recS b (k + 1) []).bind (recS b (k + 1) []).typ = false ∨ rec5 b (k + 1) ≠ 0)) (h2 : ordL L (recS b (k + 1) []) = true) (h3 : (atR names (recAt b (k + 1))).2 ≠ 0) : stepSym b names k L = .error (atR names (recAt b (k + 1))).2 := by
  unfold stepSym; rw [if_neg h, if_neg (by simp [h2]), if_pos h3]
theorem step_sym {b names : List UInt8} {k : Nat} {L : List SymM} (h : ¬ (kindB (recS b (k + 1) []).bind (recS b (k + 1) []).typ = false ∨ rec5 b (k + 1) ≠ 0)) (h2 : ordL L (recS b (k + 1) []) = true) (h3 : (atR names (recAt b (k + 1))).2 = 0) : stepSym b names k L = .ok (L ++ [recS b (k + 1) (atR names (recAt b (k + 1))).1]) := by
  unfold stepSym; rw [if_neg h, if_neg (by simp [h2]), if_neg (by simp [h3])]
theorem ordB_two (y s : SymM) : ordB [y, s] = (decide (s.bind ≠ 0) || decide (y.bind = 0)) := by simp [ordB]
end Go.Proofs.Ytimnbnomaajmmaa
namespace Go.Fd
open Go.RowKit
section
variable {α : Type} {k : Nat} {enc : α → List Value} {e : TypeId} {w : World} {base : Nat} {v : Value} {l : List α}
theorem flat_drop (hk : ∀ x, (enc x).length = k) : ∀ (l : List α) (i : Nat), (l.flatMap enc).drop (i * k) = (l.drop i).flatMap enc
  | [], i => by simp
  | x :: l, 0 => by simp
  | x :: l, i + 1 => by
    rw [List.flatMap_cons, List.drop_succ_cons, ← flat_drop hk l i, Nat.succ_mul, List.drop_append, List.drop_of_length_le (by rw [hk]; omega), List.nil_append, hk]
    congr 1
    omega
/-- Owned records, opened. -/
theorem OwR.openOwn (h : OwR k enc e w base v l) (hl : 0 < l.length) : ∃ g cap, v = .slice (some ⟨g, 0, none⟩) l.length cap ∧ base ≤ g ∧ g < w.heap.size ∧ l.length ≤ cap ∧
    (∀ i, i < (l.flatMap enc).length → w.cell? ⟨g, i, none⟩ = (l.flatMap enc)[i]?) ∧ (∀ i, w.frozen? ⟨g, i, none⟩ = false) := by
  obtain ⟨h1, h2⟩ := id h
  rcases h2 with ⟨rfl, h0⟩ | ⟨g, cap, cur, rfl, hb, hg, hn, hc, hs, ht⟩
  · omega
  · exact ⟨g, cap, rfl, hb, (Array.getElem?_eq_some_iff.1 hg).1, hn, fun i hi => World.ownsRow.cellAt h i (by rw [h1] at hi; exact hi), fun i => World.ownsRow.frozenAt h i⟩
end
/-- The last record's first cell set anew. -/
theorem set_last {α : Type} {k : Nat} {enc : α → List Value} (hk : ∀ x, (enc x).length = k) (L : List α) (x y : α) (u : Value) (j : Nat) (h : (enc x).set j u = enc y) : ((L ++ [x]).flatMap enc).set (L.length * k + j) u = (L ++ [y]).flatMap enc := by
  rw [List.flatMap_append, List.flatMap_append, List.flatMap_singleton, List.flatMap_singleton, List.set_append, if_neg (by rw [flat_len hk]; omega), flat_len hk, Nat.add_sub_cancel_left, h]
end Go.Fd
namespace Go.Proofs.Ytimnbnomaajmmaa
open Go.RowKit Go.Fd
theorem TSym : SliceT Try.prog 23 46 6 56 := SliceT.mk' (z := .agg #[.string ⟨#[]⟩, .int .i64 0, .int .i64 0, .int .i64 0, .int .u64 0, .int .u64 0]) (by kernel_rfl) (by kernel_rfl) rfl (by omega)
theorem sym_from {w : World} {v : Value} {l : List SymM} (hv : RdR 6 encSym w v l) (i : Nat) {z : Int} (hz : z = (i : Int)) (h : i ≤ l.length) :
    ∃ v', (∀ w', (Instr.sliceAt 23 v (some (.int .i64 z)) none none).run Try.prog w' = .ok v' w') ∧ RdR 6 encSym w v' (l.drop i) := by
  subst hz
  obtain ⟨v', h1, h2⟩ := run_sliceFrom TSym hv (i := (i : Int)) (k := .i64) (by omega) (by omega)
  refine ⟨v', h1, ?_⟩
  unfold RdR
  rw [← flat_drop (k := 6) (enc := encSym) (fun _ => rfl) l i, List.length_drop]
  simpa [show ((l.length : Int) - i).toNat = l.length - i by omega] using h2
theorem ordB_tail (L : List SymM) (s : SymM) : ordB ((L ++ [s]).drop (L.length - 1)) = ordL L s := by
  rcases List.eq_nil_or_concat L with rfl | ⟨L', y, rfl⟩
  · simp [ordL, ordB]
  · have : (L'.concat y ++ [s]).drop ((L'.concat y).length - 1) = [y, s] := by simp
    rw [this, ordB_two]
    unfold ordL
    simp
theorem make24 {a : Act} {w : World} {d : Option Tmp} {ty : TypeId} {pos : String} {aft : Array Edge} {g : Option (Nat × Bool)} :
    (execOp a.eval ⟨d, .makeSlice 29 (.const (.int .i64 24)) (.const (.int .i64 24)), ty, pos, aft, g⟩).run Try.prog w = .ok (.value (.slice (some ⟨w.heap.size, 0, none⟩) 24 24)) (w.alloc (.cells ((List.replicate 24 (0 : UInt8)).map B).toArray 5)) := by
  kernel_rfl
def YB (l : List UInt8) : Yld := Yld.any (fun v w => Bs w v l) fun _ _ _ h hb => h.mono hb
theorem YB_got {v : Value} {l : List UInt8} {w : World} (h : (YB l).R v w) : Bs w v l := by obtain ⟨x, e, h⟩ := h; exact e ▸ h
theorem YB_mk {v : Value} {l : List UInt8} {w : World} (h : Bs w v l) : (YB l).R v w := ⟨v, rfl, h⟩
theorem run_allocSym {a : Act} {w : World} {d : Option Tmp} {ty : TypeId} {pos : String} {aft : Array Edge} {g : Option (Nat × Bool)} :
    (execOp a.eval ⟨d, .alloc 46, ty, pos, aft, g⟩).run Try.prog w = .ok (.value (.pointer (some ⟨w.heap.size, 0, none⟩))) (w.alloc (.cells #[.string ⟨#[]⟩, .int .i64 0, .int .i64 0, .int .i64 0, .int .u64 0, .int .u64 0] 46)) := by
  kernel_rfl
theorem cut_get {b : List UInt8} {a s i : Nat} (h : i < s) : ((b.drop a).take s)[i]?.getD 0 = b[a + i]?.getD 0 := by
  rw [List.getElem?_take, if_pos h, List.getElem?_drop]
theorem cut_cut {b : List UInt8} {a s i n : Nat} (h : i + n ≤ s) : (((b.drop a).take s).drop i).take n = (b.drop (a + i)).take n := by
  rw [List.drop_take, List.take_take, List.drop_drop, Nat.min_eq_left (by omega)]
set_option maxHeartbeats 4000000 in
set_option maxRecDepth 100000 in
theorem symsRead_any (b names : List UInt8) (v u : Value) (w : World) (hl : b.length ≤ 100000) (hln : names.length ≤ 1000000000) (hv : Bs w v b) (hu : Bs w u names) :
    Calls Try.prog 69 #[v, u] w fun e w' => ∃ v', e = .returned (.tuple #[v', .int .i64 (symRd b names).2]) ∧ OwR 6 encSym 46 w' w.heap.size v' (symRd b names).1 ∧ Below w.heap.size w w' := by
  have HV := Lib.hid hv
  have HU := Lib.hid hu
  obtain ⟨ad, cap, rfl, hcap, _, _⟩ := hv.open
  obtain ⟨n, hn⟩ : ∃ n, n = b.length := ⟨_, rfl⟩
  rw [← hn] at hl hcap HV ⊢
  have HN := Lib.hid hn
  have HLN := Lib.hid hln
  clear hv hu hn hln
  by_cases h0 : n % 24 = 0
  · obtain ⟨m, rfl⟩ : ∃ m, n = 24 * m := ⟨n / 24, by omega⟩
    have hm0 : ¬ (16384 : Int) < (m : Int) - 1 := by omega
    clear h0
    rcases Nat.eq_zero_or_pos m with rfl | hm
    · have HR := Lib.hid (symRd_form (b := b) (names := names) (.inr (.inl (by have := HN.out; omega))))
      go_enter Try.func69, Try.ntmps69
      go_wp2
      refine wp_region_walk 17 [] (by kernel_rfl) (by kernel_rfl) ?_
      simp only [List.take_succ_cons, List.take_zero, List.drop_succ_cons, List.drop_zero]
      repeat (first
        | (refine walk_quiet rfl rfl rfl ?_; intro K hK; go_big_quiet_op; go_big_quiet_on)
        | (refine walk_skip rfl ?_; go_frame))
      refine walk_nil ?_
      intro wz hbz _
      go_wp2
      go_ret2
      exact ⟨_, by rw [HR.out]; rfl, by rw [HR.out]; exact OwR.nil _ _ _ _ _, hbz⟩
    · have HD : Hid (24 * m = b.length) := HN
      have hd1 : decide (24 * (m : Int) < 24) = false := by simp; omega
      obtain ⟨s0, hr0, hb0⟩ := run_toB HV.out (j := 24) (k := .i64) (by omega) (by have := HN.out; omega)
      have HEQ := Lib.hid (fun (wx : World) (hx : Below w.heap.size w wx) (vx : Value) (hvx : Bs wx vx (List.replicate 24 0)) => bytesEq_any (b.take 24) (List.replicate 24 0) s0 vx wx (hb0.mono hx) hvx)
      clear hb0
      by_cases hz0 : b.take 24 = List.replicate 24 0
      · have HZ0 := Lib.hid hz0
        have HC0 : Hid (¬ (b.length % 24 ≠ 0 ∨ b.length < 24 ∨ b.take 24 ≠ List.replicate 24 0)) := by
          have := HN.out
          rintro (h | h | h)
          · omega
          · omega
          · exact h hz0
        rw [show decide (b.take 24 = List.replicate 24 0) = true by simpa using hz0] at HEQ
        clear hz0
        go_enter Try.func69, Try.ntmps69
        go_wp2
        refine wp_region_walk 17 [(12, YB (List.replicate 24 0)), (13, .is (.bool true))] (by kernel_rfl) (by kernel_rfl) ?_
        simp only [List.take_succ_cons, List.take_zero, List.drop_succ_cons, List.drop_zero]
        repeat (first
          | (refine walk_quiet rfl rfl rfl ?_; intro K hK; go_big_quiet_op; go_big_quiet_on)
          | (refine walk_any rfl rfl (fun wx _ _ => WpYld.val make24 (YB_mk (bs_lit wx (List.replicate 24 0) _ 24 rfl rfl)) (below_alloc wx _)) (fun vz => ?_); go_frame)
          | (refine walk_is rfl rfl (fun wx hwx hd => WpYld.callIs (run_callL (vals := [s0, vz]) Try.func32 (by kernel_rfl) rfl rfl) (HEQ.out wx hwx vz (YB_got (hd 12 _ _ _ rfl rfl (by kernel_rfl) rfl rfl)))) ?_; go_frame))
        refine walk_nil ?_
        intro wz hbz _
        have HBZ := Lib.hid hbz
        clear hbz HEQ hr0
        go_wp2
        go_loopw [6, 7] (fun lv i wr => ∃ (k p : Nat) (L : List SymM), i = .int .i64 p ∧ p ≤ 24 * m ∧ Hid (p = 24 * (k + 1) ∧ k + 1 ≤ m) ∧ Hid (foldU (stepSym b names) k = .ok L) ∧ Hid (OwR 6 encSym 46 wr w.heap.size lv L) ∧ Hid (Below w.heap.size w wr)) (fun _ i _ => 24 * m - (intOf i).toNat)
        case atStart => exact ⟨0, 24, [], rfl, by omega, ⟨rfl, by omega⟩, rfl, OwR.nil _ _ _ _ _, HBZ.out⟩
        case round =>
          obtain ⟨k, p, L, rfl, hp, HP, HF, HO, HB⟩ := hrel
          by_cases hlt : p < 24 * m
          · have hp24 : p + 24 ≤ 24 * m := by have := HP.out; omega
            obtain ⟨vr, hrr, hbr⟩ := slice_cut HV.out p 24 (z := (p : Int)) (y := (p : Int) + 24) rfl (by omega) (by have := HN.out; omega) (by have := HN.out; omega)
            have hrl : ((b.drop p).take 24).length = 24 := by rw [List.length_take, List.length_drop]; have := HN.out; omega
            have HU0 := Lib.hid (fun wx (hx : Below w.heap.size w wx) => uAt_any ((b.drop p).take 24) 0 4 (z := 0) (y := 4) vr wx rfl rfl (by decide) (by omega) (by omega) (hbr.mono hx))
            have HU2 := Lib.hid (fun wx (hx : Below w.heap.size w wx) => uAt_any ((b.drop p).take 24) 6 2 (z := 6) (y := 2) vr wx rfl rfl (by decide) (by omega) (by omega) (hbr.mono hx))
            have HU3 := Lib.hid (fun wx (hx : Below w.heap.size w wx) => uAt_any ((b.drop p).take 24) 8 8 (z := 8) (y := 8) vr wx rfl rfl (by decide) (by omega) (by omega) (hbr.mono hx))
            have HU4 := Lib.hid (fun wx (hx : Below w.heap.size w wx) => uAt_any ((b.drop p).take 24) 16 8 (z := 16) (y := 8) vr wx rfl rfl (by decide) (by omega) (by omega) (hbr.mono hx))
            rw [cut_cut (by omega)] at HU0 HU2 HU3 HU4
            obtain ⟨ar, cr, rfl, hcr, _, hcell⟩ := hbr.open
            rw [hrl] at hcr hrr HU0 HU2 HU3 HU4
            obtain ⟨br, or, har, c4⟩ := hcell 4 (by omega)
            obtain ⟨br', or', har', c5⟩ := hcell 5 (by omega)
            subst har
            cases har'
            rw [cut_get (by omega)] at c4 c5
            replace c4 := (HB.out.cell (block_lt c4)).trans c4
            replace c5 := (HB.out.cell (block_lt c5)).trans c5
            have HREC : Hid (∀ nm, recS b (k + 1) nm = ⟨nm, ((b[p + 4]?.getD 0).toNat : Int) / 16, ((b[p + 4]?.getD 0).toNat : Int) % 16, numLE ((b.drop (p + 6)).take 2), numLE ((b.drop (p + 8)).take 8), numLE ((b.drop (p + 16)).take 8)⟩) := by
              intro nm
              rw [HP.out.1]
              unfold recS
              rw [Int.natCast_ediv, Int.natCast_emod]
              rfl
            have HREC5 : Hid (rec5 b (k + 1) = b[p + 5]?.getD 0) := by rw [HP.out.1]; rfl
            have HRECA : Hid (recAt b (k + 1) = numLE ((b.drop (p + 0)).take 4)) := by rw [HP.out.1]; rfl
            have hw2 := i64_small (Nat.lt_trans (numLE_cut b (p + 6) 2) (by decide))
            have hw0 := i64_small (numLE_cut b (p + 0) 4)
            have HLL := Lib.hid (foldSym_len b names k L HF.out)
            have hbs := HB.out.size
            have hAB := fun (x : Above wr) (b k : Nat) (h : b < wr.heap.size) => Above.cell x b k h
            have hblt : br < wr.heap.size := block_lt c4
            have hb4 : (b[p + 4]?.getD 0).toNat < 256 := UInt8.toNat_lt _
            have hb5 : (b[p + 5]?.getD 0).toNat < 256 := UInt8.toNat_lt _
            generalize b[p + 4]?.getD 0 = y4 at *
            generalize b[p + 5]?.getD 0 = y5 at *
            generalize numLE ((b.drop (p + 0)).take 4) = n0 at *
            generalize numLE ((b.drop (p + 6)).take 2) = n2 at *
            generalize numLE ((b.drop (p + 8)).take 8) = n3 at *
            generalize numLE ((b.drop (p + 16)).take 8) = n4 at *
            clear hcell hbr
            go_wp2
            refine wp_region_walk 19 [(11, .is (.int .u64 n2)), (14, .is (.int .u64 n3)), (16, .is (.int .u64 n4)), (18, .new wr.heap.size 46 6)] (by kernel_rfl) (by kernel_rfl) ?_
            simp only [List.take_succ_cons, List.take_zero, List.drop_succ_cons, List.drop_zero]
            repeat (first
              | (refine walk_quiet rfl rfl rfl ?_; intro K hK; go_big_quiet_op; go_big_quiet_on)
              | (refine walk_is rfl rfl (fun wx hwx _ => WpYld.callIs (run_callL (vals := [_, .int .i64 6, .int .i64 2]) Try.func90 (by kernel_rfl) rfl rfl) (HU2.out wx (HB.out.trans (hwx.mono HB.out.size)))) ?_; go_frame)
              | (refine walk_is rfl rfl (fun wx hwx _ => WpYld.callIs (run_callL (vals := [_, .int .i64 8, .int .i64 8]) Try.func90 (by kernel_rfl) rfl rfl) (HU3.out wx (HB.out.trans (hwx.mono HB.out.size)))) ?_; go_frame)
              | (refine walk_is rfl rfl (fun wx hwx _ => WpYld.callIs (run_callL (vals := [_, .int .i64 16, .int .i64 8]) Try.func90 (by kernel_rfl) rfl rfl) (HU4.out wx (HB.out.trans (hwx.mono HB.out.size)))) ?_; go_frame)
              | (refine walk_new rfl rfl (fun wx hwx _ => WpYld.val run_allocSym (Yld.new_mk _ hwx).1 (Yld.new_mk _ hwx).2) (fun gb => ?_); go_frame))
            refine walk_nil ?_
            intro wz hbz hF
            obtain ⟨hgB, cs, hgh, hgs⟩ := Yld.new_got (hF 18 _ 9 _ rfl rfl rfl rfl)
            refine wpList_storeMade hgh rfl rfl (by kernel_rfl) hgs (by simp [Value.oneCell']) hgB hbz.size ?_
            intro w1 hh1 hb1
            have hb01 := hbz.trans hb1
            have e0 := cell_rec hh1 0
            have e1 := cell_rec hh1 1
            have e2 := cell_rec hh1 2
            have e3 := cell_rec hh1 3
            have e4 := cell_rec hh1 4
            have e5 := cell_rec hh1 5
            simp only [List.getElem?_toArray, List.getElem?_cons_succ, List.getElem?_cons_zero] at e0 e1 e2 e3 e4 e5
            have c5' := (hb01.cell hblt (p := ⟨br, or + 5, none⟩)).trans c5
            have HB01 := Lib.hid hb01
            have HO1 := Lib.hid (HO.out.mono hb01)
            have HB1 := Lib.hid (HB.out.trans (hb01.mono HB.out.size))
            clear hb1 hbz hh1 hb01 hgh hgs hF hrr hw2 hAB c4 c5
            generalize (y4.toNat : Int) / 16 = zb at *
            generalize (y4.toNat : Int) % 16 = zt at *
            have KC := Lib.hid (fun w => kind_any zb zt w)
            by_cases hbad : kindB zb zt = false ∨ y5 ≠ 0
            · have HR := Lib.hid (symRd_err HC0.out (by have := HP.out; have := HN.out; omega) HF.out (step_arg (by rw [HREC.out, HREC5.out]; exact hbad)))
              cases hkb : kindB zb zt with
              | false =>
                rw [hkb] at KC
                have HX := Lib.hid hkb
                have HX2 := Lib.hid hbad
                clear hkb hbad
                go_wp2_with (go_at_call 37; refine (KC.out _).mono ?_; rintro e w2 ⟨rfl, rfl⟩)
                go_ret2
                exact ⟨_, by rw [HR.out]; rfl, by rw [HR.out]; exact OwR.nil _ _ _ _ _, HB1.out⟩
              | true =>
                have hy : ((y5.toNat : Int) != 0) = true := by
                  rw [hkb] at hbad
                  rcases hbad with h | h
                  · cases h
                  · simpa [← UInt8.toNat_inj] using h
                rw [hkb] at KC
                have HX := Lib.hid hkb
                have HX2 := Lib.hid hbad
                clear hkb hbad
                go_wp2_with (go_at_call 37; refine (KC.out _).mono ?_; rintro e w2 ⟨rfl, rfl⟩)
                go_ret2
                exact ⟨_, by rw [HR.out]; rfl, by rw [HR.out]; exact OwR.nil _ _ _ _ _, HB1.out⟩
            · have hkb : kindB zb zt = true := by
                cases h : kindB zb zt with
                | true => rfl
                | false => exact absurd (.inl h) hbad
              have hy : ((y5.toNat : Int) != 0) = false := by
                have : y5 = 0 := by
                  rcases Classical.em (y5 = 0) with h | h
                  · exact h
                  · exact absurd (.inr h) hbad
                rw [this]; rfl
              have HOKA : Hid (¬ (kindB (recS b (k + 1) []).bind (recS b (k + 1) []).typ = false ∨ rec5 b (k + 1) ≠ 0)) := by rw [HREC.out, HREC5.out]; exact hbad
              rw [hkb] at KC
              have HX := Lib.hid hkb
              clear hkb hbad
              have hlen : (L ++ [(⟨[], zb, zt, (n2 : Int), n3, n4⟩ : SymM)]).length = k + 1 := by rw [List.length_append, HLL.out]; rfl
              have HLEN := Lib.hid hlen
              clear hlen
              have hk250 : k ≤ 5000 := by have := HP.out; omega
              go_wp2_with (first
                | (go_at_call 37; refine (KC.out _).mono ?_; rintro e w2 ⟨rfl, rfl⟩)
                | ((with_reducible show wpList _ _ _ (⟨some 81, _, _, _, _, _⟩ :: _) _ _); go_must (refine wpList_pushR TSym HO1.out rfl rfl ⟨[], zb, zt, n2, n3, n4⟩ rfl rfl (by simp [Value.oneCell']) (by have := HLL.out; omega) (by have := HLL.out; omega) HB1.out.size ?_; intro v2 w2 hv2 _ hb2; have HO2 := Lib.hid hv2; have HB2 := Lib.hid (HB1.out.trans hb2); obtain ⟨g2, cap2, rfl, hg2a, hg2b, hg2c, hg2d, hg2e⟩ := HO2.out.openOwn (by rw [HLEN.out]; omega); rw [HLEN.out] at hg2c ⊢; have HG2 := Lib.hid hg2d; obtain ⟨v3, hr3, hd3⟩ := sym_from HO2.out.rd (k - 1) (z := max ((k : Int) + 1 - 2) 0) (by omega) (by rw [HLEN.out]; omega); rw [HLEN.out] at hr3; have HD3 := Lib.hid hd3; clear hv2 hb2 e0 e1 e2 e3 e4 e5 hg2d hd3)))
              have HOC := Lib.hid (ordered_any _ v3 w2 (by rw [List.length_drop, HLEN.out]; omega) HD3.out)
              have HORD : Hid (ordB ((L ++ [(⟨[], zb, zt, (n2 : Int), n3, n4⟩ : SymM)]).drop (k - 1)) = ordL L (recS b (k + 1) [])) := by
                rw [HREC.out, ← HLL.out]; exact ordB_tail L _
              cases ho : ordL L (recS b (k + 1) []) with
              | false =>
                have HR := Lib.hid (symRd_err HC0.out (by have := HP.out; have := HN.out; omega) HF.out (step_ord HOKA.out ho))
                rw [ordR_bad (HORD.out.trans ho)] at HOC
                clear ho
                refine HOC.out.mono ?_
                rintro e w3 ⟨rfl, hb3⟩
                go_wp2
                go_ret2
                exact ⟨_, by rw [HR.out]; rfl, by rw [HR.out]; exact OwR.nil _ _ _ _ _, HB2.out.trans (hb3.mono HB2.out.size)⟩
              | true =>
                have HSN : Hid ((atR names (recAt b (k + 1))).2 ≠ 0 → stepSym b names k L = .error (atR names (recAt b (k + 1))).2) := step_name HOKA.out ho
                have HSO : Hid ((atR names (recAt b (k + 1))).2 = 0 → stepSym b names k L = .ok (L ++ [recS b (k + 1) (atR names (recAt b (k + 1))).1])) := step_sym HOKA.out ho
                rw [ordR_ok (HORD.out.trans ho)] at HOC
                clear ho HORD
                generalize locs ((L ++ [(⟨[], zb, zt, (n2 : Int), n3, n4⟩ : SymM)]).drop (k - 1)) = nloc at *
                refine HOC.out.mono ?_
                rintro e w3 ⟨rfl, hb3⟩
                have HB3 := Lib.hid (HB2.out.trans (hb3.mono HB2.out.size))
                have HO3 := Lib.hid (HO2.out.mono hb3)
                have hg3b : g2 < w3.heap.size := Nat.lt_of_lt_of_le hg2b hb3.size
                have hcell3 : w3.cell? ⟨g2, k * 6 + 0, none⟩ = some (.string ⟨#[]⟩) := by
                  have h1 := HG2.out (k * 6 + 0) (by rw [flat_len (k := 6) (fun _ => rfl), HLEN.out]; omega)
                  have h2 := flat_get (k := 6) (enc := encSym) (fun _ => rfl) (L ++ [(⟨[], zb, zt, (n2 : Int), n3, n4⟩ : SymM)]) k 0 ⟨[], zb, zt, (n2 : Int), n3, n4⟩ (by rw [List.getElem?_append_right (by rw [HLL.out]; omega), HLL.out]; simp) (by omega)
                  rw [h2] at h1
                  exact (hb3.cell (block_lt h1)).trans h1
                have hfz3 : w3.frozen? ⟨g2, k * 6 + 0, none⟩ = false := by
                  have := HO3.out.frozenAt (k * 6 + 0)
                  exact this
                have HA := Lib.hid (fun wx (hx : Below w.heap.size w wx) => strsAt_any names (n0 : Int) u wx HLN.out (HU.out.mono hx))
                rw [HRECA.out] at HSN HSO
                clear hb3
                go_wp2_with fail
                refine (HU0.out w3 HB3.out).mono ?_
                rintro e w4 ⟨rfl, rfl⟩
                go_wp2_with fail
                refine (HA.out w3 HB3.out).mono ?_
                rintro e w4 ⟨rfl, rfl⟩
                rw [Nat.add_zero] at hcell3 hfz3
                generalize atR names (n0 : Int) = r at *
                obtain ⟨nm, z⟩ := r
                by_cases hz : z = 0
                · have HF1 := Lib.hid (foldU_ok HF.out (HSO.out hz))
                  subst hz
                  have HO4 : Hid (OwR 6 encSym 46 (w3.setCell ⟨g2, k * 6, none⟩ (S nm)) w.heap.size (.slice (some ⟨g2, 0, none⟩) (k + 1) cap2) (L ++ [recS b (k + 1) nm])) := by
                    have h1 := HO3.out
                    unfold OwR at h1 ⊢
                    rw [HLEN.out] at h1
                    have h2 := (World.ownsRow.stored h1 (k * 6) (S nm)).1
                    have h3 := set_last (k := 6) (enc := encSym) (fun _ => rfl) L ⟨[], zb, zt, (n2 : Int), n3, n4⟩ ⟨nm, zb, zt, (n2 : Int), n3, n4⟩ (S nm) 0 rfl
                    rw [HLL.out, Nat.add_zero] at h3
                    rw [h3] at h2
                    rw [List.length_append, HLL.out, HREC.out]
                    exact h2
                  have HB4 : Hid (Below w.heap.size w (w3.setCell ⟨g2, k * 6, none⟩ (S nm))) := HB3.out.setCell hg2a _
                  have HP1 : Hid (p + 24 = 24 * (k + 1 + 1) ∧ k + 1 + 1 ≤ m) := by have := HP.out; constructor <;> omega
                  clear HO3 HO2 HSN HSO HG2
                  go_wp2
                  go_roundw
                  case rel =>
                    first
                      | exact ⟨k + 1, p + 24, _, by go_num, by omega, HP1.out, HF1.out, HO4.out, HB4.out⟩
                      | ((repeat apply Exists.intro); exact ⟨⟨k + 1, p + 24, _, by go_num, by omega, HP1.out, HF1.out, HO4.out, HB4.out⟩, rfl⟩)
                  case measure => simp [intOf] <;> omega
                · have HR := Lib.hid (symRd_err HC0.out (by have := HP.out; have := HN.out; omega) HF.out (HSN.out hz))
                  have hz2 : (z != 0) = true := by simpa using hz
                  have HZ := Lib.hid hz
                  clear hz HSN HSO
                  go_wp2
                  go_ret2
                  exact ⟨_, by rw [HR.out]; rfl, by rw [HR.out]; exact OwR.nil _ _ _ _ _, HB3.out⟩
          · have HRD := Lib.hid (symRd_ok HC0.out (by have := HP.out; have := HN.out; omega) HF.out)
            clear HF
            go_wp2
            go_ret2
            exact ⟨_, by rw [HRD.out]; rfl, by rw [HRD.out]; exact HO.out, HB.out⟩
      · have HR := Lib.hid (symRd_form (b := b) (names := names) (.inr (.inr hz0)))
        rw [show decide (b.take 24 = List.replicate 24 0) = false by simpa using hz0] at HEQ
        have HZ0 := Lib.hid hz0
        clear hz0
        go_enter Try.func69, Try.ntmps69
        go_wp2
        refine wp_region_walk 17 [(12, YB (List.replicate 24 0)), (13, .is (.bool false))] (by kernel_rfl) (by kernel_rfl) ?_
        simp only [List.take_succ_cons, List.take_zero, List.drop_succ_cons, List.drop_zero]
        repeat (first
          | (refine walk_quiet rfl rfl rfl ?_; intro K hK; go_big_quiet_op; go_big_quiet_on)
          | (refine walk_any rfl rfl (fun wx _ _ => WpYld.val make24 (YB_mk (bs_lit wx (List.replicate 24 0) _ 24 rfl rfl)) (below_alloc wx _)) (fun vz => ?_); go_frame)
          | (refine walk_is rfl rfl (fun wx hwx hd => WpYld.callIs (run_callL (vals := [s0, vz]) Try.func32 (by kernel_rfl) rfl rfl) (HEQ.out wx hwx vz (YB_got (hd 12 _ _ _ rfl rfl (by kernel_rfl) rfl rfl)))) ?_; go_frame))
        refine walk_nil ?_
        intro wz hbz _
        go_wp2
        go_ret2
        exact ⟨_, by rw [HR.out]; rfl, by rw [HR.out]; exact OwR.nil _ _ _ _ _, hbz⟩
  · have HR := Lib.hid (symRd_form (b := b) (names := names) (.inl (by rw [← HN.out]; exact h0)))
    have hz : ((n : Int) % 24 == 0) = false := by simp; omega
    have hz2 : ((n : Int) % 24 != 0) = true := by simp; omega
    have hz3 : ¬ (16384 : Int) < (n : Int) / 24 - 1 := by omega
    go_enter Try.func69, Try.ntmps69
    go_wp2
    refine wp_region_walk 17 [] (by kernel_rfl) (by kernel_rfl) ?_
    simp only [List.take_succ_cons, List.take_zero, List.drop_succ_cons, List.drop_zero]
    repeat (first
      | (refine walk_quiet rfl rfl rfl ?_; intro K hK; go_big_quiet_op; go_big_quiet_on)
      | (refine walk_skip rfl ?_; go_frame))
    refine walk_nil ?_
    intro wz hbz _
    go_wp2
    go_ret2
    exact ⟨_, by rw [HR.out]; rfl, by rw [HR.out]; exact OwR.nil _ _ _ _ _, hbz⟩
end Go.Proofs.Ytimnbnomaajmmaa
namespace Go.Fd
theorem flat_dropB {α β : Type} {k : Nat} {f : α → List β} (hk : ∀ x, (f x).length = k) : ∀ (l : List α) (i : Nat), (l.flatMap f).drop (k * i) = (l.drop i).flatMap f := by
  intro l
  induction l with
  | nil => intro i; simp
  | cons x l ih =>
    intro i
    cases i with
    | zero => simp
    | succ i =>
      rw [List.flatMap_cons, List.drop_succ_cons, ← ih i, List.drop_append, hk, List.drop_eq_nil_of_le (by rw [hk, Nat.mul_succ]; omega)]
      simp [Nat.mul_succ]
theorem flat_head {α β : Type} {k : Nat} {f : α → List β} (hk : ∀ x, (f x).length = k) {l : List α} {i : Nat} {x : α} (h : l[i]? = some x) : ∃ r, (l.flatMap f).drop (k * i) = f x ++ r := by
  obtain ⟨h1, h2⟩ := List.getElem?_eq_some_iff.1 h
  rw [flat_dropB hk, List.drop_eq_getElem_cons h1, h2, List.flatMap_cons]
  exact ⟨_, rfl⟩
end Go.Fd
namespace Go.Proofs.Ytimnbnomaajmmaa
open Go.RowKit Go.Fd
theorem fixed_get (n : Nat) : ∀ s : Nat, numLE (fixed n s) = n % 256 ^ s := by
  intro s
  induction s generalizing n with
  | zero => simp [fixed, numLE, Nat.mod_one]
  | succ s ih =>
    rw [fixed, numLE, ih]
    have h1 : (UInt8.ofNat n).toNat = n % 256 := by simp
    have h2 : n % 256 ^ (s + 1) = n % 256 + 256 * (n / 256 % 256 ^ s) := by rw [Nat.pow_succ, Nat.mul_comm, Nat.mod_mul]
    rw [h2]
    simp
theorem sym_at {l : List SymM} {ats : List Nat} {k : Nat} {x : SymM} {p : Nat} (hx : l[k]? = some x) (hp : ats[k]? = some p) (hb : symBad x = false) (hpl : p < 4294967296) (hwf : x.value < 18446744073709551616 ∧ x.size < 18446744073709551616) :
    (∀ nm, recS (symsB l ats) (k + 1) nm = { x with name := nm }) ∧ recAt (symsB l ats) (k + 1) = p ∧ rec5 (symsB l ats) (k + 1) = 0 := by
  obtain ⟨r, hr⟩ := flat_head symB_len (show (l.zip ats)[k]? = some (x, p) by rw [List.getElem?_zip_eq_some]; exact ⟨hx, hp⟩)
  have hD : (symsB l ats).drop (24 * (k + 1)) = symB (x, p) ++ r := by
    unfold symsB
    rw [show 24 * (k + 1) = (List.replicate 24 (0 : UInt8)).length + 24 * k by simp; omega, List.drop_length_add_append]
    exact hr
  have hg : ∀ j, (symsB l ats)[24 * (k + 1) + j]? = (symB (x, p) ++ r)[j]? := fun j => by rw [← hD, List.getElem?_drop]
  have hd : ∀ j, (symsB l ats).drop (24 * (k + 1) + j) = (symB (x, p) ++ r).drop j := fun j => by rw [← hD, List.drop_drop]
  have hk : kindB x.bind x.typ = true ∧ 0 ≤ x.sec ∧ x.sec ≤ 65535 := by
    unfold symBad at hb
    simp at hb
    exact ⟨hb.1.1, by omega, by omega⟩
  obtain ⟨k1, k2, k3⟩ := hk
  obtain ⟨q1, q2, q3, q4⟩ := kindB_pos k1
  have hi := info_u8 (s := x) q1 q2 q3 q4
  refine ⟨fun nm => ?_, ?_, ?_⟩
  · unfold recS
    rw [hg, hd, hd, hd]
    have e4 : (symB (x, p) ++ r)[4]?.getD 0 = infoB x := by simp [symB, length_fixed]
    have e6 : ((symB (x, p) ++ r).drop 6).take 2 = fixed (u64of x.sec) 2 := by simp [symB, List.drop_append, List.take_append, length_fixed]
    have e8 : ((symB (x, p) ++ r).drop 8).take 8 = fixed x.value 8 := by simp [symB, List.drop_append, List.take_append, length_fixed]
    have e16 : ((symB (x, p) ++ r).drop 16).take 8 = fixed x.size 8 := by simp [symB, List.drop_append, length_fixed, List.drop_eq_nil_of_le]
    rw [e4, e6, e8, e16, fixed_get, fixed_get, fixed_get]
    have h1 : u64of x.sec % 256 ^ 2 = x.sec.toNat := by rw [u64of_pos k2 (by omega)]; exact Nat.mod_eq_of_lt (by omega)
    rw [h1, Nat.mod_eq_of_lt (show x.value < 256 ^ 8 by simpa using hwf.1), Nat.mod_eq_of_lt (show x.size < 256 ^ 8 by simpa using hwf.2)]
    cases x
    simp only [SymM.mk.injEq, true_and]
    simp only at hi q1 q2 q3 q4 k2 k3
    refine ⟨by omega, by omega, by omega, ?_⟩
    first
      | trivial
      | exact ⟨rfl, rfl⟩
  · unfold recAt
    rw [← Nat.add_zero (24 * (k + 1)), hd]
    have e0 : ((symB (x, p) ++ r).drop 0).take 4 = fixed p 4 := by simp [symB, length_fixed]
    rw [e0, fixed_get]
    exact Nat.mod_eq_of_lt (by omega)
  · unfold rec5
    rw [hg]
    simp [symB, List.getElem?_append, length_fixed]
theorem symW_0 {l : List SymM} (h : (symW l).2.2.2 = 0) : l.any symBad = false ∧ ordB l = true ∧ (buildR (l.map (·.name))).2.2 = 0 ∧ symW l = (symsB l (buildR (l.map (·.name))).2.1, (buildR (l.map (·.name))).1, locs l + 1, 0) := by
  unfold symW at h
  split at h
  · cases h
  · next h1 =>
    split at h
    · cases h
    · next h2 =>
      split at h
      · next h3 => exact ⟨by simpa using h1, by simpa using h2, h3, symW_ok (by simpa using h1) (by simpa using h2) h3⟩
      · next h3 => exact absurd h h3
theorem sym_back {l : List SymM} (h : (symW l).2.2.2 = 0) (hl : l.length ≤ 1000) (hwf : ∀ s ∈ l, s.value < 18446744073709551616 ∧ s.size < 18446744073709551616) : symRd (symW l).1 (symW l).2.1 = (l, 0) := by
  obtain ⟨h1, h2, h3, h4⟩ := symW_0 h
  obtain ⟨a1, a2⟩ := ats_ok h3 (by rw [List.length_map]; exact hl)
  obtain ⟨b1, b2⟩ := build_ok h3
  rw [h4]
  dsimp only
  generalize hA : (buildR (l.map (·.name))).2.1 = ats at *
  generalize hT : (buildR (l.map (·.name))).1 = T at *
  rw [List.length_map] at a1
  have hlen : (symsB l ats).length = 24 * (l.length + 1) := by
    unfold symsB
    rw [List.length_append, List.length_replicate, flat_len' symB_len, List.length_zip]
    omega
  have h24 : (symsB l ats).take 24 = List.replicate 24 0 := by
    unfold symsB
    rw [List.take_append_of_le_length (by simp)]
    rfl
  have hf : ∀ k, k ≤ l.length → foldU (stepSym (symsB l ats) T) k = .ok (l.take k) := by
    intro k
    induction k with
    | zero => intro _; rfl
    | succ k ih =>
      intro hk
      have hx : l[k]? = some l[k] := List.getElem?_eq_getElem (by omega)
      have hp : ats[k]? = some ats[k] := List.getElem?_eq_getElem (by omega)
      generalize l[k] = x at hx
      generalize ats[k] = p at hp
      have hm := List.mem_of_getElem? hx
      have hb : symBad x = false := by simpa using List.any_eq_false.1 h1 x hm
      have hpl := a2 p (List.mem_of_getElem? hp)
      obtain ⟨s1, s2, s3⟩ := sym_at hx hp hb (by omega) (hwf x hm)
      have hkb : kindB x.bind x.typ = true := by
        unfold symBad at hb
        simp at hb
        exact hb.1.1
      have hat : atR T (p : Int) = (x.name, 0) := by
        obtain ⟨p', e1, -, e3, e4⟩ := build_at b1 (i := k) (s := x.name) (by rw [List.getElem?_map, hx]; rfl)
        rw [b2] at hA hT
        dsimp only at hA hT
        rw [hA, hp] at e1
        cases e1
        rw [hT] at e3
        exact at_place e3 e4
      have hord : ordL (l.take k) x = true := by
        unfold ordL
        by_cases hx0 : x.bind = 0
        · cases hg : (l.take k).getLast? with
          | none => simp
          | some y =>
            rw [List.getLast?_eq_getElem?, List.getElem?_take] at hg
            split at hg
            · have hlt : (l.take k).length - 1 < k := by assumption
              rw [List.length_take, Nat.min_eq_left (by omega)] at hg hlt
              have := ordB_get h2 (i := k - 1) hg (b := x) (by rw [show k - 1 + 1 = k by omega]; exact hx) hx0
              simp [this]
            · cases hg
        · simp [hx0]
      refine foldU_ok (ih (by omega)) ?_
      rw [step_sym (by rw [s1, s3]; simp [hkb]) (by rw [s1]; exact hord) (by rw [s2, hat]), s2, hat, s1, List.take_add_one, hx]
      rfl
  have := hf l.length (Nat.le_refl _)
  rw [List.take_length] at this
  exact symRd_ok (by rw [hlen]; rintro (e | e | e); omega; omega; exact e h24) (by rw [hlen]; omega) this
theorem rela_at {l : List RelaM} {k : Nat} {x : RelaM} (hx : l[k]? = some x) (hb : relaBad x = false) (hw : x.off < 18446744073709551616) (ha : -9223372036854775808 ≤ x.add ∧ x.add < 9223372036854775808) : recR (l.flatMap relaB) k = x := by
  obtain ⟨r, hr⟩ := flat_head relaB_len hx
  have hd : ∀ j, (l.flatMap relaB).drop (24 * k + j) = (relaB x ++ r).drop j := fun j => by rw [← hr, List.drop_drop]
  have hk : 0 ≤ x.typ ∧ x.typ ≤ 4294967295 ∧ 0 ≤ x.sym ∧ x.sym ≤ 2147483647 := by
    unfold relaBad at hb
    simp at hb
    omega
  obtain ⟨k1, k2, k3, k4⟩ := hk
  unfold recR
  rw [hr, hd, hd, hd]
  have e0 : (relaB x ++ r).take 8 = fixed x.off 8 := by simp [relaB, length_fixed]
  have e8 : ((relaB x ++ r).drop 8).take 4 = fixed (u64of x.typ) 4 := by simp [relaB, length_fixed]
  have e12 : ((relaB x ++ r).drop 12).take 4 = fixed (u64of x.sym) 4 := by simp [relaB, List.drop_append, List.take_append, length_fixed]
  have e16 : ((relaB x ++ r).drop 16).take 8 = fixed (u64of x.add) 8 := by simp [relaB, List.drop_append, length_fixed, List.drop_eq_nil_of_le]
  rw [e0, e8, e12, e16, fixed_get, fixed_get, fixed_get, fixed_get]
  have h1 : u64of x.typ % 256 ^ 4 = x.typ.toNat := by rw [u64of_pos k1 (by omega)]; exact Nat.mod_eq_of_lt (by omega)
  have h2 : u64of x.sym % 256 ^ 4 = x.sym.toNat := by rw [u64of_pos k3 (by omega)]; exact Nat.mod_eq_of_lt (by omega)
  have h3 : u64of x.add % 256 ^ 8 = u64of x.add := Nat.mod_eq_of_lt (by have := u64of_lt x.add; simpa using this)
  rw [h1, h2, h3, Nat.mod_eq_of_lt (show x.off < 256 ^ 8 by simpa using hw)]
  cases x
  simp only [RelaM.mk.injEq]
  simp only at k1 k2 k3 k4 ha
  refine ⟨trivial, by omega, by omega, ?_⟩
  unfold wrap64 u64of
  omega
theorem rela_back {l : List RelaM} (h : (relaW l).2 = 0) (hwf : ∀ x ∈ l, x.off < 18446744073709551616 ∧ -9223372036854775808 ≤ x.add ∧ x.add < 9223372036854775808) : relaRd (relaW l).1 = (l, 0) := by
  unfold relaW at h ⊢
  split at h
  · cases h
  · next h1 =>
    rw [if_neg h1]
    have h1' : l.any relaBad = false := by simpa using h1
    have hlen := rela_len l
    have hf : ∀ k, k ≤ l.length → foldU (stepRela (l.flatMap relaB)) k = .ok (l.take k) := by
      intro k
      induction k with
      | zero => intro _; rfl
      | succ k ih =>
        intro hk
        have hx : l[k]? = some l[k] := List.getElem?_eq_getElem (by omega)
        generalize l[k] = x at hx
        have hm := List.mem_of_getElem? hx
        have hb : relaBad x = false := by simpa using List.any_eq_false.1 h1' x hm
        have hr := rela_at hx hb (hwf x hm).1 (hwf x hm).2
        rw [relaRd_step (ih (by omega)) (by rw [hr]; unfold relaBad at hb; simp at hb; omega), hr, List.take_add_one, hx]
        rfl
    have := hf l.length (Nat.le_refl _)
    rw [List.take_length] at this
    exact relaRd_ok (by rw [hlen]; omega) (by rw [hlen]; omega) this
theorem relaRd_len (b : List UInt8) : (relaRd b).1.length ≤ b.length / 24 := by
  unfold relaRd
  split
  · split
    · next L hL => rw [foldRela_len b _ _ hL]; exact Nat.le_refl _
    · simp
  · simp
end Go.Proofs.Ytimnbnomaajmmaa
namespace Go.Fd
structure SecM where
  name : List UInt8
  typ : Nat
  flags : Nat
  addr : Nat
  align : Nat
  size : Nat
  link : Nat
  info : Nat
  ent : Nat
  data : List UInt8
deriving DecidableEq
structure SegM where
  typ : Nat
  flags : Nat
  off : Nat
  vaddr : Nat
  filesz : Nat
  memsz : Nat
  align : Nat
deriving DecidableEq
structure ElfM where
  typ : Int
  target : Int
  flags : Nat
  entry : Nat
  secs : List SecM
  segs : List SegM
deriving DecidableEq
abbrev encSec (p : SecM × Value) : List Value := [.string ⟨p.1.name.toArray⟩, .int .u32 (p.1.typ : Int), .int .u64 (p.1.flags : Int), .int .u64 (p.1.addr : Int), .int .u64 (p.1.align : Int), .int .u64 (p.1.size : Int), .int .u32 (p.1.link : Int), .int .u32 (p.1.info : Int), .int .u64 (p.1.ent : Int), p.2]
abbrev encSeg (s : SegM) : List Value := [.int .u32 (s.typ : Int), .int .u32 (s.flags : Int), .int .u64 (s.off : Int), .int .u64 (s.vaddr : Int), .int .u64 (s.filesz : Int), .int .u64 (s.memsz : Int), .int .u64 (s.align : Int)]
/-- What a section's, a segment's, a file's numbers are at most. -/
def SecM.fits (s : SecM) : Prop := s.typ < 4294967296 ∧ s.flags < 18446744073709551616 ∧ s.addr < 18446744073709551616 ∧ s.align < 18446744073709551616 ∧ s.size < 18446744073709551616 ∧ s.link < 4294967296 ∧ s.info < 4294967296 ∧ s.ent < 18446744073709551616
def SegM.fits (s : SegM) : Prop := s.typ < 4294967296 ∧ s.flags < 4294967296 ∧ s.off < 18446744073709551616 ∧ s.vaddr < 18446744073709551616 ∧ s.filesz < 18446744073709551616 ∧ s.memsz < 18446744073709551616 ∧ s.align < 18446744073709551616
structure ElfM.fits (e : ElfM) : Prop where
  typ : -9223372036854775808 ≤ e.typ ∧ e.typ < 9223372036854775808
  target : -9223372036854775808 ≤ e.target ∧ e.target < 9223372036854775808
  flags : e.flags < 4294967296
  entry : e.entry < 18446744073709551616
  secs : ∀ s ∈ e.secs, s.fits
  segs : ∀ s ∈ e.segs, s.fits
/-- A power of 2 up to the greatest? -/
def powB (n : Nat) : Bool := decide (1 ≤ n) && decide (n ≤ 65536) && decide (n &&& (n - 1) = 0)
theorem powB_le {n : Nat} (h : powB n = true) : 1 ≤ n ∧ n ≤ 65536 := by
  unfold powB at h; simp at h; omega
/-- A target's number. -/
def mach (t : Int) : Nat := if t = 1 then 62 else if t = 2 then 183 else if t = 3 then 243 else 0
theorem mach_le (t : Int) : mach t ≤ 243 := by
  unfold mach
  split
  · omega
  · split
    · omega
    · split <;> omega
/-- May a section be, but for its name's letters? -/
def fineB (s : SecM) : Bool := !decide (s.typ = 0) && powB s.align && !decide (s.name = []) && (if s.typ = 8 then decide (s.data.length = 0) && decide (s.size ≤ 1073741824) else decide (s.size = s.data.length))
def upN (n a : Nat) : Nat := (n + a - 1) / a * a
theorem upN_le {n a : Nat} (h : 1 ≤ a) : n ≤ upN n a ∧ upN n a < n + a := by
  unfold upN
  have h1 := Nat.div_add_mod (n + a - 1) a
  have h2 := Nat.mod_lt (n + a - 1) (by omega : a > 0)
  rw [Nat.mul_comm] at h1
  omega
/-- Where a section begins, from the end of what is ahead on; g: are there segments? -/
def placeS (g : Bool) (p : Nat) (s : SecM) : Nat :=
  if s.typ = 8 then p else if (g && decide (s.flags &&& 2 ≠ 0)) = true then p + (s.addr + 18446744073709551616 - p) % 18446744073709551616 % 4096 else upN p s.align
def plStep (g : Bool) (p : List Nat × Nat) (s : SecM) : List Nat × Nat := (p.1 ++ [placeS g p.2 s], placeS g p.2 s + s.data.length)
/-- All places, and the end. -/
def plF (g : Bool) (n : Nat) (l : List SecM) : List Nat × Nat := l.foldl (plStep g) ([], n)
theorem plF_step {g : Bool} {n : Nat} {l : List SecM} {k : Nat} {x : SecM} (h : l[k]? = some x) : plF g n (l.take (k + 1)) = plStep g (plF g n (l.take k)) x := by
  rw [List.take_add_one, h]
  unfold plF
  rw [List.foldl_append]
  rfl
theorem plF_len {g : Bool} {n : Nat} (l : List SecM) : (plF g n l).1.length = l.length := by
  have : ∀ k, k ≤ l.length → (plF g n (l.take k)).1.length = k := by
    intro k
    induction k with
    | zero => intro _; rfl
    | succ k ih =>
      intro hk
      rw [plF_step (List.getElem?_eq_getElem (by omega : k < l.length))]
      simp [plStep, ih (by omega)]
  have h := this l.length (Nat.le_refl _)
  rwa [List.take_length] at h
def dsum (l : List SecM) : Nat := (l.map (·.data.length)).sum
theorem dsum_step {l : List SecM} {k : Nat} {x : SecM} (h : l[k]? = some x) : dsum (l.take (k + 1)) = dsum (l.take k) + x.data.length := by
  rw [List.take_add_one, h]
  unfold dsum
  simp
theorem dsum_take (l : List SecM) (k : Nat) : dsum (l.take k) ≤ dsum l := by
  unfold dsum
  rw [show (l.map (·.data.length)).sum = ((l.take k ++ l.drop k).map (·.data.length)).sum by rw [List.take_append_drop], List.map_append, List.sum_append]
  omega
theorem dsum_mem {l : List SecM} {s : SecM} (h : s ∈ l) : s.data.length ≤ dsum l := by
  obtain ⟨k, hk⟩ := List.mem_iff_getElem?.1 h
  have h1 := dsum_step hk
  have h2 := dsum_take l (k + 1)
  omega
theorem placeS_le {g : Bool} {p : Nat} {s : SecM} (h : powB s.align = true) : p ≤ placeS g p s ∧ placeS g p s ≤ p + 65536 := by
  have ha := powB_le h
  unfold placeS
  split
  · omega
  · split
    · omega
    · have := upN_le (n := p) ha.1
      omega
theorem plF_le {g : Bool} {n : Nat} {l : List SecM} (h : ∀ s ∈ l, powB s.align = true) : n ≤ (plF g n l).2 ∧ (plF g n l).2 ≤ n + 65536 * l.length + dsum l ∧ ∀ p ∈ (plF g n l).1, n ≤ p ∧ p ≤ n + 65536 * l.length + dsum l := by
  have : ∀ k, k ≤ l.length → n ≤ (plF g n (l.take k)).2 ∧ (plF g n (l.take k)).2 ≤ n + 65536 * k + dsum (l.take k) ∧ ∀ p ∈ (plF g n (l.take k)).1, n ≤ p ∧ p ≤ n + 65536 * k + dsum (l.take k) := by
    intro k
    induction k with
    | zero => intro _; simp [plF]
    | succ k ih =>
      intro hk
      have hx : l[k]? = some l[k] := List.getElem?_eq_getElem (by omega)
      obtain ⟨h1, h2, h3⟩ := ih (by omega)
      rw [plF_step hx, dsum_step hx]
      have h4 := placeS_le (g := g) (p := (plF g n (l.take k)).2) (h _ (List.mem_of_getElem? hx))
      refine ⟨by show _ ≤ placeS _ _ _ + _; omega, by show placeS _ _ _ + _ ≤ _; omega, fun p hp => ?_⟩
      simp only [plStep, List.mem_append, List.mem_singleton] at hp
      rcases hp with hp | rfl
      · have := h3 p hp; omega
      · omega
  have h := this l.length (Nat.le_refl _)
  rwa [List.take_length] at h
end Go.Fd
namespace Go.Proofs.Ytimnbnomaajmmaa
open Go.RowKit Go.Fd
def tabName : List UInt8 := [46, 115, 104, 115, 116, 114, 116, 97, 98]
/-- The names of all sections, and the table's own. -/
def namesOf (l : List SecM) : List (List UInt8) := l.map (·.name) ++ [tabName]
def tabOf (e : ElfM) : List UInt8 := (buildR (namesOf e.secs)).1
def segsB (e : ElfM) : Bool := decide (0 < e.segs.length)
def front (e : ElfM) : Nat := 64 + 56 * e.segs.length
def placesOf (e : ElfM) : List Nat × Nat := plF (segsB e) (front e) e.secs
def headsOf (e : ElfM) (t : Nat) : Nat := upN ((placesOf e).2 + t) 8
/-- May a file be, up to its names and its length? -/
def may1 (e : ElfM) : Bool := (decide (e.typ = 1) || decide (e.typ = 2)) && !decide (mach e.target = 0) && decide (e.secs.length ≤ 250) && decide (e.segs.length ≤ 16)
def may2 (e : ElfM) : Bool := e.secs.all (fun s => fineB s && decide (s.data.length ≤ 4194304)) && e.segs.all fun s => powB s.align
def may3 (e : ElfM) : Bool := decide ((buildR (namesOf e.secs)).2.2 = 0) && decide (headsOf e (tabOf e).length + 64 * (e.secs.length + 2) ≤ 4194304)
def mayE (e : ElfM) : Bool := may1 e && may2 e && may3 e
end Go.Proofs.Ytimnbnomaajmmaa
namespace Go.Fd
open Go.RowKit
section
variable {P : Program} {ops : Array Oper} {rest : List Oper} {Q : Exit → Act → World → Prop} {a : Act} {w : World}
/-- A struct into a block of its own. -/
theorem wpList_box {d : Option Tmp} {ty t : TypeId} {pos : String} {aft : Array Edge} {x : Operand} {c : Array Value} (hx : a.eval x = .agg c)
    (h : ∀ w1, w1.heap[w.heap.size]? = some (.cells c t (0, 0)) → Below w.heap.size w w1 → w.heap.size < w1.heap.size → wpList P ops Q rest (a.put d (.pointer (some ⟨w.heap.size, 0, none⟩))) w1) :
    wpList P ops Q (⟨d, .box t x, ty, pos, aft, none⟩ :: rest) a w := by
  refine wpList_val (w' := w.alloc (.cells c t)) (v := .pointer (some ⟨w.heap.size, 0, none⟩)) rfl ?_ (h (w.alloc (.cells c t)) (heap_alloc_last w _) (below_alloc w _) (by rw [World.size_alloc]; omega))
  simp only [execOp, hx]
  rfl
/-- A block that was there stays. -/
theorem heap_below {w w' : World} {b : Nat} {o : Obj} (h : Below w.heap.size w w') (hb : w.heap[b]? = some o) : w'.heap[b]? = some o := by
  rw [h.block b (Array.getElem?_eq_some_iff.1 hb).1]; exact hb
end
end Go.Fd
namespace Go.Proofs.Ytimnbnomaajmmaa
open Go.RowKit Go.Fd
set_option maxRecDepth 100000 in
theorem machine_any (t : Int) (w : World) : Calls Try.prog 65 #[.int .i64 t] w fun e w' => e = .returned (.int .u64 (mach t)) ∧ w = w' := by
  by_cases h1 : t = 1
  · subst h1
    go_enter Try.func65, Try.ntmps65
    go_wp2
    go_ret
    exact ⟨rfl, rfl⟩
  by_cases h2 : t = 2
  · subst h2
    go_enter Try.func65, Try.ntmps65
    go_wp2
    go_ret
    exact ⟨rfl, rfl⟩
  by_cases h3 : t = 3
  · subst h3
    go_enter Try.func65, Try.ntmps65
    go_wp2
    go_ret
    exact ⟨rfl, rfl⟩
  · have HR := Lib.hid (show mach t = 0 by unfold mach; rw [if_neg h1, if_neg h2, if_neg h3])
    have e1 : (t == 1) = false := by simpa using h1
    have e2 : (t == 2) = false := by simpa using h2
    have e3 : (t == 3) = false := by simpa using h3
    clear h1 h2 h3
    go_enter Try.func65, Try.ntmps65
    go_wp2
    go_ret
    exact ⟨by rw [HR.out]; rfl, rfl⟩
theorem and_self1 {n : Nat} (h : 1 ≤ n) (h2 : n ≤ 65536) : (bits .and .u64 (n : Int) ((n : Int) - 1) == 0) = powB n := by
  have e : (n : Int) - 1 = ((n - 1 : Nat) : Int) := by omega
  rw [e, bits_and_u64_nat n (n - 1) (by omega) (by omega)]
  unfold powB
  rw [Bool.eq_iff_iff]
  simp only [beq_iff_eq, Bool.and_eq_true, decide_eq_true_eq]
  omega
set_option maxRecDepth 100000 in
theorem power_any (n : Nat) (w : World) (hn : n < 18446744073709551616) : Calls Try.prog 80 #[.int .u64 n] w fun e w' => e = .returned (.bool (powB n)) ∧ w = w' := by
  by_cases h1 : 1 ≤ n ∧ n ≤ 65536
  · obtain ⟨h1, h2⟩ := h1
    have HR := Lib.hid (and_self1 h1 h2)
    go_enter Try.func80, Try.ntmps80
    go_wp2
    go_ret
    exact ⟨by rw [HR.out]; rfl, rfl⟩
  · have HR := Lib.hid (show powB n = false by
      rw [Bool.eq_false_iff]
      intro h
      have := powB_le h
      omega)
    rcases Nat.eq_zero_or_pos n with rfl | hp
    · go_enter Try.func80, Try.ntmps80
      go_wp2
      go_ret
      exact ⟨by rw [HR.out]; rfl, rfl⟩
    · have h3 : 1 ≤ n := hp
      have h4 : ¬ n ≤ 65536 := by omega
      have HX := Lib.hid hn
      clear h1 hn hp
      go_enter Try.func80, Try.ntmps80
      go_wp2
      go_ret
      exact ⟨by rw [HR.out]; rfl, rfl⟩
theorem up_cast {n a : Nat} (hn : n ≤ 1000000000000) (h : 1 ≤ a) (h2 : a ≤ 65536) : wrap64 (((n : Int) + a - 1) / a * a) = ((upN n a : Nat) : Int) := by
  have e : (n : Int) + a - 1 = ((n + a - 1 : Nat) : Int) := by omega
  have hl := upN_le (n := n) h
  rw [e, ← Int.natCast_ediv, ← Int.natCast_mul]
  show wrap64 ((upN n a : Nat) : Int) = _
  generalize upN n a = u at *
  unfold wrap64
  omega
set_option maxRecDepth 100000 in
theorem up_any (n a : Nat) (w : World) (hn : n ≤ 1000000000000) (ha : 1 ≤ a) (ha2 : a ≤ 65536) : Calls Try.prog 81 #[.int .i64 n, .int .u64 a] w fun e w' => e = .returned (.int .i64 (upN n a)) ∧ w = w' := by
  have HU := Lib.hid (up_cast hn ha ha2)
  go_enter Try.func81, Try.ntmps81
  go_wp2
  go_ret
  exact ⟨by rw [← HU.out]; rfl, rfl⟩
end Go.Proofs.Ytimnbnomaajmmaa
namespace Go.Fd
open Go.RowKit
/-- A file by value: its numbers, its sections' and its segments' slices. -/
abbrev elfV (e : ElfM) (sv gv : Value) : Value := .agg #[.int .i64 e.typ, .int .i64 e.target, .int .u32 (e.flags : Int), .int .u64 (e.entry : Int), sv, gv]
abbrev secV (p : SecM × Value) : Value := .agg #[.string ⟨p.1.name.toArray⟩, .int .u32 (p.1.typ : Int), .int .u64 (p.1.flags : Int), .int .u64 (p.1.addr : Int), .int .u64 (p.1.align : Int), .int .u64 (p.1.size : Int), .int .u32 (p.1.link : Int), .int .u32 (p.1.info : Int), .int .u64 (p.1.ent : Int), p.2]
theorem sec_cells {w wr : World} {a : Option Addr} {L : List (SecM × Value)} {x : SecM × Value} {k : Nat}
    (hc : ∀ i x, L[i]? = some x → 0 < 10 → ∃ b off, a = some ⟨b, off, none⟩ ∧ ∀ c, c < 10 → w.cell? ⟨b, off + (i * 10 + c), none⟩ = (encSec x)[c]?) (hb : Below w.heap.size w wr) (hk : L[k]? = some x) :
    ∃ b o, a = some ⟨b, o, none⟩ ∧ wr.cell? ⟨b, o + k * 10, none⟩ = some (.string ⟨x.1.name.toArray⟩) ∧ wr.cell? ⟨b, o + k * 10 + 1, none⟩ = some (.int .u32 (x.1.typ : Int)) ∧ wr.cell? ⟨b, o + k * 10 + 2, none⟩ = some (.int .u64 (x.1.flags : Int)) ∧ wr.cell? ⟨b, o + k * 10 + 3, none⟩ = some (.int .u64 (x.1.addr : Int)) ∧ wr.cell? ⟨b, o + k * 10 + 4, none⟩ = some (.int .u64 (x.1.align : Int)) ∧ wr.cell? ⟨b, o + k * 10 + 5, none⟩ = some (.int .u64 (x.1.size : Int)) ∧ wr.cell? ⟨b, o + k * 10 + 6, none⟩ = some (.int .u32 (x.1.link : Int)) ∧ wr.cell? ⟨b, o + k * 10 + 7, none⟩ = some (.int .u32 (x.1.info : Int)) ∧ wr.cell? ⟨b, o + k * 10 + 8, none⟩ = some (.int .u64 (x.1.ent : Int)) ∧ wr.cell? ⟨b, o + k * 10 + 9, none⟩ = some x.2 ∧ b < w.heap.size := by
  obtain ⟨b, o, ha, hcc⟩ := hc k x hk (by decide)
  have hd : ∀ c v, (encSec x)[c]? = some v → wr.cell? ⟨b, o + k * 10 + c, none⟩ = some v := fun c v h => by
    have h10 : c < 10 := (List.getElem?_eq_some_iff.1 h).1
    have := (hcc c h10).trans h
    rw [← Nat.add_assoc] at this
    exact (hb.cell (block_lt this)).trans this
  have h0 : b < w.heap.size := block_lt ((hcc 0 (by decide)).trans rfl)
  exact ⟨b, o, ha, hd 0 _ rfl, hd 1 _ rfl, hd 2 _ rfl, hd 3 _ rfl, hd 4 _ rfl, hd 5 _ rfl, hd 6 _ rfl, hd 7 _ rfl, hd 8 _ rfl, hd 9 _ rfl, h0⟩
theorem seg_cells {w wr : World} {a : Option Addr} {L : List SegM} {x : SegM} {k : Nat}
    (hc : ∀ i x, L[i]? = some x → 0 < 7 → ∃ b off, a = some ⟨b, off, none⟩ ∧ ∀ c, c < 7 → w.cell? ⟨b, off + (i * 7 + c), none⟩ = (encSeg x)[c]?) (hb : Below w.heap.size w wr) (hk : L[k]? = some x) :
    ∃ b o, a = some ⟨b, o, none⟩ ∧ wr.cell? ⟨b, o + k * 7, none⟩ = some (.int .u32 (x.typ : Int)) ∧ wr.cell? ⟨b, o + k * 7 + 1, none⟩ = some (.int .u32 (x.flags : Int)) ∧ wr.cell? ⟨b, o + k * 7 + 2, none⟩ = some (.int .u64 (x.off : Int)) ∧ wr.cell? ⟨b, o + k * 7 + 3, none⟩ = some (.int .u64 (x.vaddr : Int)) ∧ wr.cell? ⟨b, o + k * 7 + 4, none⟩ = some (.int .u64 (x.filesz : Int)) ∧ wr.cell? ⟨b, o + k * 7 + 5, none⟩ = some (.int .u64 (x.memsz : Int)) ∧ wr.cell? ⟨b, o + k * 7 + 6, none⟩ = some (.int .u64 (x.align : Int)) ∧ b < w.heap.size := by
  obtain ⟨b, o, ha, hcc⟩ := hc k x hk (by decide)
  have hd : ∀ c v, (encSeg x)[c]? = some v → wr.cell? ⟨b, o + k * 7 + c, none⟩ = some v := fun c v h => by
    have h10 : c < 7 := (List.getElem?_eq_some_iff.1 h).1
    have := (hcc c h10).trans h
    rw [← Nat.add_assoc] at this
    exact (hb.cell (block_lt this)).trans this
  have h0 : b < w.heap.size := block_lt ((hcc 0 (by decide)).trans rfl)
  exact ⟨b, o, ha, hd 0 _ rfl, hd 1 _ rfl, hd 2 _ rfl, hd 3 _ rfl, hd 4 _ rfl, hd 5 _ rfl, hd 6 _ rfl, h0⟩
/-- A file's cells in a block of its own. -/
theorem elf_box {w : World} {g : Nat} {e : ElfM} {sv gv : Value} {t : TypeId} {fr : Nat × Nat} (h : w.heap[g]? = some (.cells #[.int .i64 e.typ, .int .i64 e.target, .int .u32 (e.flags : Int), .int .u64 (e.entry : Int), sv, gv] t fr)) :
    w.cell? ⟨g, 0, none⟩ = some (.int .i64 e.typ) ∧ w.cell? ⟨g, 1, none⟩ = some (.int .i64 e.target) ∧ w.cell? ⟨g, 2, none⟩ = some (.int .u32 (e.flags : Int)) ∧ w.cell? ⟨g, 3, none⟩ = some (.int .u64 (e.entry : Int)) ∧ w.cell? ⟨g, 4, none⟩ = some sv ∧ w.cell? ⟨g, 5, none⟩ = some gv :=
  ⟨cell_rec h 0, cell_rec h 1, cell_rec h 2, cell_rec h 3, cell_rec h 4, cell_rec h 5⟩
theorem sec_box {w : World} {g : Nat} {x : SecM × Value} {t : TypeId} {fr : Nat × Nat} (h : w.heap[g]? = some (.cells #[.string ⟨x.1.name.toArray⟩, .int .u32 (x.1.typ : Int), .int .u64 (x.1.flags : Int), .int .u64 (x.1.addr : Int), .int .u64 (x.1.align : Int), .int .u64 (x.1.size : Int), .int .u32 (x.1.link : Int), .int .u32 (x.1.info : Int), .int .u64 (x.1.ent : Int), x.2] t fr)) :
    w.cell? ⟨g, 0, none⟩ = some (.string ⟨x.1.name.toArray⟩) ∧ w.cell? ⟨g, 1, none⟩ = some (.int .u32 (x.1.typ : Int)) ∧ w.cell? ⟨g, 2, none⟩ = some (.int .u64 (x.1.flags : Int)) ∧ w.cell? ⟨g, 3, none⟩ = some (.int .u64 (x.1.addr : Int)) ∧ w.cell? ⟨g, 4, none⟩ = some (.int .u64 (x.1.align : Int)) ∧ w.cell? ⟨g, 5, none⟩ = some (.int .u64 (x.1.size : Int)) ∧ w.cell? ⟨g, 6, none⟩ = some (.int .u32 (x.1.link : Int)) ∧ w.cell? ⟨g, 7, none⟩ = some (.int .u32 (x.1.info : Int)) ∧ w.cell? ⟨g, 8, none⟩ = some (.int .u64 (x.1.ent : Int)) ∧ w.cell? ⟨g, 9, none⟩ = some x.2 :=
  ⟨cell_rec h 0, cell_rec h 1, cell_rec h 2, cell_rec h 3, cell_rec h 4, cell_rec h 5, cell_rec h 6, cell_rec h 7, cell_rec h 8, cell_rec h 9⟩
end Go.Fd
namespace Go.Proofs.Ytimnbnomaajmmaa
open Go.RowKit Go.Fd
/-- What memory holds of a file. -/
structure ElfAt (w : World) (e : ElfM) (L : List (SecM × Value)) (sv gv : Value) : Prop where
  secs : e.secs = L.map (·.1)
  rd : RdR 10 encSec w sv L
  data : ∀ p ∈ L, Bs w p.2 p.1.data
  segs : RdR 7 encSeg w gv e.segs
theorem ElfAt.mono {w w' : World} {e : ElfM} {L : List (SecM × Value)} {sv gv : Value} (h : ElfAt w e L sv gv) (hb : Below w.heap.size w w') : ElfAt w' e L sv gv :=
  ⟨h.secs, h.rd.mono hb, fun p hp => (h.data p hp).mono hb, h.segs.mono hb⟩
set_option maxRecDepth 100000 in
theorem fine_any (s : SecM) (dv : Value) (w : World) (hd : Bs w dv s.data) (hf : s.fits) (hcm : s.data.length ≤ 9223372036854775807) :
    Calls Try.prog 79 #[secV (s, dv)] w fun e w' => e = .returned (.bool (fineB s)) ∧ Below w.heap.size w w' := by
  have HF := Lib.hid hf
  obtain ⟨m, a, cap, hm, rfl, hmc, _⟩ := hd.shape
  have HP := Lib.hid (fun w => power_any s.align w hf.2.2.2.1)
  obtain ⟨name, typ, flags, addr, align, size, link, info, ent, data⟩ := s
  dsimp only at *
  clear hd hf
  rw [← hm.out] at hcm
  have HB : Hid (fineB ⟨name, typ, flags, addr, align, size, link, info, ent, data⟩ = (!decide (typ = 0) && powB align && !decide (name = []) && (if typ = 8 then decide (m = 0) && decide (size ≤ 1073741824) else decide (size = m)))) := by
    have := hm.out
    unfold fineB
    dsimp only
    rw [← this]
    rfl
  generalize fineB ⟨name, typ, flags, addr, align, size, link, info, ent, data⟩ = q at *
  generalize powB align = pb at *
  by_cases h0 : typ = 0
  · have h0' : ((typ : Int) == 0) = true := by simpa using h0
    have HR := Lib.hid (show q = false by rw [HB.out]; simp [h0])
    clear h0 HB
    go_enter Try.func79, Try.ntmps79
    go_wp2_with (first
      | ((with_reducible show wpList _ _ _ (⟨_, .box _ _, _, _, _, _⟩ :: _) _ _); go_must (refine wpList_box rfl ?_; intro w1 hx1 hb1 hs1; obtain ⟨c0, c1, c2, c3, c4, c5, c6, c7, c8, c9⟩ := sec_box (x := (⟨name, typ, flags, addr, align, size, link, info, ent, data⟩, .slice a m cap)) hx1)))
    go_ret
    exact ⟨by rw [HR.out]; rfl, hb1⟩
  have h0' : ((typ : Int) == 0) = false := by simpa using h0
  cases pb with
  | false =>
    have HR := Lib.hid (show q = false by rw [HB.out]; simp)
    have HX := Lib.hid h0
    clear h0 HB
    go_enter Try.func79, Try.ntmps79
    go_wp2_with (first
      | ((with_reducible show wpList _ _ _ (⟨_, .box _ _, _, _, _, _⟩ :: _) _ _); go_must (refine wpList_box rfl ?_; intro w1 hx1 hb1 hs1; obtain ⟨c0, c1, c2, c3, c4, c5, c6, c7, c8, c9⟩ := sec_box (x := (⟨name, typ, flags, addr, align, size, link, info, ent, data⟩, .slice a m cap)) hx1))
      | (go_at_call 80; refine (HP.out _).mono ?_; rintro e w2 ⟨rfl, rfl⟩))
    go_ret
    exact ⟨by rw [HR.out]; rfl, hb1⟩
  | true =>
    by_cases hn : name = []
    · have HR := Lib.hid (show q = false by rw [HB.out]; simp [hn])
      have hne : name.isEmpty = true := by simp [hn]
      have HX := Lib.hid h0
      have HX2 := Lib.hid hn
      clear h0 HB hn
      go_enter Try.func79, Try.ntmps79
      go_wp2_with (first
        | ((with_reducible show wpList _ _ _ (⟨_, .box _ _, _, _, _, _⟩ :: _) _ _); go_must (refine wpList_box rfl ?_; intro w1 hx1 hb1 hs1; obtain ⟨c0, c1, c2, c3, c4, c5, c6, c7, c8, c9⟩ := sec_box (x := (⟨name, typ, flags, addr, align, size, link, info, ent, data⟩, .slice a m cap)) hx1))
        | (go_at_call 80; refine (HP.out _).mono ?_; rintro e w2 ⟨rfl, rfl⟩))
      go_ret
      exact ⟨by rw [HR.out]; rfl, hb1⟩
    have hne : name.isEmpty = false := by simpa using hn
    have HQ : Hid (q = if typ = 8 then decide (m = 0) && decide (size ≤ 1073741824) else decide (size = m)) := by rw [HB.out, decide_eq_false h0, decide_eq_false hn]; rfl
    have HX := Lib.hid h0
    have HX2 := Lib.hid hn
    have hm0 : m ≤ 9223372036854775807 := hcm
    clear h0 HB hn
    by_cases h8 : typ = 8
    · have h8' : ((typ : Int) == 8) = true := by rw [beq_iff_eq]; omega
      by_cases hm0 : m = 0
      · have hm1 : ((m : Int) == 0) = true := by simpa using hm0
        have HR := Lib.hid (show q = decide ((size : Int) ≤ 1073741824) by rw [HQ.out]; simp [h8, hm0]; omega)
        have HX8 := Lib.hid h8
        have HXm := Lib.hid hm0
        clear h8 hm0 HQ
        go_enter Try.func79, Try.ntmps79
        go_wp2_with (first
          | ((with_reducible show wpList _ _ _ (⟨_, .box _ _, _, _, _, _⟩ :: _) _ _); go_must (refine wpList_box rfl ?_; intro w1 hx1 hb1 hs1; obtain ⟨c0, c1, c2, c3, c4, c5, c6, c7, c8, c9⟩ := sec_box (x := (⟨name, typ, flags, addr, align, size, link, info, ent, data⟩, .slice a m cap)) hx1))
          | (go_at_call 80; refine (HP.out _).mono ?_; rintro e w2 ⟨rfl, rfl⟩))
        go_ret
        exact ⟨by rw [HR.out]; rfl, hb1⟩
      · have hm1 : ((m : Int) == 0) = false := by simpa using hm0
        have HR := Lib.hid (show q = false by rw [HQ.out]; simp [h8, hm0])
        have HX8 := Lib.hid h8
        have HXm := Lib.hid hm0
        clear h8 hm0 HQ
        go_enter Try.func79, Try.ntmps79
        go_wp2_with (first
          | ((with_reducible show wpList _ _ _ (⟨_, .box _ _, _, _, _, _⟩ :: _) _ _); go_must (refine wpList_box rfl ?_; intro w1 hx1 hb1 hs1; obtain ⟨c0, c1, c2, c3, c4, c5, c6, c7, c8, c9⟩ := sec_box (x := (⟨name, typ, flags, addr, align, size, link, info, ent, data⟩, .slice a m cap)) hx1))
          | (go_at_call 80; refine (HP.out _).mono ?_; rintro e w2 ⟨rfl, rfl⟩))
        go_ret
        exact ⟨by rw [HR.out]; rfl, hb1⟩
    · have h8' : ((typ : Int) == 8) = false := by rw [beq_eq_false_iff_ne]; omega
      have HR := Lib.hid (show q = ((size : Int) == (m : Int)) by rw [HQ.out, if_neg h8, Bool.eq_iff_iff, beq_iff_eq, decide_eq_true_iff]; omega)
      have HX8 := Lib.hid h8
      clear h8 HQ
      go_enter Try.func79, Try.ntmps79
      go_wp2_with (first
        | ((with_reducible show wpList _ _ _ (⟨_, .box _ _, _, _, _, _⟩ :: _) _ _); go_must (refine wpList_box rfl ?_; intro w1 hx1 hb1 hs1; obtain ⟨c0, c1, c2, c3, c4, c5, c6, c7, c8, c9⟩ := sec_box (x := (⟨name, typ, flags, addr, align, size, link, info, ent, data⟩, .slice a m cap)) hx1))
        | (go_at_call 80; refine (HP.out _).mono ?_; rintro e w2 ⟨rfl, rfl⟩))
      go_ret
      exact ⟨by rw [HR.out]; rfl, hb1⟩
end Go.Proofs.Ytimnbnomaajmmaa
namespace Go.Proofs.Ytimnbnomaajmmaa
open Go.RowKit Go.Fd
theorem nm_step {L : List (SecM × Value)} {k : Nat} {x : SecM × Value} (h : L[k]? = some x) : (L.take (k + 1)).map (·.1.name) = (L.take k).map (·.1.name) ++ [x.1.name] := by rw [List.take_add_one, h]; simp
theorem nm_all {e : ElfM} {L : List (SecM × Value)} (h : e.secs = L.map (·.1)) : namesOf e.secs = L.map (·.1.name) ++ [tabName] := by unfold namesOf; rw [h, List.map_map]; rfl
set_option maxHeartbeats 1000000 in
set_option maxRecDepth 100000 in
theorem names_any (e : ElfM) (L : List (SecM × Value)) (sv gv : Value) (w : World) (h : ElfAt w e L sv gv) (hl : L.length ≤ 1000) :
    Calls Try.prog 41 #[elfV e sv gv] w fun r w' => ∃ v1 v2, r = .returned (.tuple #[v1, v2, .int .i64 (buildR (namesOf e.secs)).2.2]) ∧ OB w' w.heap.size v1 (buildR (namesOf e.secs)).1 ∧ Ow I64 3 w' w.heap.size v2 (buildR (namesOf e.secs)).2.1 ∧ Below w.heap.size w w' := by
  obtain ⟨a, ca, rfl, hca, -, hc⟩ := h.rd.open (fun _ => rfl)
  have HC := Lib.hid hc
  have HN := Lib.hid (nm_all h.secs)
  have HD := Lib.hid h.data
  obtain ⟨nl, hnl⟩ : ∃ n, n = L.length := ⟨_, rfl⟩
  rw [← hnl] at hl hca ⊢
  have HL := Lib.hid hnl
  clear hc h hnl
  go_enter Try.func41, Try.ntmps41
  go_wp2_with ((with_reducible show wpList _ _ _ (⟨_, .box _ _, _, _, _, _⟩ :: _) _ _); go_must (refine wpList_box rfl ?_; intro w1 hx1 hb1 hs1; obtain ⟨c0, c1, c2, c3, c4, c5⟩ := elf_box hx1))
  clear c0 c1 c2 c3 c4 c5 hx1
  go_loopw [5, 11] (fun tx i wr => ∃ k : Nat, i = .int .i64 k ∧ k ≤ nl ∧ Hid (Ow S 9 wr w.heap.size tx ((L.take k).map (·.1.name))) ∧ Hid (Below w.heap.size w wr)) (fun _ i _ => nl - (intOf i).toNat)
  case atStart => exact ⟨0, rfl, Nat.zero_le _, Ow.nil _ _ _ _, hb1⟩
  case round =>
    obtain ⟨k, rfl, hk, HO, HB⟩ := hrel
    by_cases hlt : k < nl
    · have X1 := Lib.hid (show L[k]? = some (L[k]'(by have := HL.out; omega)) from List.getElem?_eq_getElem _)
      generalize L[k]'(by have := HL.out; omega) = x at *
      obtain ⟨s, dv⟩ := x
      obtain ⟨dm, da, dc, hdm, rfl, _, _⟩ := (HD.out _ (List.mem_of_getElem? X1.out)).shape
      obtain ⟨b1, o1, ha, c10, c11, c12, c13, c14, c15, c16, c17, c18, c19, -⟩ := sec_cells HC.out HB.out X1.out
      subst ha
      have HNS := Lib.hid (nm_step X1.out)
      have HTL := Lib.hid (show ((L.take k).map (·.1.name)).length ≤ 1000 by rw [List.length_map, List.length_take]; omega)
      have hbs := HB.out.size
      go_wp2_with (first
        | ((with_reducible show wpList _ _ _ (⟨none, .store _ _ _, _, _, _, _⟩ :: _) _ _); go_must (refine wpList_storeNew rfl rfl (by kernel_rfl) rfl (by simp [Value.oneCell']) ?_; intro w2 hh2 hb2; obtain ⟨e0, e1, e2, e3, e4, e5, e6, e7, e8, e9⟩ := sec_box (x := (s, .slice da dm dc)) hh2; have HO2 := Lib.hid (HO.out.mono hb2); have HB2 := Lib.hid (HB.out.trans (hb2.mono HB.out.size))))
        | ((with_reducible show wpList _ _ _ (⟨some 19, _, _, _, _, _⟩ :: _) _ _); go_must (refine wpList_pushE TTexts HO2.out rfl rfl s.name rfl rfl (by have := HTL.out; omega) (by omega) HB2.out.size ?_; intro v3 w3 hv3 _ hb3; have HO3 := Lib.hid (show Ow S 9 w3 w.heap.size v3 ((L.take (k + 1)).map (·.1.name)) by rw [HNS.out]; exact hv3); have HB3 := Lib.hid (HB2.out.trans hb3); clear hv3 hb3)))
      clear hh2 e0 e1 e2 e3 e4 e5 e6 e7 e8 e9
      go_roundw
      case rel =>
        first
          | exact ⟨k + 1, by go_num, by omega, HO3.out, HB3.out⟩
          | ((repeat apply Exists.intro); exact ⟨⟨k + 1, by go_num, by omega, HO3.out, HB3.out⟩, rfl⟩)
      case measure => simp [intOf] <;> omega
    · have hkn : L.length ≤ k := by have := HL.out; omega
      have HO1 : Hid (Ow S 9 wr w.heap.size u5 (L.map (·.1.name))) := by
        have := HO.out
        rw [List.take_of_length_le hkn] at this
        exact this
      have HTL := Lib.hid (show (L.map (·.1.name)).length ≤ 1000 by rw [List.length_map]; have := HL.out; omega)
      clear HO hkn
      go_wp2_with (first
        | ((with_reducible show wpList _ _ _ (⟨some 23, _, _, _, _, _⟩ :: _) _ _); go_must (refine wpList_pushE TTexts HO1.out rfl rfl tabName rfl rfl (by have := HTL.out; omega) (by omega) HB.out.size ?_; intro v3 w3 hv3 _ hb3; have HO3 := Lib.hid (show Ow S 9 w3 w.heap.size v3 (namesOf e.secs) by rw [HN.out]; exact hv3); have HB3 := Lib.hid (HB.out.trans hb3); clear hv3 hb3))
        | (go_at_call 39; refine (build_any _ _ _ (by rw [HN.out, List.length_append, List.length_singleton]; have := HTL.out; omega) HO3.out.rd).mono ?_; rintro r w4 ⟨v1, v2, rfl, ob1, ow2, hb4⟩))
      have HB4 := Lib.hid (HB3.out.trans (hb4.mono HB3.out.size))
      have H1 := Lib.hid (ob1.base HB3.out.size)
      have H2 := Lib.hid (owns_base ow2 HB3.out.size)
      clear ob1 ow2 hb4
      go_ret3
      exact ⟨_, _, rfl, H1.out, H2.out, HB4.out⟩
end Go.Proofs.Ytimnbnomaajmmaa
namespace Go.Proofs.Ytimnbnomaajmmaa
open Go.RowKit Go.Fd
theorem sec_of {e : ElfM} {L : List (SecM × Value)} {k : Nat} {x : SecM × Value} (h : e.secs = L.map (·.1)) (hk : L[k]? = some x) : e.secs[k]? = some x.1 := by rw [h, List.getElem?_map, hk]; rfl
theorem flag_run {f : Nat} (hf : f < 18446744073709551616) : (bits .and .u64 (f : Int) 2 != 0) = decide (f &&& 2 ≠ 0) := by
  have := bits_and_u64_nat f 2 hf (by omega)
  rw [show ((2 : Nat) : Int) = 2 from rfl] at this
  rw [this, Bool.eq_iff_iff]
  simp only [bne_iff_ne, decide_eq_true_eq, ne_eq]
  omega
theorem pls_bd {e : ElfM} {k : Nat} (hp : ∀ s ∈ e.secs, powB s.align = true) (hl : e.secs.length ≤ 1000) (hg : e.segs.length ≤ 1000) (hd : dsum e.secs ≤ 2147483648) : (plF (segsB e) (front e) (e.secs.take k)).2 ≤ 3000000000 := by
  have h1 := (plF_le (g := segsB e) (n := front e) (l := e.secs.take k) (fun s hs => hp s (List.mem_of_mem_take hs))).2.1
  have h2 := dsum_take e.secs k
  have h3 : (e.secs.take k).length ≤ 1000 := by rw [List.length_take]; omega
  unfold front at h1
  unfold front
  omega
theorem pad_eq {q addr : Nat} (hq : q ≤ 3000000000) (ha : addr < 18446744073709551616) : wrap64 ((q : Int) + wrap64 ((IntKind.u64.wrap ((addr : Int) - q)).tmod 4096)) = ((q + (addr + 18446744073709551616 - q) % 18446744073709551616 % 4096 : Nat) : Int) := by
  have h1 : IntKind.u64.wrap ((addr : Int) - q) = (((addr + 18446744073709551616 - q) % 18446744073709551616 : Nat) : Int) := by
    simp [IntKind.wrap, IntKind.bits, IntKind.signed]
    omega
  rw [h1]
  generalize (addr + 18446744073709551616 - q) % 18446744073709551616 = z
  rw [Int.tmod_eq_emod_of_nonneg (by omega)]
  unfold wrap64
  omega
set_option maxHeartbeats 1000000 in
set_option maxRecDepth 100000 in
theorem places_any (e : ElfM) (L : List (SecM × Value)) (sv gv : Value) (t : Nat) (w : World) (h : ElfAt w e L sv gv) (hl : L.length ≤ 1000) (hg : e.segs.length ≤ 1000) (hp : ∀ s ∈ e.secs, powB s.align = true) (hf : ∀ s ∈ e.secs, s.fits) (hd : dsum e.secs ≤ 2147483648) (ht : t ≤ 2147483648) :
    Calls Try.prog 42 #[elfV e sv gv, .int .i64 t] w fun r w' => ∃ v1, r = .returned (.tuple #[v1, .int .i64 ((placesOf e).2 : Nat), .int .i64 (headsOf e t : Nat)]) ∧ Ow I64 3 w' w.heap.size v1 (placesOf e).1 ∧ Below w.heap.size w w' := by
  obtain ⟨a, ca, rfl, hca, -, hc⟩ := h.rd.open (fun _ => rfl)
  obtain ⟨gn, ga, gc, hgn, rfl, hgc, _⟩ := h.segs.shape
  have HC := Lib.hid hc
  have HD := Lib.hid h.data
  have HSE := Lib.hid (fun k x (hk : L[k]? = some x) => sec_of h.secs hk)
  have HPB := Lib.hid (fun k => pls_bd (k := k) hp (by rw [h.secs, List.length_map]; exact hl) hg hd)
  have HPW := Lib.hid hp
  have HFT := Lib.hid hf
  have HPL : Hid (placesOf e = plF (segsB e) (front e) e.secs) := rfl
  have HH : Hid (headsOf e t = upN ((placesOf e).2 + t) 8) := rfl
  have HEL := Lib.hid (show e.secs.length = L.length by rw [h.secs, List.length_map])
  obtain ⟨nl, hnl⟩ : ∃ n, n = L.length := ⟨_, rfl⟩
  rw [← hnl] at hl hca ⊢
  have HL := Lib.hid hnl
  have HGN := Lib.hid (show segsB e = decide (0 < gn) by unfold segsB; rw [← hgn.out])
  have HFR := Lib.hid (show front e = 64 + 56 * gn by unfold front; rw [← hgn.out])
  rw [← hgn.out] at hg
  clear hc h hnl hp hf
  go_enter Try.func42, Try.ntmps42
  go_wp2_with ((with_reducible show wpList _ _ _ (⟨_, .box _ _, _, _, _, _⟩ :: _) _ _); go_must (refine wpList_box rfl ?_; intro w1 hx1 hb1 hs1; obtain ⟨c0, c1, c2, c3, c4, c5⟩ := elf_box hx1))
  have HX1 := Lib.hid hx1
  have HB1 := Lib.hid hb1
  clear c0 c1 c2 c3 c4 c5 hx1 hb1
  go_loopw [4, 7, 18] (fun tx p i wr => ∃ k q : Nat, i = .int .i64 k ∧ k ≤ nl ∧ p = .int .i64 q ∧ q ≤ 3000000000 ∧ Hid (q = (plF (segsB e) (front e) (e.secs.take k)).2) ∧ Hid (Ow I64 3 wr w1.heap.size tx (plF (segsB e) (front e) (e.secs.take k)).1) ∧ Hid (Below w1.heap.size w1 wr)) (fun _ _ i _ => nl - (intOf i).toNat)
  case atStart => exact ⟨0, 64 + 56 * gn, rfl, Nat.zero_le _, by go_num, by omega, by rw [HFR.out]; rfl, Ow.nil _ _ _ _, Below.refl _ _⟩
  case round =>
    obtain ⟨k, q, rfl, hk, rfl, hq, HQ, HO, HB⟩ := hrel
    have hbs := HB.out.size
    have HBW := Lib.hid (HB1.out.trans (HB.out.mono HB1.out.size))
    by_cases hlt : k < nl
    · have X1 := Lib.hid (show L[k]? = some (L[k]'(by have := HL.out; omega)) from List.getElem?_eq_getElem _)
      generalize L[k]'(by have := HL.out; omega) = x at *
      obtain ⟨s, dv⟩ := x
      obtain ⟨dm, da, dc, hdm, rfl, _, _⟩ := (HD.out _ (List.mem_of_getElem? X1.out)).shape
      have X2 := Lib.hid (HSE.out _ _ X1.out)
      have HST := Lib.hid (plF_step (g := segsB e) (n := front e) X2.out)
      have HP1 := Lib.hid (HPB.out (k + 1))
      have HFS := Lib.hid (HFT.out _ (List.mem_of_getElem? X2.out))
      have HPS := Lib.hid (powB_le (HPW.out _ (List.mem_of_getElem? X2.out)))
      have HLK := Lib.hid (show ((plF (segsB e) (front e) (e.secs.take k)).1).length ≤ 1000 by rw [plF_len, List.length_take]; omega)
      rw [HST.out] at HP1
      obtain ⟨b1, o1, ha, c10, c11, c12, c13, c14, c15, c16, c17, c18, c19, -⟩ := sec_cells HC.out HBW.out X1.out
      subst ha
      have HQS : Hid ((plStep (segsB e) (plF (segsB e) (front e) (e.secs.take k)) s).2 = placeS (decide (0 < gn)) q s + dm ∧ (plStep (segsB e) (plF (segsB e) (front e) (e.secs.take k)) s).1 = (plF (segsB e) (front e) (e.secs.take k)).1 ++ [placeS (decide (0 < gn)) q s]) := by
        unfold plStep
        rw [HGN.out] at HQ ⊢
        rw [← HQ.out, ← hdm.out]
        exact ⟨rfl, rfl⟩
      obtain ⟨name, typ, flags, addr, align, size, link, info, ent, data⟩ := s
      dsimp only at *
      have hfl := flag_run HFS.out.2.1
      dsimp only at hfl
      have HPX : Hid (∀ p, placeS (decide (0 < gn)) q ⟨name, typ, flags, addr, align, size, link, info, ent, data⟩ = p → q ≤ p ∧ p ≤ q + 65536 ∧ p + dm ≤ 3000000000) := fun p hp => by
        have h1 := placeS_le (g := decide (0 < gn)) (p := q) (s := ⟨name, typ, flags, addr, align, size, link, info, ent, data⟩) (HPW.out _ (List.mem_of_getElem? X2.out))
        have h2 := HP1.out
        rw [HQS.out.1] at h2
        rw [hp] at h1 h2
        exact ⟨h1.1, h1.2, h2⟩
      clear HP1 HPW HPB HFT HSE
      by_cases h8 : typ = 8
      · have h8' : ((typ : Int) == 8) = true := by rw [beq_iff_eq]; omega
        obtain ⟨p, hp⟩ : ∃ p, p = q := ⟨_, rfl⟩
        have HPp := Lib.hid (show placeS (decide (0 < gn)) q ⟨name, typ, flags, addr, align, size, link, info, ent, data⟩ = p by unfold placeS; rw [if_pos h8, hp])
        obtain ⟨hp1, hp2, hp3⟩ := HPX.out p HPp.out
        have HX8 := Lib.hid h8
        subst hp
        clear h8 hfl
        go_wp2_with (first
          | ((with_reducible show wpList _ _ _ (⟨none, .store _ _ _, _, _, _, _⟩ :: _) _ _); go_must (refine wpList_storeNew rfl rfl (by kernel_rfl) rfl (by simp [Value.oneCell']) ?_; intro w2 hh2 hb2; obtain ⟨e0, e1, e2, e3, e4, e5, e6, e7, e8, e9⟩ := sec_box (x := (⟨name, typ, flags, addr, align, size, link, info, ent, data⟩, .slice da dm dc)) hh2; have HO2 := Lib.hid (HO.out.mono hb2); have HB2 := Lib.hid (HB.out.trans (hb2.mono HB.out.size)); obtain ⟨d0, d1, d2, d3, d4, d5⟩ := elf_box (heap_below HB2.out HX1.out); have HH2 := Lib.hid hh2))
          | ((with_reducible show wpList _ _ _ (⟨some 53, _, _, _, _, _⟩ :: _) _ _); go_must (refine wpList_pushE TI HO2.out rfl rfl p rfl rfl (by have := HLK.out; omega) (by omega) HB2.out.size ?_; intro v3 w3 hv3 hg3 hb3; have HO3 := Lib.hid hv3; have HB3 := Lib.hid (HB2.out.trans hb3); obtain ⟨f0, f1, f2, f3, f4, f5, f6, f7, f8, f9⟩ := sec_box (x := (⟨name, typ, flags, addr, align, size, link, info, ent, data⟩, .slice da dm dc)) (keeps_own HO2.out hg3 _ _ _ _ (by decide) HH2.out); clear hv3 hb3 hg3)))
        have HQ2 := Lib.hid (show p + dm = (plF (segsB e) (front e) (e.secs.take (k + 1))).2 by rw [HST.out, HQS.out.1, HPp.out])
        have HO4 := Lib.hid (show Ow I64 3 w3 w1.heap.size v3 (plF (segsB e) (front e) (e.secs.take (k + 1))).1 by rw [HST.out, HQS.out.2, HPp.out]; exact HO3.out)
        go_roundw
        case rel =>
          first
            | exact ⟨k + 1, p + dm, by go_num, by omega, by go_num, by omega, HQ2.out, HO4.out, HB3.out⟩
            | ((repeat apply Exists.intro); exact ⟨⟨k + 1, p + dm, by go_num, by omega, by go_num, by omega, HQ2.out, HO4.out, HB3.out⟩, rfl⟩)
        case measure => simp [intOf] <;> omega
      · have h8' : ((typ : Int) == 8) = false := by rw [beq_eq_false_iff_ne]; omega
        have HX8 := Lib.hid h8
        by_cases hg2 : 0 < gn ∧ flags &&& 2 ≠ 0
        · obtain ⟨hg1, hg2⟩ := hg2
          rw [decide_eq_true hg2] at hfl
          have hpad := pad_eq hq HFS.out.2.2.1
          have HPp := Lib.hid (show placeS (decide (0 < gn)) q ⟨name, typ, flags, addr, align, size, link, info, ent, data⟩ = q + (addr + 18446744073709551616 - q) % 18446744073709551616 % 4096 by unfold placeS; rw [if_neg h8, decide_eq_true hg1, decide_eq_true hg2]; rfl)
          dsimp only at hpad
          generalize q + (addr + 18446744073709551616 - q) % 18446744073709551616 % 4096 = p at *
          obtain ⟨hp1, hp2, hp3⟩ := HPX.out p HPp.out
          have HX2 := Lib.hid hg2
          clear h8 hg2
          go_wp2_with (first
            | ((with_reducible show wpList _ _ _ (⟨none, .store _ _ _, _, _, _, _⟩ :: _) _ _); go_must (refine wpList_storeNew rfl rfl (by kernel_rfl) rfl (by simp [Value.oneCell']) ?_; intro w2 hh2 hb2; obtain ⟨e0, e1, e2, e3, e4, e5, e6, e7, e8, e9⟩ := sec_box (x := (⟨name, typ, flags, addr, align, size, link, info, ent, data⟩, .slice da dm dc)) hh2; have HO2 := Lib.hid (HO.out.mono hb2); have HB2 := Lib.hid (HB.out.trans (hb2.mono HB.out.size)); obtain ⟨d0, d1, d2, d3, d4, d5⟩ := elf_box (heap_below HB2.out HX1.out); have HH2 := Lib.hid hh2))
            | ((with_reducible show wpList _ _ _ (⟨some 53, _, _, _, _, _⟩ :: _) _ _); go_must (refine wpList_pushE TI HO2.out rfl rfl p rfl rfl (by have := HLK.out; omega) (by omega) HB2.out.size ?_; intro v3 w3 hv3 hg3 hb3; have HO3 := Lib.hid hv3; have HB3 := Lib.hid (HB2.out.trans hb3); obtain ⟨f0, f1, f2, f3, f4, f5, f6, f7, f8, f9⟩ := sec_box (x := (⟨name, typ, flags, addr, align, size, link, info, ent, data⟩, .slice da dm dc)) (keeps_own HO2.out hg3 _ _ _ _ (by decide) HH2.out); clear hv3 hb3 hg3)))
          have HQ2 := Lib.hid (show p + dm = (plF (segsB e) (front e) (e.secs.take (k + 1))).2 by rw [HST.out, HQS.out.1, HPp.out])
          have HO4 := Lib.hid (show Ow I64 3 w3 w1.heap.size v3 (plF (segsB e) (front e) (e.secs.take (k + 1))).1 by rw [HST.out, HQS.out.2, HPp.out]; exact HO3.out)
          go_roundw
          case rel =>
            first
              | exact ⟨k + 1, p + dm, by go_num, by omega, by go_num, by omega, HQ2.out, HO4.out, HB3.out⟩
              | ((repeat apply Exists.intro); exact ⟨⟨k + 1, p + dm, by go_num, by omega, by go_num, by omega, HQ2.out, HO4.out, HB3.out⟩, rfl⟩)
          case measure => simp [intOf] <;> omega
        · have HPp := Lib.hid (show placeS (decide (0 < gn)) q ⟨name, typ, flags, addr, align, size, link, info, ent, data⟩ = upN q align by
            unfold placeS
            rw [if_neg h8, if_neg]
            simp only [Bool.and_eq_true, decide_eq_true_eq]
            exact hg2)
          have HU := Lib.hid (fun w => up_any q align w (by omega) HPS.out.1 HPS.out.2)
          generalize upN q align = p at *
          obtain ⟨hp1, hp2, hp3⟩ := HPX.out p HPp.out
          clear h8
          by_cases hg1 : 0 < gn
          · rw [decide_eq_false (fun h => hg2 ⟨hg1, h⟩)] at hfl
            have HX2 := Lib.hid hg2
            clear hg2
            go_wp2_with (first
              | ((with_reducible show wpList _ _ _ (⟨none, .store _ _ _, _, _, _, _⟩ :: _) _ _); go_must (refine wpList_storeNew rfl rfl (by kernel_rfl) rfl (by simp [Value.oneCell']) ?_; intro w2 hh2 hb2; obtain ⟨e0, e1, e2, e3, e4, e5, e6, e7, e8, e9⟩ := sec_box (x := (⟨name, typ, flags, addr, align, size, link, info, ent, data⟩, .slice da dm dc)) hh2; have HO2 := Lib.hid (HO.out.mono hb2); have HB2 := Lib.hid (HB.out.trans (hb2.mono HB.out.size)); obtain ⟨d0, d1, d2, d3, d4, d5⟩ := elf_box (heap_below HB2.out HX1.out); have HH2 := Lib.hid hh2))
              | ((with_reducible show wpList _ _ _ (⟨some 53, _, _, _, _, _⟩ :: _) _ _); go_must (refine wpList_pushE TI HO2.out rfl rfl p rfl rfl (by have := HLK.out; omega) (by omega) HB2.out.size ?_; intro v3 w3 hv3 hg3 hb3; have HO3 := Lib.hid hv3; have HB3 := Lib.hid (HB2.out.trans hb3); obtain ⟨f0, f1, f2, f3, f4, f5, f6, f7, f8, f9⟩ := sec_box (x := (⟨name, typ, flags, addr, align, size, link, info, ent, data⟩, .slice da dm dc)) (keeps_own HO2.out hg3 _ _ _ _ (by decide) HH2.out); clear hv3 hb3 hg3))
              | (go_at_call 81; refine (HU.out _).mono ?_; rintro r w4 ⟨rfl, rfl⟩))
            have HQ2 := Lib.hid (show p + dm = (plF (segsB e) (front e) (e.secs.take (k + 1))).2 by rw [HST.out, HQS.out.1, HPp.out])
            have HO4 := Lib.hid (show Ow I64 3 w3 w1.heap.size v3 (plF (segsB e) (front e) (e.secs.take (k + 1))).1 by rw [HST.out, HQS.out.2, HPp.out]; exact HO3.out)
            go_roundw
            case rel =>
              first
                | exact ⟨k + 1, p + dm, by go_num, by omega, by go_num, by omega, HQ2.out, HO4.out, HB3.out⟩
                | ((repeat apply Exists.intro); exact ⟨⟨k + 1, p + dm, by go_num, by omega, by go_num, by omega, HQ2.out, HO4.out, HB3.out⟩, rfl⟩)
            case measure => simp [intOf] <;> omega
          · have HX2 := Lib.hid hg2
            clear hg2 hfl
            go_wp2_with (first
              | ((with_reducible show wpList _ _ _ (⟨none, .store _ _ _, _, _, _, _⟩ :: _) _ _); go_must (refine wpList_storeNew rfl rfl (by kernel_rfl) rfl (by simp [Value.oneCell']) ?_; intro w2 hh2 hb2; obtain ⟨e0, e1, e2, e3, e4, e5, e6, e7, e8, e9⟩ := sec_box (x := (⟨name, typ, flags, addr, align, size, link, info, ent, data⟩, .slice da dm dc)) hh2; have HO2 := Lib.hid (HO.out.mono hb2); have HB2 := Lib.hid (HB.out.trans (hb2.mono HB.out.size)); obtain ⟨d0, d1, d2, d3, d4, d5⟩ := elf_box (heap_below HB2.out HX1.out); have HH2 := Lib.hid hh2))
              | ((with_reducible show wpList _ _ _ (⟨some 53, _, _, _, _, _⟩ :: _) _ _); go_must (refine wpList_pushE TI HO2.out rfl rfl p rfl rfl (by have := HLK.out; omega) (by omega) HB2.out.size ?_; intro v3 w3 hv3 hg3 hb3; have HO3 := Lib.hid hv3; have HB3 := Lib.hid (HB2.out.trans hb3); obtain ⟨f0, f1, f2, f3, f4, f5, f6, f7, f8, f9⟩ := sec_box (x := (⟨name, typ, flags, addr, align, size, link, info, ent, data⟩, .slice da dm dc)) (keeps_own HO2.out hg3 _ _ _ _ (by decide) HH2.out); clear hv3 hb3 hg3))
              | (go_at_call 81; refine (HU.out _).mono ?_; rintro r w4 ⟨rfl, rfl⟩))
            have HQ2 := Lib.hid (show p + dm = (plF (segsB e) (front e) (e.secs.take (k + 1))).2 by rw [HST.out, HQS.out.1, HPp.out])
            have HO4 := Lib.hid (show Ow I64 3 w3 w1.heap.size v3 (plF (segsB e) (front e) (e.secs.take (k + 1))).1 by rw [HST.out, HQS.out.2, HPp.out]; exact HO3.out)
            go_roundw
            case rel =>
              first
                | exact ⟨k + 1, p + dm, by go_num, by omega, by go_num, by omega, HQ2.out, HO4.out, HB3.out⟩
                | exact ⟨_, _, _, _, ⟨k + 1, rfl, by omega, p + dm, rfl, by omega, HQ2.out, HO4.out⟩, rfl, by go_num, rfl, by go_num⟩
                | ((repeat apply Exists.intro); exact ⟨⟨k + 1, p + dm, by go_num, by omega, by go_num, by omega, HQ2.out, HO4.out, HB3.out⟩, rfl⟩)
            case measure => simp [intOf] <;> omega
    · have hkn : e.secs.take k = e.secs := List.take_of_length_le (by have := HL.out; have := HEL.out; omega)
      have HO1 : Hid (Ow I64 3 wr w1.heap.size u4 (placesOf e).1) := by
        have := HO.out
        rw [hkn] at this
        exact this
      have HQ1 : Hid (q = (placesOf e).2) := by
        have := HQ.out
        rw [hkn] at this
        exact this
      have HHQ : Hid (headsOf e t = upN (q + t) 8) := by rw [HH.out, HQ1.out]; exact rfl
      have HU := Lib.hid (fun w => up_any (q + t) 8 w (by omega) (by decide) (by decide))
      clear HO hkn
      generalize upN (q + t) 8 = p at *
      go_wp2_with (go_at_call 81; refine (HU.out _).mono ?_; rintro r w4 ⟨rfl, rfl⟩)
      go_ret3
      exact ⟨_, by rw [← HQ1.out, HHQ.out]; rfl, owns_base HO1.out HB1.out.size, HBW.out⟩
end Go.Proofs.Ytimnbnomaajmmaa
namespace Go.Fd
theorem seg_box {w : World} {g : Nat} {x : SegM} {t : TypeId} {fr : Nat × Nat} (h : w.heap[g]? = some (.cells #[.int .u32 (x.typ : Int), .int .u32 (x.flags : Int), .int .u64 (x.off : Int), .int .u64 (x.vaddr : Int), .int .u64 (x.filesz : Int), .int .u64 (x.memsz : Int), .int .u64 (x.align : Int)] t fr)) :
    w.cell? ⟨g, 0, none⟩ = some (.int .u32 (x.typ : Int)) ∧ w.cell? ⟨g, 1, none⟩ = some (.int .u32 (x.flags : Int)) ∧ w.cell? ⟨g, 2, none⟩ = some (.int .u64 (x.off : Int)) ∧ w.cell? ⟨g, 3, none⟩ = some (.int .u64 (x.vaddr : Int)) ∧ w.cell? ⟨g, 4, none⟩ = some (.int .u64 (x.filesz : Int)) ∧ w.cell? ⟨g, 5, none⟩ = some (.int .u64 (x.memsz : Int)) ∧ w.cell? ⟨g, 6, none⟩ = some (.int .u64 (x.align : Int)) :=
  ⟨cell_rec h 0, cell_rec h 1, cell_rec h 2, cell_rec h 3, cell_rec h 4, cell_rec h 5, cell_rec h 6⟩
/-- What is asked of a file, so that no number in a walk is too great. -/
structure ElfOk (e : ElfM) : Prop where
  fits : e.fits
  data : dsum e.secs ≤ 2147483648
  names : ∀ s ∈ e.secs, s.name.length ≤ 9223372036854775807
  secs : e.secs.length ≤ 1000000000
  segs : e.segs.length ≤ 1000000000
def secB (s : SecM) : Bool := fineB s && decide (s.data.length ≤ 4194304)
theorem all_step {α : Type} {f : α → Bool} {l : List α} {k : Nat} {x : α} (h : l[k]? = some x) (h0 : (l.take k).all f = true) (hb : f x = true) : (l.take (k + 1)).all f = true := by
  rw [List.take_add_one, h, List.all_append, h0]
  simp [hb]
theorem all_no {α : Type} {f : α → Bool} {l : List α} {k : Nat} {x : α} (h : l[k]? = some x) (hb : f x = false) : l.all f = false := by
  rw [Bool.eq_false_iff]
  intro h'
  rw [List.all_eq_true.1 h' x (List.mem_of_getElem? h)] at hb
  cases hb
theorem fineB_pow {s : SecM} (h : fineB s = true) : powB s.align = true := by
  unfold fineB at h
  simp only [Bool.and_eq_true] at h
  exact h.1.1.2
end Go.Fd
namespace Go.Proofs.Ytimnbnomaajmmaa
open Go.RowKit Go.Fd
theorem mayE_1 {e : ElfM} (h : may1 e = false) : mayE e = false := by unfold mayE; rw [h]; rfl
theorem mayE_2 {e : ElfM} (h : e.secs.all secB = false) : mayE e = false := by
  unfold mayE may2
  rw [show (e.secs.all fun s => fineB s && decide (s.data.length ≤ 4194304)) = e.secs.all secB from rfl, h]
  simp
theorem mayE_3 {e : ElfM} (h : (e.segs.all fun s => powB s.align) = false) : mayE e = false := by
  unfold mayE may2
  rw [h]
  simp
theorem mayE_all {e : ElfM} (h1 : may1 e = true) (h2 : e.secs.all secB = true) (h3 : (e.segs.all fun s => powB s.align) = true) : mayE e = may3 e := by
  unfold mayE may2
  rw [h1, show (e.secs.all fun s => fineB s && decide (s.data.length ≤ 4194304)) = e.secs.all secB from rfl, h2, h3]
  simp
theorem may3_no {e : ElfM} (h : (buildR (namesOf e.secs)).2.2 ≠ 0) : may3 e = false := by unfold may3; rw [decide_eq_false h]; rfl
theorem may3_yes {e : ElfM} {t : Nat} (h : (buildR (namesOf e.secs)).2.2 = 0) (ht : t = (tabOf e).length) : may3 e = decide (headsOf e t + 64 * (e.secs.length + 2) ≤ 4194304) := by unfold may3; rw [decide_eq_true h, ht]; rfl
theorem namesOf_len (l : List SecM) : (namesOf l).length = l.length + 1 := by unfold namesOf; simp
theorem tabOf_len (e : ElfM) : (tabOf e).length ≤ 1 + 129 * (e.secs.length + 1) := by
  have := (buildR_len (namesOf e.secs)).1
  rw [namesOf_len] at this
  exact this
theorem headsOf_le {e : ElfM} {t : Nat} (hp : ∀ s ∈ e.secs, powB s.align = true) (hl : e.secs.length ≤ 1000) (hg : e.segs.length ≤ 1000) (hd : dsum e.secs ≤ 2147483648) (ht : t ≤ 2147483648) : (placesOf e).2 ≤ 3000000000 ∧ headsOf e t ≤ 6000000000 := by
  have h := pls_bd (k := e.secs.length) hp hl hg hd
  rw [List.take_length] at h
  have h1 : (placesOf e).2 ≤ 3000000000 := h
  have h2 := upN_le (n := (placesOf e).2 + t) (a := 8) (by omega)
  unfold headsOf
  omega
set_option maxHeartbeats 4000000 in
set_option maxRecDepth 100000 in
theorem may_any (e : ElfM) (L : List (SecM × Value)) (sv gv : Value) (w : World) (h : ElfAt w e L sv gv) (ho : ElfOk e) :
    Calls Try.prog 40 #[elfV e sv gv] w fun r w' => r = .returned (.bool (mayE e)) ∧ Below w.heap.size w w' := by
  obtain ⟨a, ca, rfl, hca, -, hc⟩ := h.rd.open (fun _ => rfl)
  obtain ⟨ga, gc, rfl, hgc, -, hcg⟩ := h.segs.open (fun _ => rfl)
  have HC := Lib.hid hc
  have HCG := Lib.hid hcg
  have HAT := Lib.hid h
  have HOK := Lib.hid ho
  have HD := Lib.hid h.data
  have HSE := Lib.hid (fun k x (hk : L[k]? = some x) => sec_of h.secs hk)
  have HEL := Lib.hid (show e.secs.length = L.length by rw [h.secs, List.length_map])
  obtain ⟨nl, hnl⟩ : ∃ n, n = L.length := ⟨_, rfl⟩
  obtain ⟨gn, hgn⟩ : ∃ n, n = e.segs.length := ⟨_, rfl⟩
  rw [← hnl] at hca HAT ⊢
  rw [← hgn] at hgc HAT ⊢
  have HL := Lib.hid hnl
  have HGN := Lib.hid hgn
  have hnl9 : nl ≤ 1000000000 := by have := HOK.out.secs; have := HEL.out; omega
  have hgn9 : gn ≤ 1000000000 := by have := HOK.out.segs; omega
  clear hc hcg h hnl hgn ho
  have HM1 : Hid (may1 e = ((decide (e.typ = 1) || decide (e.typ = 2)) && !decide (mach e.target = 0) && decide (nl ≤ 250) && decide (gn ≤ 16))) := by
    unfold may1
    rw [HEL.out, ← HL.out, ← HGN.out]
    exact rfl
  have HMC := Lib.hid (fun w => machine_any e.target w)
  have hmc := mach_le e.target
  generalize mach e.target = mt at *
  by_cases h1 : may1 e = true
  · have hm1 := h1
    rw [HM1.out] at hm1
    simp only [Bool.and_eq_true, Bool.or_eq_true, Bool.not_eq_true', decide_eq_true_eq, decide_eq_false_iff_not] at hm1
    obtain ⟨⟨⟨hty, hmt⟩, hn250⟩, hg16⟩ := hm1
    have ht : (e.typ != 1) = false ∨ ((e.typ != 1) = true ∧ (e.typ != 2) = false) := by
      rcases hty with h | h
      · exact .inl (by rw [h]; rfl)
      · exact .inr (by rw [h]; exact ⟨rfl, rfl⟩)
    have hmt0 : ((mt : Int) == 0) = false := by rw [beq_eq_false_iff_ne]; omega
    have HM2 := Lib.hid h1
    have HX9 := Lib.hid hmt
    clear h1 hty hmt HM1
    rcases ht with ht1 | ⟨ht1, ht2⟩
    all_goals
      go_enter Try.func40, Try.ntmps40
      go_wp2_with (first
        | ((with_reducible show wpList _ _ _ (⟨_, .box _ _, _, _, _, _⟩ :: _) _ _); go_must (refine wpList_box rfl ?_; intro w1 hx1 hb1 hs1; obtain ⟨c0, c1, c2, c3, c4, c5⟩ := elf_box hx1))
        | (go_at_call 65; refine (HMC.out _).mono ?_; rintro r w2 ⟨rfl, rfl⟩))
      have HX1 := Lib.hid hx1
      have HB1 := Lib.hid hb1
      clear c0 c1 c2 c3 c4 c5 hx1 hb1
      go_loopw [42] (fun i wr => ∃ k : Nat, i = .int .i64 k ∧ k ≤ nl ∧ Hid ((e.secs.take k).all secB = true) ∧ Hid (Below w1.heap.size w1 wr)) (fun i _ => nl - (intOf i).toNat)
      case atStart => exact ⟨0, rfl, Nat.zero_le _, rfl, Below.refl _ _⟩
      case round =>
        obtain ⟨k, rfl, hk, HT, HB⟩ := hrel
        have hbs := HB.out.size
        have HBW := Lib.hid (HB1.out.trans (HB.out.mono HB1.out.size))
        by_cases hlt : k < nl
        · have X1 := Lib.hid (show L[k]? = some (L[k]'(by have := HL.out; omega)) from List.getElem?_eq_getElem _)
          generalize L[k]'(by have := HL.out; omega) = x at *
          obtain ⟨s, dv⟩ := x
          have hbs0 := HD.out _ (List.mem_of_getElem? X1.out)
          obtain ⟨dm, da, dc, hdm, rfl, _, _⟩ := hbs0.shape
          have X2 := Lib.hid (HSE.out _ _ X1.out)
          have hdl : dm ≤ 2147483648 := by
            have h1 := dsum_mem (List.mem_of_getElem? X2.out)
            have h2 := HOK.out.data
            have h3 := hdm.out
            dsimp only at h1 h3
            omega
          have HFI := Lib.hid (fun w' (hb : Below w.heap.size w w') => fine_any s (.slice da dm dc) w' (hbs0.mono hb) (HOK.out.fits.secs _ (List.mem_of_getElem? X2.out)) (by have := hdm.out; dsimp only at this; omega))
          obtain ⟨b1, o1, ha, c10, c11, c12, c13, c14, c15, c16, c17, c18, c19, -⟩ := sec_cells HC.out HBW.out X1.out
          subst ha
          clear hbs0
          have HSB : Hid (secB s = (fineB s && decide (dm ≤ 4194304))) := by unfold secB; rw [hdm.out]; exact rfl
          have HGO := Lib.hid (fun hb : secB s = true => all_step (f := secB) X2.out HT.out hb)
          have HNO := Lib.hid (fun hb : secB s = false => mayE_2 (all_no (f := secB) X2.out hb))
          obtain ⟨name, typ, flags, addr, align, size, link, info, ent, data⟩ := s
          dsimp only at *
          generalize fineB ⟨name, typ, flags, addr, align, size, link, info, ent, data⟩ = fb at *
          generalize secB ⟨name, typ, flags, addr, align, size, link, info, ent, data⟩ = sb at *
          cases fb with
          | false =>
            have HR := Lib.hid (HNO.out (by rw [HSB.out]; rfl))
            clear HNO HGO HSB
            go_wp2_with (first
              | ((with_reducible show wpList _ _ _ (⟨none, .store _ _ _, _, _, _, _⟩ :: _) _ _); go_must (refine wpList_storeNew rfl rfl (by kernel_rfl) rfl (by simp [Value.oneCell']) ?_; intro w2 hh2 hb2; obtain ⟨e0, e1, e2, e3, e4, e5, e6, e7, e8, e9⟩ := sec_box (x := (⟨name, typ, flags, addr, align, size, link, info, ent, data⟩, .slice da dm dc)) hh2; have HB2 := Lib.hid (HB.out.trans (hb2.mono HB.out.size)); have HH2 := Lib.hid hh2))
              | (go_at_call 79; refine (HFI.out _ (HB1.out.trans (HB2.out.mono HB1.out.size))).mono ?_; rintro r w4 ⟨rfl, hb4⟩; obtain ⟨f0, f1, f2, f3, f4, f5, f6, f7, f8, f9⟩ := sec_box (x := (⟨name, typ, flags, addr, align, size, link, info, ent, data⟩, .slice da dm dc)) (heap_below hb4 HH2.out); have HB4 := Lib.hid (HB2.out.trans (hb4.mono HB2.out.size))))
            go_ret
            exact ⟨by rw [HR.out]; rfl, HB1.out.trans (HB4.out.mono HB1.out.size)⟩
          | true =>
            by_cases hd4 : dm ≤ 4194304
            · have HT1 := Lib.hid (HGO.out (by rw [HSB.out, decide_eq_true hd4]; rfl))
              clear HNO HGO HSB
              go_wp2_with (first
                | ((with_reducible show wpList _ _ _ (⟨none, .store _ _ _, _, _, _, _⟩ :: _) _ _); go_must (refine wpList_storeNew rfl rfl (by kernel_rfl) rfl (by simp [Value.oneCell']) ?_; intro w2 hh2 hb2; obtain ⟨e0, e1, e2, e3, e4, e5, e6, e7, e8, e9⟩ := sec_box (x := (⟨name, typ, flags, addr, align, size, link, info, ent, data⟩, .slice da dm dc)) hh2; have HB2 := Lib.hid (HB.out.trans (hb2.mono HB.out.size)); have HH2 := Lib.hid hh2))
                | (go_at_call 79; refine (HFI.out _ (HB1.out.trans (HB2.out.mono HB1.out.size))).mono ?_; rintro r w4 ⟨rfl, hb4⟩; obtain ⟨f0, f1, f2, f3, f4, f5, f6, f7, f8, f9⟩ := sec_box (x := (⟨name, typ, flags, addr, align, size, link, info, ent, data⟩, .slice da dm dc)) (heap_below hb4 HH2.out); have HB4 := Lib.hid (HB2.out.trans (hb4.mono HB2.out.size))))
              go_roundw
              case rel =>
                first
                  | exact ⟨k + 1, by go_num, by omega, HT1.out, HB4.out⟩
                  | ((repeat apply Exists.intro); exact ⟨⟨k + 1, by go_num, by omega, HT1.out, HB4.out⟩, rfl⟩)
              case measure => simp [intOf] <;> omega
            · have HR := Lib.hid (HNO.out (by rw [HSB.out, decide_eq_false hd4]; rfl))
              clear HNO HGO HSB
              go_wp2_with (first
                | ((with_reducible show wpList _ _ _ (⟨none, .store _ _ _, _, _, _, _⟩ :: _) _ _); go_must (refine wpList_storeNew rfl rfl (by kernel_rfl) rfl (by simp [Value.oneCell']) ?_; intro w2 hh2 hb2; obtain ⟨e0, e1, e2, e3, e4, e5, e6, e7, e8, e9⟩ := sec_box (x := (⟨name, typ, flags, addr, align, size, link, info, ent, data⟩, .slice da dm dc)) hh2; have HB2 := Lib.hid (HB.out.trans (hb2.mono HB.out.size)); have HH2 := Lib.hid hh2))
                | (go_at_call 79; refine (HFI.out _ (HB1.out.trans (HB2.out.mono HB1.out.size))).mono ?_; rintro r w4 ⟨rfl, hb4⟩; obtain ⟨f0, f1, f2, f3, f4, f5, f6, f7, f8, f9⟩ := sec_box (x := (⟨name, typ, flags, addr, align, size, link, info, ent, data⟩, .slice da dm dc)) (heap_below hb4 HH2.out); have HB4 := Lib.hid (HB2.out.trans (hb4.mono HB2.out.size))))
              go_ret
              exact ⟨by rw [HR.out]; rfl, HB1.out.trans (HB4.out.mono HB1.out.size)⟩
        ·
          have hkn : e.secs.take k = e.secs := List.take_of_length_le (by have := HL.out; have := HEL.out; omega)
          have HALL : Hid (e.secs.all secB = true) := by
            have := HT.out
            rw [hkn] at this
            exact this
          have HBF := Lib.hid HB.out
          obtain ⟨d0, d1, d2, d3, d4, d5⟩ := elf_box (heap_below HB.out HX1.out)
          clear HT hkn d0 d1 d2 d3 d4
          go_wp2
          go_loopw [59] (fun i wx => ∃ k : Nat, i = .int .i64 k ∧ k ≤ gn ∧ Hid ((e.segs.take k).all (fun s => powB s.align) = true) ∧ Hid (Below w1.heap.size w1 wx)) (fun i _ => gn - (intOf i).toNat)
          case atStart => exact ⟨0, rfl, Nat.zero_le _, rfl, HBF.out⟩
          case round =>
            obtain ⟨k, rfl, hk, HT, HB⟩ := hrel
            have hbs := HB.out.size
            have HBW := Lib.hid (HB1.out.trans (HB.out.mono HB1.out.size))
            by_cases hlt : k < gn
            · have X1 := Lib.hid (show e.segs[k]? = some (e.segs[k]'(by have := HGN.out; omega)) from List.getElem?_eq_getElem _)
              generalize e.segs[k]'(by have := HGN.out; omega) = x at *
              have HPO := Lib.hid (fun w => power_any x.align w (HOK.out.fits.segs _ (List.mem_of_getElem? X1.out)).2.2.2.2.2.2)
              have HGO := Lib.hid (fun hb : powB x.align = true => all_step (f := fun s : SegM => powB s.align) X1.out HT.out hb)
              have HNO := Lib.hid (fun hb : powB x.align = false => mayE_3 (all_no (f := fun s : SegM => powB s.align) X1.out hb))
              obtain ⟨b1, o1, ha, c10, c11, c12, c13, c14, c15, c16, -⟩ := seg_cells HCG.out HBW.out X1.out
              subst ha
              obtain ⟨typ, flags, off, vaddr, filesz, memsz, align⟩ := x
              dsimp only at *
              generalize powB align = pb at *
              cases pb with
              | false =>
                have HR := Lib.hid (HNO.out rfl)
                clear HNO HGO
                go_wp2_with (first
                  | ((with_reducible show wpList _ _ _ (⟨none, .store _ _ _, _, _, _, _⟩ :: _) _ _); go_must (refine wpList_storeNew rfl rfl (by kernel_rfl) rfl (by simp [Value.oneCell']) ?_; intro w2 hh2 hb2; obtain ⟨e0, e1, e2, e3, e4, e5, e6⟩ := seg_box (x := ⟨typ, flags, off, vaddr, filesz, memsz, align⟩) hh2; have HB2 := Lib.hid (HB.out.trans (hb2.mono HB.out.size))))
                  | (go_at_call 80; refine (HPO.out _).mono ?_; rintro r w4 ⟨rfl, rfl⟩))
                go_ret
                exact ⟨by rw [HR.out]; rfl, HB1.out.trans (HB2.out.mono HB1.out.size)⟩
              | true =>
                have HT1 := Lib.hid (HGO.out rfl)
                clear HNO HGO
                go_wp2_with (first
                  | ((with_reducible show wpList _ _ _ (⟨none, .store _ _ _, _, _, _, _⟩ :: _) _ _); go_must (refine wpList_storeNew rfl rfl (by kernel_rfl) rfl (by simp [Value.oneCell']) ?_; intro w2 hh2 hb2; obtain ⟨e0, e1, e2, e3, e4, e5, e6⟩ := seg_box (x := ⟨typ, flags, off, vaddr, filesz, memsz, align⟩) hh2; have HB2 := Lib.hid (HB.out.trans (hb2.mono HB.out.size))))
                  | (go_at_call 80; refine (HPO.out _).mono ?_; rintro r w4 ⟨rfl, rfl⟩))
                go_roundw
                case rel =>
                  first
                    | exact ⟨k + 1, by go_num, by omega, HT1.out, HB2.out⟩
                    | ((repeat apply Exists.intro); exact ⟨⟨k + 1, by go_num, by omega, HT1.out, HB2.out⟩, rfl⟩)
                case measure => simp [intOf] <;> omega
            · have hkn : e.segs.take k = e.segs := List.take_of_length_le (by have := HGN.out; omega)
              have HALG : Hid ((e.segs.all fun s => powB s.align) = true) := by
                have := HT.out
                rw [hkn] at this
                exact this
              have HM3 := Lib.hid (mayE_all HM2.out HALL.out HALG.out)
              have HNA := Lib.hid (names_any e L _ _ _ (HAT.out.mono HBW.out) (by have := HL.out; omega))
              have HPW : Hid (∀ s ∈ e.secs, powB s.align = true) := fun s hs => fineB_pow (by
                have := List.all_eq_true.1 HALL.out s hs
                unfold secB at this
                simp only [Bool.and_eq_true] at this
                exact this.1)
              obtain ⟨d0, d1, d2, d3, d4, d5⟩ := elf_box (heap_below HB.out HX1.out)
              clear HT hkn
              go_wp2_with fail
              clear d0 d1 d2 d3 d4 d5
              have HTL := Lib.hid (tabOf_len e)
              have HTD : Hid (tabOf e = (buildR (namesOf e.secs)).1) := rfl
              refine HNA.out.mono ?_
              rintro r w2 ⟨v1, v2, rfl, ob1, -, hb2⟩
              have HB2 := Lib.hid (HB.out.trans (hb2.mono HB.out.size))
              have HBW2 := Lib.hid (HB1.out.trans (HB2.out.mono HB1.out.size))
              obtain ⟨tn, ta, tc, htn, rfl, _, _⟩ := ob1.bs.shape
              rw [← HTD.out] at htn
              have htl : tn ≤ 40000 := by have h1 := HTL.out; have h2 := htn.out; have h3 := HEL.out; have h4 := HL.out; omega
              clear ob1 hb2 HNA
              by_cases hz : (buildR (namesOf e.secs)).2.2 = 0
              · have HM4 := Lib.hid (may3_yes hz htn.out)
                have HPL := Lib.hid (places_any e L _ _ tn w2 (HAT.out.mono HBW2.out) (by have := HL.out; omega) (by have := HGN.out; omega) HPW.out HOK.out.fits.secs HOK.out.data (by omega))
                have hhl := (headsOf_le (t := tn) HPW.out (by have := HEL.out; have := HL.out; omega) (by have := HGN.out; omega) HOK.out.data (by omega)).2
                have HFIN : Hid (mayE e = decide ((headsOf e tn : Int) + 64 * ((nl : Int) + 2) ≤ 4194304)) := by
                  have h1 := HEL.out; have h2 := HL.out; rw [HM3.out, HM4.out, Bool.eq_iff_iff, decide_eq_true_iff, decide_eq_true_iff]
                  constructor <;> intro h <;> omega
                rw [hz]
                have HXZ := Lib.hid hz
                clear hz HM3 HM4
                generalize headsOf e tn = hh at *
                generalize (placesOf e).2 = pe at *
                obtain ⟨d0, d1, d2, d3, d4, d5⟩ := elf_box (heap_below HB2.out HX1.out)
                go_wp2_with fail
                clear d0 d1 d2 d3 d4 d5
                refine HPL.out.mono ?_
                rintro r w3 ⟨v3, rfl, -, hb3⟩
                obtain ⟨d0, d1, d2, d3, d4, d5⟩ := elf_box (heap_below (HB2.out.trans (hb3.mono HB2.out.size)) HX1.out)
                have HB3 := Lib.hid (HBW2.out.trans (hb3.mono HBW2.out.size))
                clear hb3 d0 d1 d2 d3 d5
                go_wp2
                go_ret
                exact ⟨by rw [HFIN.out]; rfl, HB3.out⟩
              · have HR := Lib.hid (HM3.out.trans (may3_no hz))
                generalize (buildR (namesOf e.secs)).2.2 = z at *
                have hz2 : (z != 0) = true := by simpa using hz
                have HXZ := Lib.hid hz
                clear hz
                go_wp2
                go_ret
                exact ⟨by rw [HR.out]; rfl, HBW2.out⟩
  · have HR := Lib.hid (mayE_1 (by simpa using h1))
    have hm1 : ((decide (e.typ = 1) || decide (e.typ = 2)) && !decide (mt = 0) && decide (nl ≤ 250) && decide (gn ≤ 16)) = false := by rw [← HM1.out]; simpa using h1
    have ht : ((e.typ != 1) = true ∧ (e.typ != 2) = true) ∨ ((e.typ != 1) = false ∨ ((e.typ != 1) = true ∧ (e.typ != 2) = false)) ∧ (((mt : Int) == 0) = true ∨ ((mt : Int) == 0) = false ∧ (250 < nl ∨ nl ≤ 250 ∧ 16 < gn)) := by
      by_cases t1 : e.typ = 1
      · refine .inr ⟨.inl (by rw [t1]; rfl), ?_⟩
        simp only [t1, decide_true, Bool.true_or, Bool.true_and, Bool.and_eq_false_iff, Bool.not_eq_false', decide_eq_true_eq, decide_eq_false_iff_not] at hm1
        rw [beq_iff_eq, beq_eq_false_iff_ne]
        omega
      · by_cases t2 : e.typ = 2
        · refine .inr ⟨.inr (by rw [t2]; exact ⟨rfl, rfl⟩), ?_⟩
          simp only [t2, decide_true, Bool.or_true, Bool.true_and, Bool.and_eq_false_iff, Bool.not_eq_false', decide_eq_true_eq, decide_eq_false_iff_not] at hm1
          rw [beq_iff_eq, beq_eq_false_iff_ne]
          omega
        · exact .inl ⟨by simpa using t1, by simpa using t2⟩
    have HX8 := Lib.hid h1
    clear h1 hm1 HM1
    rcases ht with ⟨ht1, ht2⟩ | ⟨ht1 | ⟨ht1, ht2⟩, hmt | ⟨hmt, hn | ⟨hn, hg⟩⟩⟩
    all_goals
      go_enter Try.func40, Try.ntmps40
      go_wp2_with (first
        | ((with_reducible show wpList _ _ _ (⟨_, .box _ _, _, _, _, _⟩ :: _) _ _); go_must (refine wpList_box rfl ?_; intro w1 hx1 hb1 hs1; obtain ⟨c0, c1, c2, c3, c4, c5⟩ := elf_box hx1))
        | (go_at_call 65; refine (HMC.out _).mono ?_; rintro r w2 ⟨rfl, rfl⟩))
      go_ret
      exact ⟨by rw [HR.out]; rfl, hb1⟩
end Go.Proofs.Ytimnbnomaajmmaa
namespace Go.Fd
open Go.RowKit
abbrev U64 (n : Nat) : Value := .int .u64 (n : Int)
/-- A row of values in a block of its own, made in a region. -/
def Yld.lit (B : Nat) (t : TypeId) (cs : Array Value) : Yld := ⟨Nat, 0, fun g => .slice (some ⟨g, 0, none⟩) cs.size cs.size, fun g w => B ≤ g ∧ w.heap[g]? = some (.cells cs t (0, 0)),
  fun g w w' ⟨h1, h2⟩ hb => ⟨h1, by rw [hb.block g (Array.getElem?_eq_some_iff.1 h2).1]; exact h2⟩⟩
theorem walk_lit {P : Program} {Up : Exit → Prop} {L r : List Oper} {M : List (Nat × Yld)} {a : Act} {w0 : World} {E : Act → Prop} {i : Nat} {o : Oper} {B : Nat} {t : TypeId} {cs : Array Value} (hw : Region.wanted o (yielded L.toArray a.tmps) = true) (hM : madeAt M i = some (Yld.lit B t cs)) (h : ∀ w, Below w0.heap.size w0 w → Deps L M a o w → WpYld P Up o a (Yld.lit B t cs) w) (hn : ∀ g : Nat, walk P Up L M w0 E (i + 1) r (a.put o.dst (.slice (some ⟨g, 0, none⟩) cs.size cs.size))) : walk P Up L M w0 E i (o :: r) a :=
  walk_made hw hM h hn
theorem Yld.lit_got {B g : Nat} {t : TypeId} {cs : Array Value} {w : World} (h : (Yld.lit B t cs).R (.slice (some ⟨g, 0, none⟩) cs.size cs.size) w) : B ≤ g ∧ w.heap[g]? = some (.cells cs t (0, 0)) := by
  obtain ⟨x, e, hr⟩ := h
  have : g = x := by
    have e' : (Value.slice (some ⟨g, 0, none⟩) cs.size cs.size) = .slice (some ⟨x, 0, none⟩) cs.size cs.size := e
    injection e' with e'; injection e' with e'; injection e'
  subst this
  exact hr
theorem Yld.lit_mk {w0 w : World} {t : TypeId} (cs : Array Value) (h : Below w0.heap.size w0 w) : (Yld.lit w0.heap.size t cs).R (.slice (some ⟨w.heap.size, 0, none⟩) cs.size cs.size) (w.alloc (.cells cs t)) ∧ Below w.heap.size w (w.alloc (.cells cs t)) :=
  ⟨⟨w.heap.size, rfl, h.size, heap_alloc_last w _⟩, below_alloc w _⟩
theorem walk_check {P : Program} {Up : Exit → Prop} {L r : List Oper} {M : List (Nat × Yld)} {a : Act} {w0 : World} {E : Act → Prop} {i : Nat} {d : Option Tmp} {ty : TypeId} {pos : String} {aft : Array Edge} {gd : Option (Nat × Bool)} {x : Operand} {p : Addr} (hw : Region.wanted ⟨d, .nilCheck x, ty, pos, aft, gd⟩ (yielded L.toArray a.tmps) = true) (hM : madeAt M i = none) (hp : a.eval x = .pointer (some p)) (hn : walk P Up L M w0 E (i + 1) r (a.put d (.pointer (some p)))) : walk P Up L M w0 E i (⟨d, .nilCheck x, ty, pos, aft, gd⟩ :: r) a :=
  walk_val hw hM (fun w _ _ => by simp only [execOp, hp]; rfl) hn
end Go.Fd
namespace Go.Proofs.Ytimnbnomaajmmaa
open Go.RowKit Go.Fd
theorem TF : SliceT Try.prog 90 5 1 1 := SliceT.mk' (z := .int .u8 0) (by kernel_rfl) (by kernel_rfl) rfl (by omega)
/-- A file's bytes behind a pointer. -/
def FileAt (w : World) (base g : Nat) (l : List UInt8) : Prop := ∃ v, w.heap[g]? = some (.cells #[v] 90 (0, 0)) ∧ base ≤ g ∧ OB w base v l
/-- Blocks of other elements' types, but for one block, stay as they are. -/
def KeepF (g : Nat) (w w' : World) : Prop := ∀ (b : Nat) cs e fr, b ≠ g → e ≠ 5 → w.heap[b]? = some (.cells cs e fr) → w'.heap[b]? = some (.cells cs e fr)
theorem KeepF.refl (g : Nat) (w : World) : KeepF g w w := fun _ _ _ _ _ _ h => h
theorem KeepF.trans {g : Nat} {w w' w'' : World} (h : KeepF g w w') (k : KeepF g w' w'') : KeepF g w w'' := fun b cs e fr hb he hh => k b cs e fr hb he (h b cs e fr hb he hh)
theorem KeepF.of {g : Nat} {w w' : World} (h : Keeps 5 w w') : KeepF g w w' := fun b cs e fr _ he hh => h b cs e fr he hh
theorem KeepF.below {g : Nat} {w w' : World} (h : Below w.heap.size w w') : KeepF g w w' := KeepF.of (keeps_below h)
theorem FileAt.mono {w w' : World} {base g : Nat} {l : List UInt8} (h : FileAt w base g l) (hb : Below w.heap.size w w') : FileAt w' base g l := by
  obtain ⟨v, h1, h2, h3⟩ := h
  exact ⟨v, heap_below hb h1, h2, h3.mono hb⟩
theorem ob_apart {w : World} {base g : Nat} {v : Value} {l : List UInt8} {cs : Array Value} {e : TypeId} {fr : Nat × Nat} (ho : OB w base v l) (hg : w.heap[g]? = some (.cells cs e fr)) (he : e ≠ 5) : ∀ k, v.ownBlock = some k → k ≠ g := by
  intro k hk hkg
  subst hkg
  rcases ho.2 with ⟨rfl, -⟩ | ⟨g', cap, cur, rfl, -, hh, -⟩
  · cases hk
  · simp only [Value.ownBlock, Option.some.injEq] at hk
    subst hk
    rw [hg] at hh
    cases hh
    exact he rfl
theorem free_rec' {w : World} {g : Nat} {cs : Array Value} {t : TypeId} (h : w.heap[g]? = some (.cells cs t (0, 0))) (c : Nat) : w.frozen? ⟨g, c, none⟩ = false := by simp [World.frozen?, h]
/-- The store of a file's bytes. -/
theorem wpList_storeF {ops : Array Oper} {rest : List Oper} {Q : Exit → Act → World → Prop} {a : Act} {w : World} {d : Option Tmp} {ty : TypeId} {pos : String} {aft : Array Edge} {p x : Operand} {g base : Nat} {v u : Value} {l : List UInt8} (hg : w.heap[g]? = some (.cells #[u] 90 (0, 0))) (hb : base ≤ g) (ho : OB w base v l) (hp : a.eval p = .pointer (some ⟨g, 0, none⟩)) (hx : a.eval x = v) (hbw : base ≤ w.heap.size)
    (h : ∀ w1, FileAt w1 base g l → Below base w w1 → KeepF g w w1 → wpList Try.prog ops Q rest (a.put d undef) w1) :
    wpList Try.prog ops Q (⟨d, .store 90 p x, ty, pos, aft, none⟩ :: rest) a w := by
  have hc : w.cell? ⟨g, 0, none⟩ = some u := cell_rec hg 0
  have hfz := free_rec' hg 0
  have hst : Stirs (fun k => k = g) w (w.setCell ⟨g, 0, none⟩ v) := stirs_setCell (S := fun k => k = g) _ g 0 _ rfl
  obtain ⟨m, ad, cap, hm, rfl, _, _⟩ := ho.shape
  refine wpList_did (w' := w.setCell ⟨g, 0, none⟩ (.slice ad m cap)) rfl ?_ (h _ ⟨.slice ad m cap, ?_, hb, ?_⟩ ?_ ?_)
  · simp only [execOp, hp, hx]
    simp [go_sem, hc, hfz]
  · simp [World.setCell, Array.getElem?_modify, hg]
  · exact owns_stirs ho hst (ob_apart ho hg (by decide))
  · exact hst.below hbw (fun k hk => by rw [hk]; exact hb)
  · intro b cs e fr hbg he hh
    simp [World.setCell, Array.getElem?_modify, Ne.symm hbg, hh]
/-- Bytes in a block of their own. -/
theorem bs_heap {w : World} {g : Nat} {l : List UInt8} {cs : Array Value} {t : TypeId} {fr : Nat × Nat} {n : Nat} (h : w.heap[g]? = some (.cells cs t fr)) (hc : cs = (l.map B).toArray) (hn : n = l.length) : Bs w (.slice (some ⟨g, 0, none⟩) n n) l := by
  subst hc hn
  refine ⟨by simp, _, _, rfl, Nat.le_refl _, (fun h => by cases h), fun j hj => ⟨g, 0, rfl, ?_⟩⟩
  rw [Nat.zero_add, cell_rec h j]
  simp
theorem wpList_catF {ops : Array Oper} {rest : List Oper} {Q : Exit → Act → World → Prop} {a : Act} {w : World} {d : Option Tmp} {ty : TypeId} {pos : String} {aft : Array Edge} {s x : Operand} {v u : Value} {base : Nat} {l m : List UInt8} (hown : OB w base v l) (hy : Bs w u m)
    (hs : a.eval s = v) (hx : a.eval x = u) (hn : l.length + m.length ≤ 140737488355328) (hb : base ≤ w.heap.size)
    (h : ∀ v' w', OB w' base v' (l ++ m) → w.grownBy w' v.ownBlock → Below base w w' → wpList Try.prog ops Q rest (a.put d v') w') {t2 : TypeId} (ht2 : t2 = 90) :
    wpList Try.prog ops Q (⟨d, .call { callee := .builtin .append, args := #[s, x], argTypes := #[90, t2] }, ty, pos, aft, none⟩ :: rest) a w := by
  subst ht2
  refine wpList_cat TF hown hy hs hx (allB _) (by omega) hn hb fun v' w' h1 h2 h3 => h v' w' ?_ h2 h3
  unfold OB
  rw [List.length_append, List.map_append]
  exact h1
/-- append in a region that draws: bytes of a file, and a row of bytes of its own. -/
theorem step_catF {P : Program} {ops : Array Oper} {o : Oper} {a : Act} {w : World} {K : Act → World → Prop} {Q : Exit → Act → World → Prop} {E : Prop}
    (hg : o.guard = none) (s x : Operand) (t : TypeId) (e : TypeId) (T : SliceT P t e 1 1) (hop : o.op = Op.call { callee := Callee.builtin Builtin.append, args := #[s, x], argTypes := #[t, t] })
    {base : Nat} {v : Value} {l m : List UInt8} {ad : Addr} {n c : Nat} (hown : w.ownsRow base e 1 v l.length (l.map B)) (hs : a.eval s = v) (hx : a.eval x = .slice (some ad) n c) (hm : n = m.length)
    (hc : ∀ j u, (m.map B)[j]? = some u → w.cell? (ad.add j) = some u) (hn : l.length + m.length ≤ 140737488355328) (hb : base ≤ w.heap.size)
    (hK : ∀ v' w', w'.ownsRow base e 1 v' (l ++ m).length ((l ++ m).map B) → w.grownBy w' v.ownBlock → K (a.put o.dst v') w') :
    if Region.wanted o (yielded ops a.tmps) = true then Oper.wp P o a w K Q else E := by
  have hw : Region.wanted o (yielded ops a.tmps) = true := by simp [Region.wanted, hg]
  rw [if_pos hw]
  obtain ⟨i, z, h1, h2, h3, h4, h5⟩ := T.info
  subst hm
  obtain ⟨v', w', hrun, h6, h7, -⟩ := run_append_own (w := w) base t o.type e i z 1 1 T.ht h1 h2 h3 h4 h5 T.pos v l.length (l.map B) hown ad m.length c (m.map B) (by simp) hc (fun u hu => List.all_eq_true.1 (allB m) u hu) (maxLen_of (by omega)) (by omega) hb
  unfold Oper.wp
  simp [execOp, hop, resolve, invoke, builtin, hs, hx, hrun, Result.andThen]
  refine hK v' w' ?_ h7
  rw [List.length_append, List.map_append]
  exact h6
theorem fileAt_set {w : World} {g base : Nat} {v u : Value} {l : List UInt8} (hg : w.heap[g]? = some (.cells #[u] 90 (0, 0))) (hb : base ≤ g) (ho : OB w base v l) (hbw : base ≤ w.heap.size) :
    FileAt (w.setCell ⟨g, 0, none⟩ v) base g l ∧ Below base w (w.setCell ⟨g, 0, none⟩ v) ∧ KeepF g w (w.setCell ⟨g, 0, none⟩ v) := by
  have hst : Stirs (fun k => k = g) w (w.setCell ⟨g, 0, none⟩ v) := stirs_setCell (S := fun k => k = g) _ g 0 _ rfl
  refine ⟨⟨v, ?_, hb, ?_⟩, ?_, ?_⟩
  · simp [World.setCell, Array.getElem?_modify, hg]
  · exact owns_stirs ho hst (ob_apart ho hg (by decide))
  · exact hst.below hbw (fun k hk => by rw [hk]; exact hb)
  · intro b cs e fr hbg he hh
    simp [World.setCell, Array.getElem?_modify, Ne.symm hbg, hh]
theorem flatf_step {ns : List Nat} {k size n : Nat} (h : ns[k]? = some n) : (ns.take (k + 1)).flatMap (fixed · size) = (ns.take k).flatMap (fixed · size) ++ fixed n size := by
  rw [List.take_add_one, h, List.flatMap_append]
  simp
set_option maxHeartbeats 1000000 in
set_option maxRecDepth 100000 in
theorem putF_any (ns : List Nat) (size b g base : Nat) (l : List UInt8) (w : World) (hf : FileAt w base g l) (hv : w.heap[b]? = some (.cells (ns.map U64).toArray 44 (0, 0))) (hbg : b ≠ g) (hs : size ≤ 8) (hl : l.length ≤ 1000000000) (hns : ns.length ≤ 10) (hn : ∀ n ∈ ns, n < 18446744073709551616) (hbase : base ≤ w.heap.size) (cap : Nat) (_hcap : ns.length ≤ cap) :
    Calls Try.prog 44 #[.pointer (some ⟨g, 0, none⟩), .int .i64 size, .slice (some ⟨b, 0, none⟩) ns.length cap] w fun r w' => r = .returned (.tuple #[]) ∧ FileAt w' base g (l ++ ns.flatMap (fixed · size)) ∧ Below base w w' ∧ KeepF g w w' := by
  have HF := Lib.hid hf
  have HV := Lib.hid hv
  have HN := Lib.hid hn
  obtain ⟨m, hm⟩ : ∃ m, m = ns.length := ⟨_, rfl⟩
  rw [← hm] at hns _hcap ⊢
  have HM := Lib.hid hm
  have HBG := Lib.hid hbg
  clear hf hv hn hm hbg
  go_enter Try.func44, Try.ntmps44
  go_wp2
  go_loopw [11] (fun i wr => ∃ k : Nat, i = .int .i64 k ∧ k ≤ m ∧ Hid (FileAt wr base g (l ++ (ns.take k).flatMap (fixed · size))) ∧ Hid (Below base w wr) ∧ Hid (KeepF g w wr)) (fun i _ => m - (intOf i).toNat)
  case atStart => exact ⟨0, rfl, Nat.zero_le _, by simpa [Hid] using HF.out, Below.refl _ _, KeepF.refl _ _⟩
  case round =>
    obtain ⟨k, rfl, hk, HO, HB, HK⟩ := hrel
    by_cases hlt : k < m
    · have X1 := Lib.hid (show ns[k]? = some (ns[k]'(by have := HM.out; omega)) from List.getElem?_eq_getElem _)
      generalize ns[k]'(by have := HM.out; omega) = n at *
      have hc := cell_rec (HK.out _ _ _ _ HBG.out (by decide) HV.out) k
      rw [List.getElem?_toArray, List.getElem?_map, X1.out] at hc
      simp only [Option.map_some] at hc
      have HST := Lib.hid (flatf_step (size := size) X1.out)
      have HLN := Lib.hid (show (l ++ (ns.take k).flatMap (fixed · size)).length ≤ 1000000100 by
        rw [List.length_append, flat_len' (fun n => length_fixed n size), List.length_take]
        have := Nat.mul_le_mul (Nat.min_le_left k ns.length) hs
        have := Nat.mul_le_mul_right 8 hk
        omega)
      have hnn := HN.out n (List.mem_of_getElem? X1.out)
      generalize hT : l ++ (ns.take k).flatMap (fixed · size) = T at *
      have HT := Lib.hid hT
      have HBR := Lib.hid HB.out
      clear hT
      go_wp2
      go_loopw [16] (fun j wx => ∃ i : Nat, j = .int .i64 i ∧ i ≤ size ∧ Hid (FileAt wx base g (T ++ fixed n i)) ∧ Hid (Below base w wx) ∧ Hid (KeepF g w wx)) (fun j _ => size - (intOf j).toNat)
      case atStart => exact ⟨0, rfl, Nat.zero_le _, by simpa [Hid, fixed] using HO.out, HBR.out, HK.out⟩
      case round =>
        obtain ⟨i, rfl, hi, HO2, HB2, HK2⟩ := hrel
        by_cases hlt2 : i < size
        · obtain ⟨v, hg, hbg, hov⟩ := HO2.out
          have HG := Lib.hid hg
          have c0 := cell_rec hg 0
          simp only [List.getElem?_toArray, List.getElem?_cons_zero] at c0
          have hAB := fun (x : Above wr) (b k : Nat) (h : b < wr.heap.size) => Above.cell x b k h
          have hblt : g < wr.heap.size := block_lt c0
          have HSH := Lib.hid (shr_byte n i)
          go_wp2
          have hlast := HG.out
          have hw8 : IntKind.i64.wrap (8 * (i : Int)) = 8 * (i : Int) := by
            have := i64_small (n := 8 * i) (by omega)
            simpa using this
          have HOV := Lib.hid (fun o => (show OB (wr.drew.alloc o) base v (T ++ fixed n i) from hov.mono (((Below.refl _ _).drew).alloc (Nat.le_refl _) o)))
          have HLC : Hid (∀ j u, ([UInt8.ofNat (n / 256 ^ i)].map B)[j]? = some u → (wr.drew.alloc (.cells #[.int .u8 ((n : Int) / 2 ^ (8 * i) % 256)] 5)).cell? ((⟨wr.heap.size, 0, none⟩ : Addr).add j) = some u) := by
            intro j u hj
            obtain rfl : j = 0 := by
              have := (List.getElem?_eq_some_iff.1 hj).1
              simp at this
              exact this
            rw [HSH.out]
            have := heap_alloc_last wr.drew (.cells #[.int .u8 ((UInt8.ofNat (n / 256 ^ i)).toNat : Int)] 5)
            exact (cell_rec this 0).trans hj
          have HLL := Lib.hid (show (T ++ fixed n i).length + [UInt8.ofNat (n / 256 ^ i)].length ≤ 140737488355328 by rw [List.length_append, length_fixed]; have h1 := HLN.out; simp; omega)
          have HBL := Lib.hid (fun o => (show base ≤ (wr.drew.alloc o).heap.size by rw [World.size_alloc]; have := HB2.out.size; simp; omega))
          have HGA := Lib.hid (fun o => heap_below (show Below wr.heap.size wr (wr.drew.alloc o) from ((Below.refl _ _).drew).alloc (Nat.le_refl _) o) HG.out)
          have HBA := Lib.hid (fun o => (show Below wr.heap.size wr (wr.drew.alloc o) from ((Below.refl _ _).drew).alloc (Nat.le_refl _) o))
          go_region_law (refine step_catF rfl (.tmp 22) (.tmp 28) 90 5 TF rfl (m := [UInt8.ofNat (n / 256 ^ i)]) (HOV.out _) rfl rfl rfl HLC.out HLL.out (HBL.out _) ?_; intro v3 w3 hv3 hg3; obtain ⟨m3, ad3, cap3, hm3, rfl, _, _⟩ := (show OB w3 base v3 (T ++ fixed n i ++ [UInt8.ofNat (n / 256 ^ i)]) from hv3).shape; have hg33 := keeps_own (HOV.out _) hg3 _ _ _ _ (by decide) (HGA.out _); have c3 := cell_rec hg33 0; have z3 := free_rec' hg33 0; simp only [List.getElem?_toArray, List.getElem?_cons_zero] at c3; have HG33 := Lib.hid hg33; have HV3 := Lib.hid hv3; have HGR3 := Lib.hid hg3; clear hg33 hv3 hg3)
          all_goals
            have HBX := Lib.hid (HB2.out.trans ((HBA.out (.cells #[.int .u8 ((n : Int) / 2 ^ (8 * i) % 256)] 5)).mono (Nat.le_trans hbase HB2.out.size)))
            have HB3 := Lib.hid (HBX.out.trans (below_of_grown HGR3.out (Nat.le_trans hbase HBX.out.size) fun k hk => (World.ownsRow.lt (HOV.out (.cells #[] 0)) k hk).1))
            have HK3 := Lib.hid ((HK2.out.trans (KeepF.below (g := g) (HBA.out (.cells #[.int .u8 ((n : Int) / 2 ^ (8 * i) % 256)] 5)))).trans (KeepF.of (keeps_own (HOV.out _) HGR3.out)))
            obtain ⟨hf4, hb4, hk4⟩ := fileAt_set HG33.out hbg (show OB w3 base (.slice ad3 m3 cap3) (T ++ fixed n i ++ [UInt8.ofNat (n / 256 ^ i)]) from HV3.out) (Nat.le_trans hbase HB3.out.size)
            have HF4 := Lib.hid (show FileAt (w3.setCell ⟨g, 0, none⟩ (.slice ad3 m3 cap3)) base g (T ++ fixed n (i + 1)) by rw [fixed_snoc, ← List.append_assoc]; exact hf4)
            have HB4 := Lib.hid (HB3.out.trans hb4)
            have HK4 := Lib.hid (HK3.out.trans hk4)
            clear hf4 hb4 hk4 c3 z3 c0 hov hg hAB hw8
            go_wp2
            go_roundw
            case rel =>
              first
                | exact ⟨i + 1, by go_num, by omega, HF4.out, HB4.out, HK4.out⟩
                | ((repeat apply Exists.intro); exact ⟨⟨i + 1, by go_num, by omega, HF4.out, HB4.out, HK4.out⟩, rfl⟩)
            case measure => simp [intOf] <;> omega
        · obtain rfl : i = size := by omega
          have HF4 := Lib.hid (show FileAt wr base g (l ++ (ns.take (k + 1)).flatMap (fixed · i)) by rw [HST.out, ← List.append_assoc, HT.out]; exact HO2.out)
          go_wp2
          go_roundw
          case rel =>
            first
              | exact ⟨k + 1, by go_num, by omega, HF4.out, HB2.out, HK2.out⟩
              | ((repeat apply Exists.intro); exact ⟨⟨k + 1, by go_num, by omega, HF4.out, HB2.out, HK2.out⟩, rfl⟩)
          case measure => simp [intOf] <;> omega
    · have hkn : ns.take k = ns := List.take_of_length_le (by have := HM.out; omega)
      rw [hkn] at HO
      go_wp2
      go_end0
      exact ⟨rfl, HO.out, HB.out, HK.out⟩
end Go.Proofs.Ytimnbnomaajmmaa
namespace Go.Fd
open Go.RowKit
section
variable {P : Program} (w : World)
theorem zeroCells_one {z : Value} (hz : z.cells = #[z]) (n : Nat) : Builtin.zeroCells z.cells n = (List.replicate n z).toArray := by
  rw [hz]
  unfold Builtin.zeroCells
  apply Array.ext
  · simp
  · intro j h1 h2
    simp [Nat.mod_one]
theorem run_asIntOf' (k : IntKind) (m : Int) : (asIntOf (.int k m)).run P w = .ok (k, m) w := rfl
theorem run_storeCells_nil' (a : Addr) : (storeCells a []).run P w = .ok () w := rfl
theorem run_append_zeros (base : Nat) (t u ty e : TypeId) (i : TypeInfo) (z : Value) (ku k : IntKind) (ht : P.underlying t = some (.slice e)) (hu : P.underlying u = some (.int ku)) (hi : P.info? e = some i) (hz : i.zero = some z)
    (hsize : i.size = 1) (hby : i.bytes = 1) (hzc : z.cells = #[z]) (h1 : z.oneCell' = true)
    (v : Value) (n : Nat) (xs : List Value) (hown : w.ownsRow base e 1 v n xs) (m : Nat) (hle : n + m ≤ 70368744177664) (hbase : base ≤ w.heap.size) :
    ∃ v' w', (Builtin.append_ #[t, u] ty #[v, .int k (m : Int)]).run P w = .ok v' w' ∧ w'.ownsRow base e 1 v' (n + m) (xs ++ List.replicate m z) ∧ w.grownBy w' v.ownBlock := by
  have hw : IntKind.i64.wrap (m : Int) = m := by simp [IntKind.wrap, IntKind.bits, IntKind.signed]; omega
  have hneg : ¬ ((m : Int) < 0) := by omega
  have hbig : ¬ (281474976710656 < (m : Int)) := by omega
  have hzn := zeroCells_one hzc
  have hlen : (xs ++ List.replicate m z).length = n + m := by rw [List.length_append, hown.1, List.length_replicate]; omega
  have grown : ∀ (old : Nat), old < n + m → ∀ (row : Option Nat),
      (w.drew.alloc (.cells (xs.toArray ++ (List.replicate m z).toArray ++ Builtin.zeroCells z.cells (grownCap w (n + m) old e - (n + m))) e)).ownsRow base e 1
        (.slice (some ⟨w.heap.size, 0, none⟩) (n + m) (grownCap w (n + m) old e)) (n + m) (xs ++ List.replicate m z) ∧
      w.grownBy (w.drew.alloc (.cells (xs.toArray ++ (List.replicate m z).toArray ++ Builtin.zeroCells z.cells (grownCap w (n + m) old e - (n + m))) e)) row := by
    intro old ho row
    have hge := grownCap_ge w (n + m) old e
    have hcm : grownCap w (n + m) old e ≤ maxLen := grownCap_le_maxLen w (n + m) old e (maxLen_of (by omega))
    refine ⟨⟨by rw [hlen, Nat.mul_one], .inr ⟨w.heap.size, _, _, rfl, hbase, heap_alloc_new w.drew _, hge, hcm, ?_, ?_⟩⟩, ⟨rfl, rfl, rfl, by simp, fun k hk _ => Below.heap_alloc w.drew _ k (by simpa using hk)⟩⟩
    · rw [hzn]
      have h3 := hown.1
      simp only [Array.size_append, List.size_toArray, List.length_replicate]
      omega
    · simp only [Array.toList_append, List.append_assoc, Nat.mul_one]
      rw [← List.append_assoc, ← hlen]
      exact List.take_left
  rcases hown.2 with ⟨rfl, rfl⟩ | ⟨g, cap, cur, rfl, hbg, hg, hnc, hcm, hcs, htake⟩
  · have hx : xs = [] := List.eq_nil_of_length_eq_zero (by simpa using hown.1)
    subst hx
    by_cases hm : m = 0
    · subst hm
      refine ⟨.slice none 0 0, w, ?_, World.ownsRow_nil w base e 1, ⟨rfl, rfl, rfl, Nat.le_refl _, fun _ _ _ => rfl⟩⟩
      simp [Builtin.append_, run_underlying ht, run_underlying hu, sizeOf, typeInfo, hi, hby, asInt, run_asIntOf', show IntKind.i64.wrap 0 = 0 from rfl]
    · have hgr := grown 0 (by omega) (Value.ownBlock (.slice none 0 0))
      have h48 : ¬ (281474976710656 < Builtin.nextslicecap m 0) := by rw [nextslicecap_zero (by omega)]; omega
      refine ⟨.slice (some ⟨w.heap.size, 0, none⟩) m (grownCap w m 0 e), w.drew.alloc (.cells ((List.replicate m z).toArray ++ Builtin.zeroCells z.cells (grownCap w m 0 e - m)) e), ?_, ?_, ?_⟩
      · simp [Builtin.append_, run_underlying ht, run_underlying hu, sizeOf, typeInfo, zeroValue, hi, hz, hsize, hby, asInt, run_asIntOf', hw, hm, hneg, hbig, h48, Question.forced, run_firstCells_none, newRow, grownCap, hzn]
        intro h
        omega
      · simpa using hgr.1
      · simpa using hgr.2
  · by_cases hroom : n + m ≤ cap
    · have hl : (List.replicate m z).length = m := List.length_replicate
      have hfit : n * 1 + (List.replicate m z).length ≤ cur.size := by rw [hl, hcs]; omega
      have hst := run_storeCells_at P g (n * 1) e (List.replicate m z) 0 cur w hg (by simpa using hfit) (fun u hu => by rw [(List.mem_replicate.1 hu).2]; exact h1)
      simp only [Nat.add_zero, Nat.mul_one] at hst
      by_cases hm : m = 0
      · subst hm
        refine ⟨.slice (some ⟨g, 0, none⟩) n cap, w, ?_, ?_, ⟨rfl, rfl, rfl, Nat.le_refl _, fun _ _ _ => rfl⟩⟩
        · simp [Builtin.append_, run_underlying ht, run_underlying hu, sizeOf, typeInfo, zeroValue, hi, hz, hby, asInt, run_asIntOf', show IntKind.i64.wrap 0 = 0 from rfl, Addr.add_lit, run_storeCells_nil', hnc]
        · rw [List.replicate_zero, List.append_nil, Nat.add_zero]
          exact hown
      refine ⟨.slice (some ⟨g, 0, none⟩) (n + m) cap, w.setRow g (cur.toList.take n ++ List.replicate m z ++ cur.toList.drop (n + m)).toArray, ?_, ?_, ?_⟩
      · simp [Builtin.append_, run_underlying ht, run_underlying hu, sizeOf, typeInfo, zeroValue, hi, hz, hsize, hby, asInt, run_asIntOf', hw, hm, hneg, hbig, hroom, hzn, Addr.add_lit, hst]
      · refine ⟨by rw [hlen, Nat.mul_one], .inr ⟨g, cap, _, rfl, hbg, setRow_heap w g cur _ e _ hg, hroom, hcm, ?_, ?_⟩⟩
        · simp only [List.size_toArray, List.length_append, List.length_take, List.length_drop, Array.length_toList, List.length_replicate]
          omega
        · rw [Nat.mul_one] at htake
          rw [htake, ← hlen, Nat.mul_one]
          exact List.take_left
      · exact ⟨rfl, rfl, rfl, by simp, fun k _ hk => setRow_other w g k _ (fun e => hk (by simp [Value.ownBlock, e]))⟩
    · have hgr := grown cap (by omega) (Value.ownBlock (.slice (some ⟨g, 0, none⟩) n cap))
      have hm : m ≠ 0 := by omega
      have holds : ∀ j u, xs[j]? = some u → w.cell? ((⟨g, 0, none⟩ : Addr).add j) = some u := hown.cells (g := g) rfl
      have hfo := run_firstCells_some (P := P) w.drew 1 n ⟨g, 0, none⟩ n cap xs hown.1 (by simpa using holds)
      have h48 : ¬ (281474976710656 < Builtin.nextslicecap (n + m) cap) := by
        have := growslice_fits (need := n + m) (old := cap) (bytes := 1) (by omega) (by omega)
        omega
      have h63 : ¬ (9223372036854775807 < ((n : Int) + (m : Int))) := by omega
      refine ⟨_, _, ?_, hgr.1, hgr.2⟩
      simp [Builtin.append_, run_underlying ht, run_underlying hu, sizeOf, typeInfo, zeroValue, hi, hz, hsize, hby, asInt, run_asIntOf', hw, hm, hneg, hbig, h48, h63, hroom, hfo, Question.forced, newRow, grownCap, hzn]
end
end Go.Fd
namespace Go.Proofs.Ytimnbnomaajmmaa
open Go.RowKit Go.Fd
/-- append of a made slice in a region that draws. -/
theorem step_zerosF {ops : Array Oper} {o : Oper} {a : Act} {w : World} {K : Act → World → Prop} {Q : Exit → Act → World → Prop} {E : Prop}
    (hg : o.guard = none) (s x : Operand) (hop : o.op = Op.call { callee := Callee.builtin Builtin.append, args := #[s, x], argTypes := #[90, 3] })
    {base : Nat} {v : Value} {l : List UInt8} (d : Nat) {k : IntKind} {z : Int} (hown : OB w base v l) (hs : a.eval s = v) (hx : a.eval x = .int k z) (hz : z = (d : Int)) (hn : l.length + d ≤ 70368744177664) (hb : base ≤ w.heap.size)
    (hK : ∀ v' w', OB w' base v' (l ++ List.replicate d 0) → w.grownBy w' v.ownBlock → K (a.put o.dst v') w') :
    if Region.wanted o (yielded ops a.tmps) = true then Oper.wp Try.prog o a w K Q else E := by
  have hw : Region.wanted o (yielded ops a.tmps) = true := by simp [Region.wanted, hg]
  rw [if_pos hw]
  subst hz
  have hinfo := info_parts (P := Try.prog) (e := 5) (z := .int .u8 0) (size := 1) (bytes := 1) (by kernel_rfl)
  obtain ⟨i, h2, h3, h4, h5⟩ := hinfo
  obtain ⟨v', w', hrun, h6, h7⟩ := run_append_zeros (P := Try.prog) w base 90 3 o.type 5 i (.int .u8 0) .i64 k TF.ht (by kernel_rfl) h2 h3 h4 h5 rfl rfl v l.length (l.map B) hown d hn hb
  unfold Oper.wp
  simp [execOp, hop, resolve, invoke, builtin, hs, hx, hrun, Result.andThen]
  refine hK v' w' ?_ h7
  unfold OB
  rw [List.length_append, List.map_append, List.length_replicate, List.map_replicate]
  exact h6
set_option maxHeartbeats 1000000 in
set_option maxRecDepth 100000 in
theorem fillF_any (d g base : Nat) (z : Int) (l : List UInt8) (w : World) (hf : FileAt w base g l) (hz : z = ((l.length + d : Nat) : Int)) (hl : l.length + d ≤ 10000000000) (hbase : base ≤ w.heap.size) :
    Calls Try.prog 45 #[.pointer (some ⟨g, 0, none⟩), .int .i64 z] w fun r w' => r = .returned (.tuple #[]) ∧ FileAt w' base g (l ++ List.replicate d 0) ∧ Below base w w' ∧ KeepF g w w' := by
  obtain ⟨v, hg, hbg, hov⟩ := hf
  have HG := Lib.hid hg
  have HOV0 := Lib.hid hov
  obtain ⟨m, ad, cap, hm, rfl, _, _⟩ := hov.shape
  have c0 := cell_rec hg 0
  simp only [List.getElem?_toArray, List.getElem?_cons_zero] at c0
  have hw8 : IntKind.i64.wrap (z - (m : Int)) = (d : Int) := by
    have h1 := hm.out
    rw [hz, ← h1]
    simp [IntKind.wrap, IntKind.bits, IntKind.signed]
    omega
  have HOV := Lib.hid (show OB w.drew base (.slice ad m cap) l from hov.mono ((Below.refl _ _).drew))
  have HBD := Lib.hid (show Below w.heap.size w w.drew from (Below.refl _ _).drew)
  have HGA := Lib.hid (heap_below HBD.out HG.out)
  have HLL := Lib.hid (show l.length + d ≤ 70368744177664 by omega)
  have HX := Lib.hid hz
  clear hov hg hz
  go_enter Try.func45, Try.ntmps45
  go_wp2
  go_region_law (refine step_zerosF rfl (.tmp 7) (.tmp 13) rfl d HOV.out rfl rfl rfl HLL.out ?_ ?_; exact hbase; intro v3 w3 hv3 hg3; obtain ⟨m3, ad3, cap3, hm3, rfl, _, _⟩ := hv3.shape; have hg33 := keeps_own HOV.out hg3 _ _ _ _ (by decide) HGA.out; have c3 := cell_rec hg33 0; have z3 := free_rec' hg33 0; simp only [List.getElem?_toArray, List.getElem?_cons_zero] at c3; have HG33 := Lib.hid hg33; have HV3 := Lib.hid hv3; have HGR3 := Lib.hid hg3; clear hg33 hv3 hg3)
  all_goals
    have HB3 := Lib.hid ((HBD.out.mono hbase).trans (below_of_grown HGR3.out (Nat.le_trans hbase HBD.out.size) fun k hk => (World.ownsRow.lt HOV.out k hk).1))
    have HK3 := Lib.hid ((KeepF.below (g := g) HBD.out).trans (KeepF.of (keeps_own HOV.out HGR3.out)))
    obtain ⟨hf4, hb4, hk4⟩ := fileAt_set HG33.out hbg HV3.out (Nat.le_trans hbase HB3.out.size)
    have HF4 := Lib.hid hf4
    have HB4 := Lib.hid (HB3.out.trans hb4)
    have HK4 := Lib.hid (HK3.out.trans hk4)
    clear hf4 hb4 hk4 c3 z3 c0 hbg hw8
    go_wp2
    go_end0
    exact ⟨rfl, HF4.out, HB4.out, HK4.out⟩
end Go.Proofs.Ytimnbnomaajmmaa
