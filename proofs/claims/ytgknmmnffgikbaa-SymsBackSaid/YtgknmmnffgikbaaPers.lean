/-
  A region that draws its order, whose operations read, or make memory and leave alone what was there: what is known of each operation's value serves every order.
-/
import Derived.Test.YtgknmmnffgikbaaMem
import Derived.Orders
namespace Go.Fd
open Go.RowKit

/-- o depends on operation j. -/
def depB (o : Oper) (j : Nat) : Bool := o.after.any fun e => e.on == j && Region.binds .any e
/-- Slot t holds, when operation i is run, what it held ahead of the region. -/
def oldB (l : List Oper) (i t : Nat) : Bool := l.zipIdx.all fun (o, k) => o.dst != some t || k == i || depB o i
/-- Each operation has a slot of its own, below n, and depends on earlier ones alone. -/
def persB (l : List Oper) (n : Nat) : Bool :=
  l.zipIdx.all fun (o, k) => (match o.dst with | some d => decide (d < n) | none => false) && o.after.all (fun e => !Region.binds .any e || decide (e.on < k)) && l.zipIdx.all fun (o', k') => k == k' || o.dst != o'.dst

/-- What one operation owes. -/
def OpTo (P : Program) (l : List Oper) (o : Oper) (a : Act) (w : World) (R : Value → World → Prop) : Prop :=
  if Region.wanted o (yielded l.toArray a.tmps) then o.wp P a w (fun a' w' => ∃ v, a' = a.put o.dst v ∧ R v w') (fun _ _ _ => False) else R undef w

structure At (P : Program) (l : List Oper) (V : Nat → Value → World → Prop) (a0 : Act) (w0 : World) (i : Nat) (o : Oper) (a : Act) (w : World) : Prop where
  below : Below w0.heap.size w0 w
  size : a.tmps.size = a0.tmps.size
  old : ∀ t, oldB l i t = true → a.eval (.tmp t) = a0.eval (.tmp t)
  dep : ∀ j oj d, l[j]? = some oj → oj.dst = some d → depB o j = true → V j (a.eval (.tmp d)) w

def PersOps (P : Program) (l : List Oper) (V : Nat → Value → World → Prop) (a0 : Act) (w0 : World) : Nat → List Oper → Prop
  | _, [] => True
  | i, o :: r => (∀ a w, At P l V a0 w0 i o a w → OpTo P l o a w fun v w' => V i v w' ∧ Below w.heap.size w w') ∧ PersOps P l V a0 w0 (i + 1) r

theorem PersOps.get {P : Program} {l : List Oper} {V : Nat → Value → World → Prop} {a0 : Act} {w0 : World} : ∀ {k : Nat} {r : List Oper}, PersOps P l V a0 w0 k r → ∀ j o, r[j]? = some o →
    ∀ a w, At P l V a0 w0 (k + j) o a w → OpTo P l o a w fun v w' => V (k + j) v w' ∧ Below w.heap.size w w'
  | _, [], _, j, o, h => by simp at h
  | k, x :: r, hp, 0, o, h => by simp at h; subst h; exact hp.1
  | k, x :: r, hp, j + 1, o, h => by
    have := hp.2.get j o (by simpa using h)
    rw [show k + 1 + j = k + (j + 1) by omega] at this
    exact this

def putAll (vs : Nat → Value) : Nat → List Oper → Act → Act
  | _, [], a => a
  | k, o :: r, a => putAll vs (k + 1) r (a.put o.dst (vs k))

theorem oper_wp_any {P : Program} {o : Oper} {a : Act} {w : World} {K : Act → World → Prop} {Q : Exit → Act → World → Prop} (h : o.wp P a w K (fun _ _ _ => False)) : o.wp P a w K Q := by
  unfold Oper.wp at *
  generalize (execOp a.eval o).run P w = r at *
  cases r with
  | ok n w' =>
    cases n <;> simp only [Oper.upon] at h ⊢ <;>
      first
        | exact h
        | exact Calls.mono h (fun e w'' he => by
            cases e with
            | returned v => exact he
            | panicked c => exact (he : False).elim
            | outgrown => obtain ⟨_, _, h0⟩ := (he : LetsOut _); exact (h0 : False).elim)
  | halt x w' => cases x <;> simp only [Oper.upon] at h ⊢

theorem put_size (a : Act) (d : Option Tmp) (v : Value) : (a.put d v).tmps.size = a.tmps.size := by cases d <;> simp [Act.put]
theorem put_defers (a : Act) (d : Option Tmp) (v : Value) : (a.put d v).defers = a.defers := by cases d <;> rfl
theorem put_get_ne (a : Act) (d : Option Tmp) (v : Value) (t : Nat) (h : d ≠ some t) : (a.put d v).eval (.tmp t) = a.eval (.tmp t) := by
  cases d with
  | none => rfl
  | some d =>
    have hne : d ≠ t := fun e => h (by rw [e])
    simp [Act.put, Act.eval, Array.getD_eq_getD_getElem?, hne]
theorem put_get_eq (a : Act) (d : Nat) (v : Value) (h : d < a.tmps.size) : (a.put (some d) v).eval (.tmp d) = v := by
  simp [Act.put, Act.eval, Array.getD_eq_getD_getElem?, h]

theorem act_ext {a b : Act} (h1 : a.tmps.size = b.tmps.size) (h2 : a.defers = b.defers) (h3 : ∀ t, a.eval (.tmp t) = b.eval (.tmp t)) : a = b := by
  cases a with
  | mk at_ ad =>
    cases b with
    | mk bt bd =>
      simp only at h1 h2
      subst h2
      congr 1
      apply Array.ext h1
      intro i hi1 hi2
      have := h3 i
      simpa [Act.eval, Array.getD_eq_getD_getElem?, Array.getElem?_eq_getElem hi1, Array.getElem?_eq_getElem hi2] using this

theorem putAll_size (vs : Nat → Value) : ∀ (k : Nat) (l : List Oper) (a : Act), (putAll vs k l a).tmps.size = a.tmps.size
  | _, [], _ => rfl
  | k, o :: r, a => by rw [putAll, putAll_size, put_size]
theorem putAll_defers (vs : Nat → Value) : ∀ (k : Nat) (l : List Oper) (a : Act), (putAll vs k l a).defers = a.defers
  | _, [], _ => rfl
  | k, o :: r, a => by rw [putAll, putAll_defers, put_defers]
theorem putAll_old (vs : Nat → Value) (t : Nat) : ∀ (k : Nat) (l : List Oper) (a : Act), (∀ o ∈ l, o.dst ≠ some t) → (putAll vs k l a).eval (.tmp t) = a.eval (.tmp t)
  | _, [], _, _ => rfl
  | k, o :: r, a, h => by rw [putAll, putAll_old vs t (k + 1) r _ (fun o ho => h o (by simp [ho])), put_get_ne _ _ _ _ (h o (by simp))]
theorem putAll_new (vs : Nat → Value) (t : Nat) : ∀ (k : Nat) (l : List Oper) (a : Act) (j : Nat) (o : Oper), l[j]? = some o → o.dst = some t → t < a.tmps.size → (∀ j' o', l[j']? = some o' → o'.dst = some t → j' = j) →
    (putAll vs k l a).eval (.tmp t) = vs (k + j)
  | _, [], _, _, _, h, _, _, _ => by simp at h
  | k, x :: r, a, 0, o, h, hd, hs, hu => by
    simp at h; subst h
    rw [putAll, putAll_old vs t (k + 1) r]
    · rw [hd]; exact put_get_eq _ _ _ hs
    · intro o' ho' e
      obtain ⟨j', hj'⟩ := List.getElem?_of_mem ho'
      have := hu (j' + 1) o' (by simpa using hj') e
      omega
  | k, x :: r, a, j + 1, o, h, hd, hs, hu => by
    rw [putAll, putAll_new vs t (k + 1) r _ j o (by simpa using h) hd (by rw [put_size]; exact hs) (fun j' o' h1 h2 => by have := hu (j' + 1) o' (by simpa using h1) h2; omega)]
    congr 1; omega

theorem persB_spec {l : List Oper} {n : Nat} (h : persB l n = true) {k : Nat} {o : Oper} (ho : l[k]? = some o) :
    (∃ d, o.dst = some d ∧ d < n) ∧ (∀ e ∈ o.after, Region.binds .any e = true → e.on < k) ∧ ∀ k' o', l[k']? = some o' → k' ≠ k → o'.dst ≠ o.dst := by
  unfold persB at h
  rw [List.all_eq_true] at h
  have hm : (o, k) ∈ l.zipIdx := by rw [List.mem_zipIdx_iff_getElem?]; exact ho
  have := h _ hm
  simp only [Bool.and_eq_true, Array.all_eq_true_iff_forall_mem, List.all_eq_true, Bool.or_eq_true, decide_eq_true_eq, Bool.not_eq_true'] at this
  obtain ⟨⟨h1, h2⟩, h3⟩ := this
  refine ⟨?_, fun e he hb => ?_, fun k' o' ho' hne he => ?_⟩
  · cases hd : o.dst with
    | none => rw [hd] at h1; simp at h1
    | some d => rw [hd] at h1; exact ⟨d, rfl, by simpa using h1⟩
  · rcases h2 e he with h | h
    · rw [hb] at h; cases h
    · exact h
  · have hm' : (o', k') ∈ l.zipIdx := by rw [List.mem_zipIdx_iff_getElem?]; exact ho'
    have := h3 _ hm'
    simp only [beq_iff_eq, bne_iff_ne, ne_eq] at this
    rcases this with h | h
    · exact hne h.symm
    · exact h he.symm

theorem depB_of {o : Oper} {j : Nat} (h : depB o j = true) : ∃ e ∈ o.after, e.on = j ∧ Region.binds .any e = true := by
  unfold depB at h
  rw [Array.any_eq_true'] at h
  obtain ⟨e, he, h⟩ := h
  simp only [Bool.and_eq_true, beq_iff_eq] at h
  exact ⟨e, he, h.1, h.2⟩

section
variable {P : Program} {l : List Oper} {V : Nat → Value → World → Prop} {a0 : Act} {w0 : World}

/-- What holds while the region is run, in whatever order. -/
structure Inv (P : Program) (l : List Oper) (V : Nat → Value → World → Prop) (a0 : Act) (w0 : World) (listed : Array Bool) (a : Act) (w : World) : Prop where
  lsize : listed.size = l.length
  below : Below w0.heap.size w0 w
  size : a.tmps.size = a0.tmps.size
  defers : a.defers = a0.defers
  known : ∀ i o d, l[i]? = some o → listed.getD i true = true → o.dst = some d → V i (a.eval (.tmp d)) w
  old : ∀ t, (∀ i o, l[i]? = some o → listed.getD i true = true → o.dst ≠ some t) → a.eval (.tmp t) = a0.eval (.tmp t)
  closed : ∀ i o, l[i]? = some o → listed.getD i true = true → ∀ e ∈ o.after, Region.binds .any e = true → listed.getD e.on true = true

theorem getD_lt {listed : Array Bool} {i : Nat} (h : i < listed.size) : listed.getD i true = listed.getD i false := by
  simp [Array.getD_eq_getD_getElem?, Array.getElem?_eq_getElem h]
theorem getD_set_true' {listed : Array Bool} {i j : Nat} (h : listed.getD j true = true) : (listed.setIfInBounds i true).getD j true = true := by
  by_cases hij : i = j
  · subst hij
    by_cases hi : i < listed.size
    · simp [Array.getD_eq_getD_getElem?, hi]
    · simp [Array.getD_eq_getD_getElem?, hi]
  · rw [getD_set_ne _ hij]; exact h
theorem getD_set_self {listed : Array Bool} {i : Nat} (d : Bool) (h : i < listed.size) : (listed.setIfInBounds i true).getD i d = true := by
  simp [Array.getD_eq_getD_getElem?, h]

theorem Inv.step {listed : Array Bool} {a : Act} {w w' : World} {i : Nat} {o : Oper} {v : Value} (hP : persB l a0.tmps.size = true) (hV : ∀ i v w w', V i v w → Below w.heap.size w w' → V i v w')
    (h : Inv P l V a0 w0 listed a w) (ho : l[i]? = some o) (hd : ∀ e ∈ o.after, Region.binds .any e = true → listed.getD e.on true = true) (hv : V i v w') (hb : Below w.heap.size w w') :
    Inv P l V a0 w0 (listed.setIfInBounds i true) (a.put o.dst v) w' := by
  obtain ⟨⟨d, hod, hdn⟩, _, hun⟩ := persB_spec hP ho
  have hi : i < listed.size := by rw [h.lsize]; exact (List.getElem?_eq_some_iff.1 ho).1
  refine ⟨by simpa using h.lsize, h.below.trans (hb.mono h.below.size), by rw [put_size]; exact h.size, by rw [put_defers]; exact h.defers, ?_, ?_, ?_⟩
  · intro j oj dj hj hl hdj
    by_cases hij : i = j
    · subst hij
      rw [ho] at hj
      cases hj
      rw [hod] at hdj ⊢
      cases hdj
      rw [put_get_eq _ _ _ (by rw [h.size]; exact hdn)]
      exact hv
    · rw [getD_set_ne _ hij] at hl
      rw [put_get_ne _ _ _ _ (fun e => hun j oj hj (Ne.symm hij) (hdj.trans e.symm))]
      exact hV _ _ _ _ (h.known j oj dj hj hl hdj) hb
  · intro t ht
    rw [put_get_ne _ _ _ _ (ht i o ho (getD_set_self _ hi))]
    exact h.old t fun j oj hj hl => ht j oj hj (getD_set_true' hl)
  · intro j oj hj hl e he hbd
    by_cases hij : i = j
    · subst hij
      rw [ho] at hj
      cases hj
      exact getD_set_true' (hd e he hbd)
    · rw [getD_set_ne _ hij] at hl
      exact getD_set_true' (h.closed j oj hj hl e he hbd)

theorem all_listed {listed : Array Bool} (hP : persB l a0.tmps.size = true) (hs : listed.size = l.length) (hr : Region.ready .any l.toArray listed = []) : ∀ i, i < l.length → listed.getD i true = true := by
  intro i
  induction i using Nat.strongRecOn with
  | ind i ih =>
    intro hi
    cases hl : listed.getD i true with
    | true => rfl
    | false =>
      have ho : l[i]? = some l[i] := List.getElem?_eq_getElem hi
      obtain ⟨_, h2, _⟩ := persB_spec hP ho
      have : i ∈ Region.ready .any l.toArray listed := by
        rw [mem_ready]
        refine ⟨hl, l[i], by simp, fun e he hb => ?_⟩
        have hlt := h2 e he hb
        rw [← getD_lt (by omega)]
        exact ih e.on hlt (by omega)
      rw [hr] at this
      cases this

theorem wpAny_pers {Q : Exit → Act → World → Prop} (hP : persB l a0.tmps.size = true) (hV : ∀ i v w w', V i v w → Below w.heap.size w w' → V i v w')
    (hop : PersOps P l V a0 w0 0 l)
    (hend : ∀ vs w, Below w0.heap.size w0 w → (∀ i, i < l.length → V i (vs i) w) → Q .normal (putAll vs 0 l a0) w) :
    ∀ (fuel : Nat) (U : List Nat) (listed : Array Bool) (a : Act) (w : World), U.length ≤ fuel → (∀ i, i < l.length → listed.getD i true = false → i ∈ U) → Inv P l V a0 w0 listed a w → wpAny P .any l.toArray Q fuel listed a w := by
  have hfin : ∀ (listed : Array Bool) (a : Act) (w : World), Inv P l V a0 w0 listed a w → (∀ i, i < l.length → listed.getD i true = true) → Q .normal a w := by
    intro listed a w h hall
    have hE := hend (fun i => a.eval (.tmp (((l[i]?).bind (fun (o : Oper) => o.dst)).getD 0))) w h.below (fun i hi => by
      have ho : l[i]? = some l[i] := List.getElem?_eq_getElem hi
      obtain ⟨⟨d, hod, _⟩, _, _⟩ := persB_spec hP ho
      have := h.known i _ d ho (hall i hi) hod
      simp only [ho, Option.bind_some, hod, Option.getD_some]
      exact this)
    have he : putAll (fun i => a.eval (.tmp (((l[i]?).bind (fun (o : Oper) => o.dst)).getD 0))) 0 l a0 = a := by
      refine act_ext (by rw [putAll_size, h.size]) (by rw [putAll_defers, h.defers]) fun t => ?_
      by_cases ht : ∃ (i : Nat) (o : Oper), l[i]? = some o ∧ o.dst = some t
      · obtain ⟨i, o, ho, hod⟩ := ht
        obtain ⟨⟨d, hod', hdn⟩, _, hun⟩ := persB_spec hP ho
        rw [hod] at hod'; cases hod'
        rw [putAll_new _ t 0 l a0 i o ho hod hdn (fun j' o' h1 h2 => by
          by_cases hj : j' = i
          · exact hj
          · exact absurd (h2.trans hod.symm) (hun j' o' h1 hj))]
        simp [ho, hod]
      · rw [putAll_old]
        · exact (h.old t fun i o ho _ e => ht ⟨i, o, ho, e⟩).symm
        · intro o ho e
          obtain ⟨i, hi⟩ := List.getElem?_of_mem ho
          exact ht ⟨i, o, hi, e⟩
    rw [← he]
    exact hE
  intro fuel
  induction fuel with
  | zero =>
    intro U listed a w hU hun h
    have hall : ∀ i, i < l.length → listed.getD i true = true := by
      intro i hi
      cases hl : listed.getD i true with
      | true => rfl
      | false =>
        have := hun i hi hl
        rw [List.eq_nil_of_length_eq_zero (by omega : U.length = 0)] at this
        cases this
    refine ⟨?_, hfin listed a w h hall⟩
    rw [List.eq_nil_iff_forall_not_mem]
    intro i hi
    rw [mem_ready] at hi
    obtain ⟨h1, o, ho, _⟩ := hi
    have := hall i (by have := (Array.getElem?_eq_some_iff.1 ho).1; simpa using this)
    rw [h1] at this; cases this
  | succ fuel ih =>
    intro U listed a w hU hun h
    refine ⟨fun hr => hfin listed a w h (all_listed hP h.lsize hr), fun i hi => ?_⟩
    rw [mem_ready] at hi
    obtain ⟨hl, o, ho, hdeps⟩ := hi
    have ho' : l[i]? = some o := by simpa using ho
    have hil : i < l.length := (List.getElem?_eq_some_iff.1 ho').1
    have hdeps' : ∀ e ∈ o.after, Region.binds .any e = true → listed.getD e.on true = true := fun e he hb => by
      have hlt := (persB_spec hP ho').2.1 e he hb
      rw [getD_lt (by rw [h.lsize]; omega)]
      exact hdeps e he hb
    have hAt : At P l V a0 w0 i o a w := by
      refine ⟨h.below, h.size, fun t ht => ?_, fun j oj d hj hdj hdep => ?_⟩
      · refine h.old t fun k ok hk hlk e => ?_
        unfold oldB at ht
        rw [List.all_eq_true] at ht
        have := ht (ok, k) (by rw [List.mem_zipIdx_iff_getElem?]; exact hk)
        simp only [Bool.or_eq_true, bne_iff_ne, ne_eq, beq_iff_eq] at this
        rcases this with (h' | h') | h'
        · exact h' e
        · subst h'; rw [hl] at hlk; cases hlk
        · obtain ⟨ed, hed, hon, hbd⟩ := depB_of h'
          have := h.closed k ok hk hlk ed hed hbd
          rw [hon, hl] at this; cases this
      · obtain ⟨ed, hed, hon, hbd⟩ := depB_of hdep
        have hlj := hdeps' ed hed hbd
        rw [hon] at hlj
        exact h.known j oj d hj hlj hdj
    have hto := hop.get i o ho' a w (by rw [Nat.zero_add]; exact hAt)
    rw [Nat.zero_add] at hto
    have hnext : ∀ v w', V i v w' → Below w.heap.size w w' → wpAny P .any l.toArray Q fuel (listed.setIfInBounds i true) (a.put o.dst v) w' := by
      intro v w' hv hb
      refine ih (U.erase i) _ _ _ ?_ ?_ (h.step hP hV ho' hdeps' hv hb)
      · rw [List.length_erase_of_mem (hun i hil hl)]; omega
      · intro j hj hlj
        have hji : j ≠ i := by
          rintro rfl
          rw [getD_set_self _ (by rw [h.lsize]; exact hj)] at hlj; cases hlj
        rw [getD_set_ne _ (Ne.symm hji)] at hlj
        exact (List.mem_erase_of_ne hji).2 (hun j hj hlj)
    unfold wpOp
    rw [ho]
    simp only
    unfold OpTo at hto
    split at hto
    · next hw =>
      rw [if_pos hw]
      refine .inl (oper_wp_any ?_)
      exact Oper.wp_mono (fun a' w' ⟨v, ha, hv, hb⟩ => by rw [ha]; exact hnext v w' hv hb) hto
    · next hw =>
      rw [if_neg hw]
      exact hnext undef w hto.1 hto.2

/-- THE LAW. -/
theorem wp_region_pers {id : Nat} {Q : Exit → Act → World → Prop} (V : Nat → Value → World → Prop) (hm : P.follows .mixedOrders = true) (hP : persB l a0.tmps.size = true) (hV : ∀ i v w w', V i v w → Below w.heap.size w w' → V i v w')
    (hop : PersOps P l V a0 w0.drew 0 l)
    (hend : ∀ vs w, Below w0.heap.size w0 w → (∀ i, i < l.length → V i (vs i) w) → Q .normal (putAll vs 0 l a0) w) : (Code.region id l.toArray true).wp P Q a0 w0 := by
  refine wp_region_any hm ?_
  refine wpAny_pers (w0 := w0.drew) hP hV hop (fun vs w hb h => hend vs w ⟨hb.os, hb.tape, hb.output, hb.size, hb.block⟩ h) _ (List.range l.length) _ _ _ (by simp) (fun i hi _ => List.mem_range.2 hi) ?_
  have hf : ∀ i, i < l.length → (Array.replicate l.toArray.size false).getD i true = false := fun i hi => by simp [Array.getD_eq_getD_getElem?, hi]
  refine ⟨by simp, Below.refl _ _, rfl, rfl, fun i o d ho hl => ?_, fun t _ => rfl, fun i o ho hl => ?_⟩
  · rw [hf i (List.getElem?_eq_some_iff.1 ho).1] at hl; cases hl
  · rw [hf i (List.getElem?_eq_some_iff.1 ho).1] at hl; cases hl
end

/-! ### One operation -/
section
variable {P : Program} {l : List Oper} {o : Oper} {a : Act} {w : World} {R : Value → World → Prop}
theorem OpTo.val {v : Value} {w' : World} (hw : Region.wanted o (yielded l.toArray a.tmps) = true) (hr : (execOp a.eval o).run P w = .ok (.value v) w') (h : R v w') : OpTo P l o a w R := by
  unfold OpTo
  rw [if_pos hw]
  unfold Oper.wp Oper.upon
  rw [hr]
  exact ⟨v, rfl, h⟩
theorem OpTo.call {f : FuncId} {args : Array Value} (hw : Region.wanted o (yielded l.toArray a.tmps) = true) (hr : (execOp a.eval o).run P w = .ok (.enter f args) w) (h : Calls P f args w fun e w' => ∃ v, e = .returned v ∧ R v w') : OpTo P l o a w R := by
  unfold OpTo
  rw [if_pos hw]
  unfold Oper.wp Oper.upon
  rw [hr]
  refine h.mono fun e w' ⟨v, he, hv⟩ => ?_
  subst he
  exact ⟨v, rfl, hv⟩
theorem OpTo.off (hw : Region.wanted o (yielded l.toArray a.tmps) = false) (h : R undef w) : OpTo P l o a w R := by
  unfold OpTo
  rw [if_neg (by rw [hw]; exact Bool.false_ne_true)]
  exact h
theorem wanted_on {j d : Nat} {oj : Oper} {b c : Bool} (hg : o.guard = some (j, b)) (hj : l[j]? = some oj) (hd : oj.dst = some d) (hs : d < a.tmps.size) (hv : a.eval (.tmp d) = .bool c) : Region.wanted o (yielded l.toArray a.tmps) = (c == b) := by
  have e : a.tmps[d]? = some (.bool c) := by
    have : a.tmps.getD d undef = .bool c := hv
    rw [Array.getD_eq_getD_getElem?, Array.getElem?_eq_getElem hs, Option.getD_some] at this
    rw [Array.getElem?_eq_getElem hs, this]
  simp [Region.wanted, hg, yielded, hj, hd, e]
theorem wanted_free (hg : o.guard = none) : Region.wanted o (yielded l.toArray a.tmps) = true := by simp [Region.wanted, hg]
end

/-- What is known of a value, and stays known while memory is made. -/
structure Stab where
  R : Value → World → Prop
  st : ∀ v w w', R v w → Below w.heap.size w w' → R v w'
def Stab.is (c : Value) : Stab := ⟨fun v _ => v = c, fun _ _ _ h _ => h⟩
def Stab.any : Stab := ⟨fun _ _ => True, fun _ _ _ _ _ => trivial⟩
def stabOf (Vl : List Stab) (i : Nat) : Value → World → Prop := (Vl.getD i Stab.any).R

theorem wp_region_stab {P : Program} {l : List Oper} {a0 : Act} {w0 : World} {id : Nat} {Q : Exit → Act → World → Prop} (Vl : List Stab) (hm : P.follows .mixedOrders = true) (hP : persB l a0.tmps.size = true)
    (hop : PersOps P l (stabOf Vl) a0 w0.drew 0 l)
    (hend : ∀ vs w, Below w0.heap.size w0 w → (∀ i, i < l.length → stabOf Vl i (vs i) w) → Q .normal (putAll vs 0 l a0) w) : (Code.region id l.toArray true).wp P Q a0 w0 :=
  wp_region_pers (stabOf Vl) hm hP (fun i => (Vl.getD i Stab.any).st) hop hend

theorem PersOps.cons {P : Program} {l r : List Oper} {V : Nat → Value → World → Prop} {a0 : Act} {w0 : World} {i : Nat} {o : Oper} (h : ∀ a w, At P l V a0 w0 i o a w → OpTo P l o a w fun v w' => V i v w' ∧ Below w.heap.size w w')
    (hr : PersOps P l V a0 w0 (i + 1) r) : PersOps P l V a0 w0 i (o :: r) := ⟨h, hr⟩
theorem PersOps.nil {P : Program} {l : List Oper} {V : Nat → Value → World → Prop} {a0 : Act} {w0 : World} {i : Nat} : PersOps P l V a0 w0 i [] := trivial

section
variable {P : Program} {l : List Oper} {a : Act} {w : World} {d : Option Tmp} {ty : TypeId} {pos : String} {aft : Array Edge} {g : Option (Nat × Bool)}
/-- An operation that comes to one value and leaves the world. -/
theorem OpTo.is {o : Oper} {c : Value} (hw : Region.wanted o (yielded l.toArray a.tmps) = true) (hr : (execOp a.eval o).run P w = .ok (.value c) w) : OpTo P l o a w fun v w' => (Stab.is c).R v w' ∧ Below w.heap.size w w' :=
  OpTo.val hw hr ⟨rfl, Below.refl _ _⟩
theorem run_move {x : Operand} {c : Value} (hx : a.eval x = c) : (execOp a.eval ⟨d, .move x, ty, pos, aft, g⟩).run P w = .ok (.value c) w := by simp [execOp, hx]
theorem run_assign {x : Operand} {c : Value} (hx : a.eval x = c) : (execOp a.eval ⟨d, .assign x, ty, pos, aft, g⟩).run P w = .ok (.value c) w := by simp [execOp, hx]
theorem run_pick {x y z : Operand} {b : Bool} {u v c : Value} (hx : a.eval x = .bool b) (hy : a.eval y = u) (hz : a.eval z = v) (hc : (if b then u else v) = c) : (execOp a.eval ⟨d, .pick x y z, ty, pos, aft, g⟩).run P w = .ok (.value c) w := by
  subst hc; cases b <;> simp [execOp, hx, hy, hz, asBool]
theorem run_conv {x : Operand} {s t : TypeId} {u c : Value} (hx : a.eval x = u) (hr : (convert s t u).run P w = .ok c w) : (execOp a.eval ⟨d, .convert s t x, ty, pos, aft, g⟩).run P w = .ok (.value c) w := by
  simp [execOp, hx, hr]
theorem run_bin {x y : Operand} {t t' : TypeId} {op : BinOp} {u v c : Value} (hx : a.eval x = u) (hy : a.eval y = v) (hr : (do eqGuard op t x y u v; binOp op t u v : Sem Value).run P w = .ok c w) : (execOp a.eval ⟨d, .binOp op t x y t', ty, pos, aft, g⟩).run P w = .ok (.value c) w := by
  simp only [execOp, hx, hy]
  rw [Sem.run_bind, hr]
  rfl
theorem run_ext {x : Operand} {n : Nat} {u c : Value} (hx : a.eval x = u) (hr : (Instr.extract u n).run P w = .ok c w) : (execOp a.eval ⟨d, .extract x n, ty, pos, aft, g⟩).run P w = .ok (.value c) w := by
  simp [execOp, hx, hr]
theorem run_call {f : FuncId} {fn : Func} {args : Array Operand} {ts : Array TypeId} {vals : Array Value} (hf : P.funcs[f]? = some fn) (hn : (fn.name == "runtime.NumGoroutine") = false) {c : Code} (hb : fn.body = some c) (hx : args.map a.eval = vals) :
    (execOp a.eval ⟨d, .call { callee := .value (.func f), args := args, argTypes := ts }, ty, pos, aft, g⟩).run P w = .ok (.enter f vals) w := by
  have h1 : fn.name ≠ "runtime.NumGoroutine" := by simpa using hn
  have hc : (callFunc f vals).run P w = .ok (.enter f vals) w := by
    simp [callFunc, hf, h1, hb]
  simp only [execOp, resolve, hx]
  show Sem.run P (do let d ← Deferred.ofValue (Value.func (.func f) #[] #[]) vals; invoke d.target d.args) w = _
  simp [Deferred.ofValue, invoke, hc]
end
end Go.Fd
