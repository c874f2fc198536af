/-
  Part 2 of 3: laws and walks for pagesAll_holds; no condition of its own.
-/
import Derived.Test.YtmpelmjhimalpaaPa1
import Derived.BigQuiet
import Derived.StillTail
import Derived.Maps.RangeWalk
import Derived.Deep.WholeRow
import Derived.Laws.Bits64b
import Derived.OrdersHeld
import Derived.Deep.RegionLaw
namespace Go.Fd
open Go.RowKit
/-- What an operation that makes memory, or a call, comes to: a value of a shape, and what is known of it. -/
structure Yld where
  X : Type
  inh : X
  shape : X → Value
  rel : X → World → Prop
  st : ∀ x w w', rel x w → Below w.heap.size w w' → rel x w'
def Yld.R (S : Yld) (v : Value) (w : World) : Prop := ∃ x, v = S.shape x ∧ S.rel x w
def madeAt (M : List (Nat × Yld)) (i : Nat) : Option Yld := (M.find? (fun p => p.1 == i)).map (·.2)
/-- Worlds above one. -/
structure Above (w0 : World) where
  w : World
  h : Below w0.heap.size w0 w
instance (w0 : World) : Nonempty (Above w0) := ⟨⟨w0, Below.refl _ _⟩⟩
/-- What is known of the operations that one waits for. -/
def Deps (L : List Oper) (M : List (Nat × Yld)) (a : Act) (o : Oper) (w : World) : Prop :=
  ∀ j oj d S, L[j]? = some oj → oj.dst = some d → depB o j = true → madeAt M j = some S → Region.wanted oj (yielded L.toArray a.tmps) = true → S.R (a.eval (.tmp d)) w
/-- What is known of a way that leaves the region: U is what may go up. -/
def Ups (Up : Exit → Prop) (d : List Deferred) (w : World) (x : Exit) (a : Act) (w' : World) : Prop := Up x ∧ a.defers = d ∧ Below w.heap.size w w'
/-- Nothing goes up. -/
def NoUp : Exit → Prop := fun _ => False
def WpYld (P : Program) (Up : Exit → Prop) (o : Oper) (a : Act) (S : Yld) (w : World) : Prop :=
  o.wp P a w (fun a' w' => ∃ v, a' = a.put o.dst v ∧ S.R v w' ∧ Below w.heap.size w w') (Ups Up a.defers w)
theorem oper_wp_to {P : Program} {o : Oper} {a : Act} {w : World} {K : Act → World → Prop} {Q Q' : Exit → Act → World → Prop} (hq : ∀ x a w, Q x a w → Q' x a w) (h : o.wp P a w K Q) : o.wp P a w K Q' := by
  unfold Oper.wp at *
  generalize (execOp a.eval o).run P w = r at *
  cases r with
  | ok n w' =>
    cases n <;> simp only [Oper.upon] at h ⊢ <;>
      first
        | exact h
        | exact Calls.mono h (fun e w'' he => by
            cases e with
            | returned v => exact he
            | panicked c => exact hq _ _ _ he
            | outgrown => obtain ⟨a0, w0, h0⟩ := (he : LetsOut _); exact ⟨a0, w0, hq _ _ _ h0⟩)
  | halt x w' => cases x <;> simp only [Oper.upon] at h ⊢ <;> first | exact h | exact hq _ _ _ h
def walk (P : Program) (Up : Exit → Prop) (L : List Oper) (M : List (Nat × Yld)) (w0 : World) (E : Act → Prop) : Nat → List Oper → Act → Prop
  | _, [], a => E a
  | i, o :: r, a =>
    if Region.wanted o (yielded L.toArray a.tmps) = true then
      match madeAt M i with
      | some S => (∀ w, Below w0.heap.size w0 w → Deps L M a o w → WpYld P Up o a S w) ∧ ∀ x, walk P Up L M w0 E (i + 1) r (a.put o.dst (S.shape x))
      | none => ∃ v, (∀ w, Below w0.heap.size w0 w → Deps L M a o w → (execOp a.eval o).run P w = .ok (.value v) w) ∧ walk P Up L M w0 E (i + 1) r (a.put o.dst v)
    else walk P Up L M w0 E (i + 1) r (a.put o.dst undef)
/-- The slots that an operation looks at are those of operations that it waits for, or old ones. -/
def readsB (L H : List Oper) : Bool := H.zipIdx.all fun (o, i) =>
  (match o.op with | .select _ _ => false | _ => true) &&
  (o.looksAt L.toArray).all (fun t => oldB H i t || H.zipIdx.any fun (o', j) => o'.dst == some t && depB o j) &&
  (match o.guard with | some (g, _) => depB o g | none => true)
/-- Operation n waits for all ahead of it, and those behind it each for the one ahead. -/
def tailB (L : List Oper) (n : Nat) : Bool :=
  ((List.range n).all fun k => (match L[n]? with | some s => depB s k | none => true) || (L.take n).zipIdx.any fun (o, k') => decide (k < k') && depB o k) &&
  (L.zipIdx.all fun (o, t) => decide (t ≤ n) || depB o (t - 1)) &&
  Region.seqB .any L.toArray (L.length - n) n (List.replicate n true ++ List.replicate (L.length - n) false).toArray
def walkB (L : List Oper) (n sz : Nat) : Bool := decide (n ≤ L.length) && persB (L.take n) sz && readsB L (L.take n) && (decide (n = L.length) || tailB L n)
theorem putAll_congr {u u' : Nat → Value} : ∀ (l : List Oper) (k : Nat) (a : Act), (∀ j, k ≤ j → j < k + l.length → u j = u' j) → putAll u k l a = putAll u' k l a
  | [], _, _, _ => rfl
  | o :: r, k, a, h => by
    rw [putAll, putAll, h k (Nat.le_refl _) (by simp)]
    exact putAll_congr r (k + 1) _ fun j h1 h2 => h j (by omega) (by simp; omega)
theorem putAll_append {u : Nat → Value} : ∀ (l r : List Oper) (k : Nat) (a : Act), putAll u k (l ++ r) a = putAll u (k + l.length) r (putAll u k l a)
  | [], _, _, _ => by simp [putAll]
  | o :: l, r, k, a => by
    rw [List.cons_append, putAll, putAll, putAll_append l r (k + 1)]
    congr 1
    simp; omega
def fr (u : Nat → Value) (H : List Oper) (a0 : Act) (i : Nat) : Act := putAll u 0 (H.take i) a0
theorem fr_succ {u : Nat → Value} {H : List Oper} {a0 : Act} {i : Nat} {o : Oper} (h : H[i]? = some o) : fr u H a0 (i + 1) = (fr u H a0 i).put o.dst (u i) := by
  unfold fr
  obtain ⟨h1, h2⟩ := List.getElem?_eq_some_iff.1 h
  rw [List.take_succ_eq_append_getElem h1, putAll_append, h2, List.length_take, Nat.min_eq_left (by omega), Nat.zero_add]
  rfl
theorem fr_congr {u u' : Nat → Value} {H : List Oper} {a0 : Act} {i : Nat} (h : ∀ j, j < i → u j = u' j) : fr u H a0 i = fr u' H a0 i :=
  putAll_congr _ _ _ fun j _ hj => h j (by simp at hj; omega)
theorem fr_size (u : Nat → Value) (H : List Oper) (a0 : Act) (i : Nat) : (fr u H a0 i).tmps.size = a0.tmps.size := putAll_size _ _ _ _
theorem fr_defers (u : Nat → Value) (H : List Oper) (a0 : Act) (i : Nat) : (fr u H a0 i).defers = a0.defers := putAll_defers _ _ _ _
section
variable {P : Program} {Up : Exit → Prop} {L H : List Oper} {M : List (Nat × Yld)} {a0 : Act} {w0 : World} {E : Act → Prop}
theorem fr_new (hP : persB H a0.tmps.size = true) {u : Nat → Value} {i j : Nat} {o : Oper} {d : Nat} (ho : H[j]? = some o) (hd : o.dst = some d) (hj : j < i) : (fr u H a0 i).eval (.tmp d) = u j := by
  obtain ⟨⟨d', hd', hlt⟩, _, hu⟩ := persB_spec hP ho
  rw [hd] at hd'; cases hd'
  have := putAll_new u d 0 (H.take i) a0 j o (by rw [List.getElem?_take, if_pos hj]; exact ho) hd hlt fun j' o' h1 h2 => by
    by_cases e : j' = j
    · exact e
    · rw [List.getElem?_take] at h1
      split at h1
      · exact absurd (h2.trans hd.symm) (hu j' o' h1 e)
      · cases h1
  rwa [Nat.zero_add] at this
theorem fr_old {u : Nat → Value} {i t : Nat} (h : ∀ j o, j < i → H[j]? = some o → o.dst ≠ some t) : (fr u H a0 i).eval (.tmp t) = a0.eval (.tmp t) := by
  refine putAll_old u t 0 _ _ fun o ho => ?_
  obtain ⟨j, hj⟩ := List.getElem?_of_mem ho
  rw [List.getElem?_take] at hj
  split at hj
  · exact h j o (by assumption) hj
  · cases hj
theorem readsB_spec (hR : readsB L H = true) {i : Nat} {o : Oper} (ho : H[i]? = some o) :
    (∀ cs b, o.op ≠ .select cs b) ∧ (∀ t ∈ o.looksAt L.toArray, oldB H i t = true ∨ ∃ j oj, H[j]? = some oj ∧ oj.dst = some t ∧ depB o j = true) ∧ ∀ g b, o.guard = some (g, b) → depB o g = true := by
  unfold readsB at hR
  rw [List.all_eq_true] at hR
  have := hR (o, i) (by rw [List.mem_zipIdx_iff_getElem?]; exact ho)
  simp only [Bool.and_eq_true] at this
  obtain ⟨⟨h1, h2⟩, h3⟩ := this
  refine ⟨(fun cs b e => by rw [e] at h1; cases h1), fun t ht => ?_, (fun g b hg => by rw [hg] at h3; exact h3)⟩
  have := List.all_eq_true.1 h2 t ht
  rw [Bool.or_eq_true] at this
  rcases this with h | h
  · exact .inl h
  · obtain ⟨⟨oj, j⟩, hm, h⟩ := List.any_eq_true.1 h
    rw [List.mem_zipIdx_iff_getElem?] at hm
    simp only [Bool.and_eq_true, beq_iff_eq] at h
    exact .inr ⟨j, oj, hm, h.1, h.2⟩
theorem dep_lt (hP : persB H a0.tmps.size = true) {i j : Nat} {o : Oper} (ho : H[i]? = some o) (h : depB o j = true) : j < i := by
  obtain ⟨e, he, hon, hb⟩ := depB_of h
  have := (persB_spec hP ho).2.1 e he hb
  omega
theorem old_not (hP : persB H a0.tmps.size = true) {i j t : Nat} {o oj : Oper} (_ : H[i]? = some o) (hj : H[j]? = some oj) (hold : oldB H i t = true) (hji : j < i) : oj.dst ≠ some t := by
  unfold oldB at hold
  rw [List.all_eq_true] at hold
  have := hold (oj, j) (by rw [List.mem_zipIdx_iff_getElem?]; exact hj)
  simp only [Bool.or_eq_true, bne_iff_ne, ne_eq, beq_iff_eq] at this
  rcases this with (h | h) | h
  · exact h
  · omega
  · have := dep_lt hP hj h; omega
/-- What an operation comes to leans on the slots that it looks at alone. -/
theorem same_of_looks {o : Oper} {a b : Act} (hs : ∀ cs c, o.op ≠ .select cs c) (hz : a.tmps.size = b.tmps.size) (h : ∀ t ∈ o.looksAt L.toArray, a.eval (.tmp t) = b.eval (.tmp t)) :
    execOp a.eval o = execOp b.eval o ∧ Region.wanted o (yielded L.toArray a.tmps) = Region.wanted o (yielded L.toArray b.tmps) := by
  constructor
  · refine execOp_congr o hs fun x hx => ?_
    cases x with
    | tmp t => exact h t (List.mem_append_left _ (List.mem_filterMap.2 ⟨.tmp t, by simpa using hx, rfl⟩))
    | const v => rfl
    | global g => rfl
    | func f => rfl
  · unfold Region.wanted
    cases hg : o.guard with
    | none => rfl
    | some gw =>
      obtain ⟨g, want⟩ := gw
      have hy : yielded L.toArray a.tmps g = yielded L.toArray b.tmps g := by
        unfold yielded
        cases ht : ((L.toArray)[g]?).bind (·.dst) with
        | none => rfl
        | some t =>
          have ht' : ((L[g]?).bind fun x => x.dst) = some t := by simpa using ht
          have := h t (by simp [Oper.looksAt, hg, ht'])
          have e : a.tmps[t]? = b.tmps[t]? := by
            by_cases hlt : t < a.tmps.size
            · have hlt' : t < b.tmps.size := Nat.lt_of_lt_of_eq hlt hz
              have h2 : a.tmps.getD t undef = b.tmps.getD t undef := this
              rw [Array.getD_eq_getD_getElem?, Array.getD_eq_getD_getElem?, Array.getElem?_eq_getElem hlt, Array.getElem?_eq_getElem hlt'] at h2
              rw [Array.getElem?_eq_getElem hlt, Array.getElem?_eq_getElem hlt']
              simpa using h2
            · rw [Array.getElem?_eq_none (Nat.not_lt.1 hlt), Array.getElem?_eq_none (Nat.not_lt.1 (hz ▸ hlt))]
          simp only [Option.bind_some, e]
      simp only [hy]
structure PathP (P : Program) (Up : Exit → Prop) (L H : List Oper) (M : List (Nat × Yld)) (a0 : Act) (w0 : World) (E : Act → Prop) (p : (i : Nat) → (S : Yld) → S.X) (u : Nat → Value) : Prop where
  step : ∀ i o, H[i]? = some o →
    if Region.wanted o (yielded L.toArray (fr u H a0 i).tmps) = true then
      match madeAt M i with
      | some S => (∀ w, Below w0.heap.size w0 w → Deps L M (fr u H a0 i) o w → WpYld P Up o (fr u H a0 i) S w) ∧ u i = S.shape (p i S)
      | none => ∀ w, Below w0.heap.size w0 w → Deps L M (fr u H a0 i) o w → (execOp (fr u H a0 i).eval o).run P w = .ok (.value (u i)) w
    else u i = undef
  fin : E (fr u H a0 H.length)
theorem path_aux (p : (i : Nat) → (S : Yld) → S.X) : ∀ (r : List Oper) (k : Nat) (u0 : Nat → Value), H.drop k = r → k ≤ H.length → walk P Up L M w0 E k r (fr u0 H a0 k) →
    ∃ u, (∀ j, j < k → u j = u0 j) ∧ (∀ i o, k ≤ i → H[i]? = some o →
      if Region.wanted o (yielded L.toArray (fr u H a0 i).tmps) = true then
        match madeAt M i with
        | some S => (∀ w, Below w0.heap.size w0 w → Deps L M (fr u H a0 i) o w → WpYld P Up o (fr u H a0 i) S w) ∧ u i = S.shape (p i S)
        | none => ∀ w, Below w0.heap.size w0 w → Deps L M (fr u H a0 i) o w → (execOp (fr u H a0 i).eval o).run P w = .ok (.value (u i)) w
      else u i = undef) ∧ E (fr u H a0 H.length)
  | [], k, u0, hr, hk, h => by
    have : H.length ≤ k := by simpa using hr
    obtain rfl : k = H.length := by omega
    exact ⟨u0, fun _ _ => rfl, fun i o hi ho => by have := (List.getElem?_eq_some_iff.1 ho).1; omega, h⟩
  | o :: r, k, u0, hr, hk, h => by
    have ho : H[k]? = some o := by
      have : (H.drop k)[0]? = some o := by rw [hr]; rfl
      simpa using this
    have hr' : H.drop (k + 1) = r := by
      rw [← List.drop_drop, hr]; rfl
    have hk' : k + 1 ≤ H.length := (List.getElem?_eq_some_iff.1 ho).1
    have key : ∀ v, walk P Up L M w0 E (k + 1) r ((fr u0 H a0 k).put o.dst v) → ∃ u, (∀ j, j < k → u j = u0 j) ∧ u k = v ∧ (∀ i o, k + 1 ≤ i → H[i]? = some o →
      if Region.wanted o (yielded L.toArray (fr u H a0 i).tmps) = true then
        match madeAt M i with
        | some S => (∀ w, Below w0.heap.size w0 w → Deps L M (fr u H a0 i) o w → WpYld P Up o (fr u H a0 i) S w) ∧ u i = S.shape (p i S)
        | none => ∀ w, Below w0.heap.size w0 w → Deps L M (fr u H a0 i) o w → (execOp (fr u H a0 i).eval o).run P w = .ok (.value (u i)) w
      else u i = undef) ∧ E (fr u H a0 H.length) := by
      intro v hv
      have e1 : fr (fun j => if j = k then v else u0 j) H a0 k = fr u0 H a0 k := fr_congr fun j hj => by
        show (if j = k then v else u0 j) = u0 j
        rw [if_neg (by omega)]
      have e2 : fr (fun j => if j = k then v else u0 j) H a0 (k + 1) = (fr u0 H a0 k).put o.dst v := by
        rw [fr_succ ho, e1]
        simp
      obtain ⟨u, h1, h2, h3⟩ := path_aux p r (k + 1) (fun j => if j = k then v else u0 j) hr' hk' (by rw [e2]; exact hv)
      refine ⟨u, fun j hj => ?_, ?_, h2, h3⟩
      · rw [h1 j (by omega), if_neg (by omega)]
      · rw [h1 k (by omega), if_pos rfl]
    have fin : ∀ v, (∃ u, (∀ j, j < k → u j = u0 j) ∧ u k = v ∧ (∀ i o, k + 1 ≤ i → H[i]? = some o →
      if Region.wanted o (yielded L.toArray (fr u H a0 i).tmps) = true then
        match madeAt M i with
        | some S => (∀ w, Below w0.heap.size w0 w → Deps L M (fr u H a0 i) o w → WpYld P Up o (fr u H a0 i) S w) ∧ u i = S.shape (p i S)
        | none => ∀ w, Below w0.heap.size w0 w → Deps L M (fr u H a0 i) o w → (execOp (fr u H a0 i).eval o).run P w = .ok (.value (u i)) w
      else u i = undef) ∧ E (fr u H a0 H.length)) → (if Region.wanted o (yielded L.toArray (fr u0 H a0 k).tmps) = true then
        match madeAt M k with
        | some S => (∀ w, Below w0.heap.size w0 w → Deps L M (fr u0 H a0 k) o w → WpYld P Up o (fr u0 H a0 k) S w) ∧ v = S.shape (p k S)
        | none => ∀ w, Below w0.heap.size w0 w → Deps L M (fr u0 H a0 k) o w → (execOp (fr u0 H a0 k).eval o).run P w = .ok (.value v) w
      else v = undef) → ∃ u, (∀ j, j < k → u j = u0 j) ∧ (∀ i o, k ≤ i → H[i]? = some o →
      if Region.wanted o (yielded L.toArray (fr u H a0 i).tmps) = true then
        match madeAt M i with
        | some S => (∀ w, Below w0.heap.size w0 w → Deps L M (fr u H a0 i) o w → WpYld P Up o (fr u H a0 i) S w) ∧ u i = S.shape (p i S)
        | none => ∀ w, Below w0.heap.size w0 w → Deps L M (fr u H a0 i) o w → (execOp (fr u H a0 i).eval o).run P w = .ok (.value (u i)) w
      else u i = undef) ∧ E (fr u H a0 H.length) := by
      rintro v ⟨u, h1, h2, h3, h4⟩ hstep
      refine ⟨u, h1, fun i o' hi ho' => ?_, h4⟩
      by_cases hik : i = k
      · subst hik
        rw [ho] at ho'
        cases ho'
        rw [fr_congr (u' := u0) h1, h2]
        exact hstep
      · exact h3 i o' (by omega) ho'
    rw [walk] at h
    by_cases hw : Region.wanted o (yielded L.toArray (fr u0 H a0 k).tmps) = true
    · rw [if_pos hw] at h
      cases hM : madeAt M k with
      | some S =>
        simp only [hM] at h
        refine fin (S.shape (p k S)) (key _ (h.2 (p k S))) ?_
        rw [if_pos hw, hM]
        exact ⟨h.1, rfl⟩
      | none =>
        simp only [hM] at h
        obtain ⟨v, h1, h2⟩ := h
        refine fin v (key _ h2) ?_
        rw [if_pos hw, hM]
        exact h1
    · rw [if_neg hw] at h
      refine fin undef (key _ h) ?_
      rw [if_neg hw]
theorem path_exists (p : (i : Nat) → (S : Yld) → S.X) (h : walk P Up L M w0 E 0 H a0) : ∃ u, PathP P Up L H M a0 w0 E p u := by
  obtain ⟨u, _, h2, h3⟩ := path_aux (a0 := a0) p H 0 (fun _ => undef) rfl (Nat.zero_le _) (by unfold fr; rw [List.take_zero]; exact h)
  exact ⟨u, fun i o ho => h2 i o (Nat.zero_le _) ho, h3⟩
/-- The frames of a path at a slot that an operation looks at. -/
theorem looks_fr (hP : persB H a0.tmps.size = true) (hR : readsB L H = true) {i : Nat} {o : Oper} (ho : H[i]? = some o) {t : Nat} (ht : t ∈ o.looksAt L.toArray) :
    (oldB H i t = true ∧ ∀ u, (fr u H a0 i).eval (.tmp t) = a0.eval (.tmp t)) ∨ ∃ j oj, H[j]? = some oj ∧ oj.dst = some t ∧ depB o j = true ∧ j < i ∧ ∀ u, (fr u H a0 i).eval (.tmp t) = u j := by
  rcases (readsB_spec hR ho).2.1 t ht with h | ⟨j, oj, hj, hd, hdep⟩
  · exact .inl ⟨h, fun u => fr_old fun j oj hji hj => old_not hP ho hj h hji⟩
  · have hlt := dep_lt hP ho hdep
    exact .inr ⟨j, oj, hj, hd, hdep, hlt, fun u => fr_new hP hj hd hlt⟩
/-- Whether an operation is wanted stands from its own place on. -/
theorem wanted_later (hP : persB H a0.tmps.size = true) (hR : readsB L H = true) (hL : ∀ (i : Nat) (o : Oper), H[i]? = some o → L[i]? = some o) {u : Nat → Value} {j i : Nat} {oj : Oper} (hj : H[j]? = some oj) (hji : j ≤ i) :
    Region.wanted oj (yielded L.toArray (fr u H a0 i).tmps) = Region.wanted oj (yielded L.toArray (fr u H a0 j).tmps) := by
  unfold Region.wanted
  cases hg : oj.guard with
  | none => rfl
  | some gw =>
    obtain ⟨g, want⟩ := gw
    have hdep := (readsB_spec hR hj).2.2 g want hg
    have hlt := dep_lt hP hj hdep
    have hgl : g < H.length := by have := (List.getElem?_eq_some_iff.1 hj).1; omega
    have hog : H[g]? = some H[g] := List.getElem?_eq_getElem hgl
    obtain ⟨⟨d, hd, hdn⟩, _, _⟩ := persB_spec hP hog
    have e1 : (fr u H a0 i).eval (.tmp d) = u g := fr_new hP hog hd (by omega)
    have e2 : (fr u H a0 j).eval (.tmp d) = u g := fr_new hP hog hd hlt
    have hget : ∀ (a : Act), a.tmps.size = a0.tmps.size → a.eval (.tmp d) = u g → yielded L.toArray a.tmps g = (match some (u g) with | some (.bool b) => some b | _ => none) := by
      intro a hz he
      unfold yielded
      have h2 : a.tmps.getD d undef = u g := he
      have hlt' : d < a.tmps.size := by rw [hz]; exact hdn
      rw [Array.getD_eq_getD_getElem?, Array.getElem?_eq_getElem hlt'] at h2
      have h3 : (L.toArray)[g]? = some H[g] := by simpa using hL g _ hog
      rw [h3, Option.bind_some, hd, Option.bind_some, Array.getElem?_eq_getElem hlt']
      simp only [Option.getD_some] at h2
      rw [h2]
      rfl
    show (yielded L.toArray (fr u H a0 i).tmps g == some want) = (yielded L.toArray (fr u H a0 j).tmps g == some want)
    rw [hget _ (fr_size _ _ _ _) e1, hget _ (fr_size _ _ _ _) e2]
/-- What is known of the operations that have been carried out. -/
def Known (L H : List Oper) (M : List (Nat × Yld)) (a0 : Act) (u : Nat → Value) (D : Nat → Prop) (w : World) : Prop :=
  ∀ j oj S, D j → H[j]? = some oj → madeAt M j = some S → Region.wanted oj (yielded L.toArray (fr u H a0 j).tmps) = true → S.R (u j) w
theorem deps_of (hP : persB H a0.tmps.size = true) (hR : readsB L H = true) (hL : ∀ (i : Nat) (o : Oper), H[i]? = some o → L[i]? = some o) {u : Nat → Value} {D : Nat → Prop} {w : World} (hK : Known L H M a0 u D w) {i : Nat} {o : Oper} (ho : H[i]? = some o)
    (hD : ∀ j, depB o j = true → D j) : Deps L M (fr u H a0 i) o w := by
  intro j oj d S hj hd hdep hM hw
  have hlt := dep_lt hP ho hdep
  have hjl : j < H.length := by have := (List.getElem?_eq_some_iff.1 ho).1; omega
  have hj' : H[j]? = some oj := by
    have := hL j _ (List.getElem?_eq_getElem hjl)
    rw [hj] at this
    cases this
    exact List.getElem?_eq_getElem hjl
  rw [fr_new hP hj' hd hlt]
  exact hK j oj S (hD j hdep) hj' hM (by rw [← wanted_later hP hR hL hj' (Nat.le_of_lt hlt)]; exact hw)
/-- Two paths agree on what has been carried out. -/
theorem agree (hP : persB H a0.tmps.size = true) (hR : readsB L H = true) (hL : ∀ (i : Nat) (o : Oper), H[i]? = some o → L[i]? = some o) {p p' : (i : Nat) → (S : Yld) → S.X} {u u' : Nat → Value}
    (h : PathP P Up L H M a0 w0 E p u) (h' : PathP P Up L H M a0 w0 E p' u') {D : Nat → Prop} {w : World} (hw : Below w0.heap.size w0 w) (hcl : ∀ i o, D i → H[i]? = some o → ∀ j, depB o j = true → D j)
    (hp : ∀ i S, D i → p i S = p' i S) (hK : Known L H M a0 u D w) : ∀ i o, D i → H[i]? = some o → u i = u' i ∧ Region.wanted o (yielded L.toArray (fr u H a0 i).tmps) = Region.wanted o (yielded L.toArray (fr u' H a0 i).tmps) := by
  intro i
  induction i using Nat.strongRecOn with
  | ind i ih =>
    intro o hi ho
    have hlooks : ∀ t ∈ o.looksAt L.toArray, (fr u H a0 i).eval (.tmp t) = (fr u' H a0 i).eval (.tmp t) := fun t ht => by
      rcases looks_fr hP hR ho ht with ⟨_, he⟩ | ⟨j, oj, hj, hd, hdep, hlt, he⟩
      · rw [he u, he u']
      · rw [he u, he u']
        exact (ih j hlt oj (hcl i o hi ho j hdep) hj).1
    obtain ⟨e1, e2⟩ := same_of_looks (L := L) (readsB_spec hR ho).1 (by rw [fr_size, fr_size]) hlooks
    refine ⟨?_, e2⟩
    have s1 := h.step i o ho
    have s2 := h'.step i o ho
    rw [← e2] at s2
    by_cases hwt : Region.wanted o (yielded L.toArray (fr u H a0 i).tmps) = true
    · rw [if_pos hwt] at s1 s2
      cases hM : madeAt M i with
      | some S =>
        simp only [hM] at s1 s2
        rw [s1.2, s2.2, hp i S hi]
      | none =>
        simp only [hM] at s1 s2
        have hd1 := deps_of hP hR hL hK ho fun j hj => hcl i o hi ho j hj
        have hd2 : Deps L M (fr u' H a0 i) o w := by
          intro j oj d S hj hd hdep hMj hwj
          have hlt := dep_lt hP ho hdep
          have hjl : j < H.length := by have := (List.getElem?_eq_some_iff.1 ho).1; omega
          have hj' : H[j]? = some oj := by
            have := hL j _ (List.getElem?_eq_getElem hjl)
            rw [hj] at this
            cases this
            exact List.getElem?_eq_getElem hjl
          have hDj := hcl i o hi ho j hdep
          obtain ⟨f1, f2⟩ := ih j hlt oj hDj hj'
          rw [fr_new hP hj' hd hlt, ← f1]
          refine hK j oj S hDj hj' hMj ?_
          rw [f2, ← wanted_later hP hR hL hj' (Nat.le_of_lt hlt)]
          exact hwj
        have r1 := s1 w hw hd1
        have r2 := s2 w hw hd2
        rw [e1, r2] at r1
        injection r1 with h1 _
        injection h1 with h2
        exact h2.symm
    · rw [if_neg hwt] at s1 s2
      rw [s1, s2]
/-- What holds while the head is run. -/
structure InvW (P : Program) (Up : Exit → Prop) (L H : List Oper) (M : List (Nat × Yld)) (a0 : Act) (w0 : World) (E : Act → Prop) (listed : Array Bool) (a : Act) (w : World) : Prop where
  lsize : listed.size = L.length
  tail : ∀ t, H.length ≤ t → t < L.length → listed.getD t true = false
  below : Below w0.heap.size w0 w
  size : a.tmps.size = a0.tmps.size
  defers : a.defers = a0.defers
  old : ∀ t, (∀ i o, H[i]? = some o → listed.getD i true = true → o.dst ≠ some t) → a.eval (.tmp t) = a0.eval (.tmp t)
  closed : ∀ i o, H[i]? = some o → listed.getD i true = true → ∀ j, depB o j = true → listed.getD j true = true
  path : ∃ p u, PathP P Up L H M a0 w0 E p u ∧ (∀ i o d, H[i]? = some o → listed.getD i true = true → o.dst = some d → a.eval (.tmp d) = u i) ∧ Known L H M a0 u (fun i => i < H.length ∧ listed.getD i true = true) w
theorem Known.mono {u : Nat → Value} {D : Nat → Prop} {w w' : World} (h : Known L H M a0 u D w) (hb : Below w.heap.size w w') : Known L H M a0 u D w' := fun j oj S hD hj hM hw => by
  obtain ⟨x, e, hr⟩ := h j oj S hD hj hM hw
  exact ⟨x, e, S.st x w w' hr hb⟩
theorem InvW.looks (hP : persB H a0.tmps.size = true) (hR : readsB L H = true) {listed : Array Bool} {a : Act} {w : World} (h : InvW P Up L H M a0 w0 E listed a w) {u : Nat → Value} (hu : ∀ i o d, H[i]? = some o → listed.getD i true = true → o.dst = some d → a.eval (.tmp d) = u i)
    {i : Nat} {o : Oper} (ho : H[i]? = some o) (hl : listed.getD i true = false) (hd : ∀ j, depB o j = true → listed.getD j true = true) : ∀ t ∈ o.looksAt L.toArray, a.eval (.tmp t) = (fr u H a0 i).eval (.tmp t) := by
  intro t ht
  rcases looks_fr hP hR ho ht with ⟨hold, he⟩ | ⟨j, oj, hj, hdj, hdep, hlt, he⟩
  · rw [he u]
    refine h.old t fun k ok hk hlk e => ?_
    unfold oldB at hold
    rw [List.all_eq_true] at hold
    have := hold (ok, k) (by rw [List.mem_zipIdx_iff_getElem?]; exact hk)
    simp only [Bool.or_eq_true, bne_iff_ne, ne_eq, beq_iff_eq] at this
    rcases this with (h' | h') | h'
    · exact h' e
    · subst h'; rw [hl] at hlk; cases hlk
    · have := h.closed k ok hk hlk i h'
      rw [hl] at this; cases this
  · rw [he u]
    exact hu j oj t hj (hd j hdep) hdj
open Classical in
/-- One operation of the head. -/
theorem InvW.step (hP : persB H a0.tmps.size = true) (hR : readsB L H = true) (hL : ∀ (i : Nat) (o : Oper), H[i]? = some o → L[i]? = some o) (hW : walk P Up L M w0 E 0 H a0) {listed : Array Bool} {a : Act} {w : World} (h : InvW P Up L H M a0 w0 E listed a w)
    {i : Nat} {o : Oper} (ho : H[i]? = some o) (hl : listed.getD i true = false) (hd : ∀ j, depB o j = true → listed.getD j true = true) {K : Act → World → Prop}
    (hK : ∀ v w', Below w.heap.size w w' → InvW P Up L H M a0 w0 E (listed.setIfInBounds i true) (a.put o.dst v) w' → K (a.put o.dst v) w') :
    if Region.wanted o (yielded L.toArray a.tmps) = true then o.wp P a w K (Ups Up a0.defers w0) else K (a.put o.dst undef) w := by
  obtain ⟨⟨d, hod, hdn⟩, _, hun⟩ := persB_spec hP ho
  obtain ⟨p, u, hp, hu, hk⟩ := h.path
  have hil : i < H.length := (List.getElem?_eq_some_iff.1 ho).1
  have hiL : i < L.length := (List.getElem?_eq_some_iff.1 (hL i o ho)).1
  have hi : i < listed.size := by rw [h.lsize]; exact hiL
  obtain ⟨e1, e2⟩ := same_of_looks (L := L) (readsB_spec hR ho).1 (by rw [fr_size, h.size]) (h.looks hP hR hu ho hl hd)
  have hdeps : Deps L M (fr u H a0 i) o w := deps_of hP hR hL hk ho fun j hj => ⟨by have := dep_lt hP ho hj; omega, hd j hj⟩
  have hs := hp.step i o ho
  -- the new invariant, given a path whose value here is v
  have next : ∀ v w', Below w.heap.size w w' → (∃ p' u', PathP P Up L H M a0 w0 E p' u' ∧ u' i = v ∧ (∀ j oj, j < H.length → listed.getD j true = true → H[j]? = some oj → u' j = u j) ∧ Known L H M a0 u' (fun j => j < H.length ∧ (listed.setIfInBounds i true).getD j true = true) w') →
      InvW P Up L H M a0 w0 E (listed.setIfInBounds i true) (a.put o.dst v) w' := by
    rintro v w' hb ⟨p', u', hp', hv, hag, hk'⟩
    refine ⟨by simpa using h.lsize, fun t h1 h2 => by rw [getD_set_ne _ (by omega)]; exact h.tail t h1 h2, h.below.trans (hb.mono h.below.size), by rw [put_size]; exact h.size, by rw [put_defers]; exact h.defers, ?_, ?_, p', u', hp', ?_, hk'⟩
    · intro t ht
      rw [put_get_ne _ _ _ _ (ht i o ho (getD_set_self _ hi))]
      exact h.old t fun j oj hj hlj => ht j oj hj (getD_set_true' hlj)
    · intro j oj hj hlj k hdep
      by_cases hij : i = j
      · subst hij
        rw [ho] at hj
        cases hj
        exact getD_set_true' (hd k hdep)
      · rw [getD_set_ne _ hij] at hlj
        exact getD_set_true' (h.closed j oj hj hlj k hdep)
    · intro j oj dj hj hlj hdj
      by_cases hij : i = j
      · subst hij
        rw [ho] at hj
        cases hj
        rw [hod] at hdj
        cases hdj
        rw [hod, put_get_eq _ _ _ (by rw [h.size]; exact hdn), hv]
      · rw [getD_set_ne _ hij] at hlj
        rw [put_get_ne _ _ _ _ (fun e => hun j oj hj (Ne.symm hij) (hdj.trans e.symm)), hag j oj (List.getElem?_eq_some_iff.1 hj).1 hlj hj]
        exact hu j oj dj hj hlj hdj
  -- the path stays
  have stay : ∀ w', Below w.heap.size w w' → (∀ S, madeAt M i = some S → Region.wanted o (yielded L.toArray (fr u H a0 i).tmps) = true → S.R (u i) w') → InvW P Up L H M a0 w0 E (listed.setIfInBounds i true) (a.put o.dst (u i)) w' := by
    intro w' hb hmade
    refine next _ _ hb ⟨p, u, hp, rfl, fun _ _ _ _ _ => rfl, fun j oj S hj hoj hM hw => ?_⟩
    by_cases hij : i = j
    · subst hij
      rw [ho] at hoj
      cases hoj
      exact hmade S hM hw
    · obtain ⟨hj1, hj2⟩ := hj
      rw [getD_set_ne _ hij] at hj2
      exact hk.mono hb j oj S ⟨hj1, hj2⟩ hoj hM hw
  by_cases hw : Region.wanted o (yielded L.toArray (fr u H a0 i).tmps) = true
  · rw [if_pos hw] at hs
    rw [if_pos (e2.trans hw)]
    cases hM : madeAt M i with
    | none =>
      simp only [hM] at hs
      have hr := hs w h.below hdeps
      unfold Oper.wp Oper.upon
      rw [e1, hr]
      exact hK _ _ (Below.refl _ _) (stay w (Below.refl _ _) fun S hS => by rw [hM] at hS; cases hS)
    | some S =>
      simp only [hM] at hs
      have hwp := hs.1 w h.below hdeps
      have hups : ∀ x a1 w1, Ups Up (fr u H a0 i).defers w x a1 w1 → Ups Up a0.defers w0 x a1 w1 := fun x a1 w1 hq => ⟨hq.1, hq.2.1.trans (fr_defers _ _ _ _), h.below.trans (hq.2.2.mono h.below.size)⟩
      have hwp' : o.wp P a w (fun a' w' => ∃ v, a' = a.put o.dst v ∧ S.R v w' ∧ Below w.heap.size w w') (Ups Up a0.defers w0) := by
        have hput : ∀ v, ∃ v', (fr u H a0 i).put o.dst v = (fr u H a0 i).put o.dst v' := fun v => ⟨v, rfl⟩
        unfold WpYld Oper.wp at hwp
        unfold Oper.wp
        rw [e1]
        generalize (execOp (fr u H a0 i).eval o).run P w = r at hwp ⊢
        have inj : ∀ {v v' : Value}, (fr u H a0 i).put o.dst v = (fr u H a0 i).put o.dst v' → v = v' := fun {v v'} e => by
          have h1 := put_get_eq (fr u H a0 i) d v (by rw [fr_size]; exact hdn)
          have h2 := put_get_eq (fr u H a0 i) d v' (by rw [fr_size]; exact hdn)
          rw [hod] at e
          rw [← h1, e, h2]
        have conv : ∀ (v : Value) (w' : World), (∃ v', (fr u H a0 i).put o.dst v = (fr u H a0 i).put o.dst v' ∧ S.R v' w' ∧ Below w.heap.size w w') → ∃ v', a.put o.dst v = a.put o.dst v' ∧ S.R v' w' ∧ Below w.heap.size w w' := by
          rintro v w' ⟨v', e, hR, hb⟩
          rw [inj e]
          exact ⟨v', rfl, hR, hb⟩
        cases r with
        | halt x w' =>
          cases x <;> simp only [Oper.upon] at hwp ⊢
          case panic v => exact ⟨(hwp : Ups _ _ _ _ _ _).1, h.defers, (hups _ _ _ hwp).2.2⟩
        | ok n w' =>
          cases n <;> simp only [Oper.upon] at hwp ⊢
          case value v => exact conv v w' hwp
          case skip => exact conv undef w' hwp
          case enter f args =>
            refine Calls.mono hwp fun e w'' he => ?_
            cases e with
            | returned v => exact conv v w'' he
            | panicked c => exact ⟨(he : Ups _ _ _ _ _ _).1, h.defers, (hups _ _ _ he).2.2⟩
            | outgrown => obtain ⟨a1, w1, h0⟩ := (he : LetsOut _); exact ⟨a1, w1, hups _ _ _ h0⟩
          case row rw args =>
            exact hwp.mono fun v w'' he => conv v w'' he
          case defer dd =>
            obtain ⟨v', e, _⟩ := hwp
            have := congrArg Act.defers e
            rw [put_defers, put_defers] at this
            have := congrArg List.length this
            simp at this
      refine Oper.wp_mono (fun a' w' hq => ?_) hwp'
      obtain ⟨v, rfl, hRv, hb⟩ := hq
      obtain ⟨x, hx, hrel⟩ := hRv
      refine hK _ _ hb (next v w' hb ?_)
      obtain ⟨u', hp'⟩ := path_exists (a0 := a0) (fun k S' => if hh : k = i ∧ S' = S then hh.2 ▸ x else p k S') hW
      have hag := agree hP hR hL hp hp' (D := fun j => j < H.length ∧ listed.getD j true = true) (w := w) h.below (fun j oj hj hoj k hdep => ⟨by have := dep_lt hP hoj hdep; omega, h.closed j oj hoj hj.2 k hdep⟩)
        (fun j S' hj => by
          have hne : ¬ (j = i ∧ S' = S) := fun hh => by
            have := hj.2
            rw [hh.1, hl] at this
            cases this
          simp only [dif_neg hne]) hk
      have hlooks' : ∀ t ∈ o.looksAt L.toArray, (fr u H a0 i).eval (.tmp t) = (fr u' H a0 i).eval (.tmp t) := fun t ht => by
        rcases looks_fr hP hR ho ht with ⟨_, he⟩ | ⟨j, oj, hj, hdj, hdep, hlt, he⟩
        · rw [he u, he u']
        · rw [he u, he u']
          exact (hag j oj ⟨by omega, hd j hdep⟩ hj).1
      obtain ⟨-, e4⟩ := same_of_looks (L := L) (readsB_spec hR ho).1 (by rw [fr_size, fr_size]) hlooks'
      have hui : u' i = v := by
        have s := hp'.step i o ho
        rw [← e4, if_pos hw, hM] at s
        have := s.2
        rw [this, hx]
        simp
      refine ⟨_, u', hp', hui, fun j oj hj hlj hoj => ((hag j oj ⟨hj, hlj⟩ hoj).1).symm, fun j oj S' hj hoj hMj hwj => ?_⟩
      by_cases hij : i = j
      · subst hij
        rw [ho] at hoj
        cases hoj
        rw [hM] at hMj
        cases hMj
        rw [hui]
        exact ⟨x, hx, hrel⟩
      · obtain ⟨hj1, hj2⟩ := hj
        rw [getD_set_ne _ hij] at hj2
        obtain ⟨f1, f2⟩ := hag j oj ⟨hj1, hj2⟩ hoj
        rw [← f1]
        exact hk.mono hb j oj S' ⟨hj1, hj2⟩ hoj hMj (by rw [f2]; exact hwj)
  · rw [if_neg hw] at hs
    rw [if_neg (by rw [e2]; exact hw), ← hs]
    exact hK _ _ (Below.refl _ _) (stay w (Below.refl _ _) fun S _ hw' => absurd hw' hw)
theorem getD_tf {listed : Array Bool} {j : Nat} (h : listed.getD j false = true) : listed.getD j true = true := by
  by_cases hj : j < listed.size
  · rw [getD_lt hj]; exact h
  · simp [Array.getD_eq_getD_getElem?, Array.getElem?_eq_none (Nat.not_lt.1 hj)]
/-- What is known when the head is done. -/
def Facts (L H : List Oper) (M : List (Nat × Yld)) (a : Act) (w : World) : Prop :=
  ∀ i o d S, H[i]? = some o → o.dst = some d → madeAt M i = some S → Region.wanted o (yielded L.toArray a.tmps) = true → S.R (a.eval (.tmp d)) w
theorem InvW.done (hP : persB H a0.tmps.size = true) (hR : readsB L H = true) (hL : ∀ (i : Nat) (o : Oper), H[i]? = some o → L[i]? = some o) {listed : Array Bool} {a : Act} {w : World} (h : InvW P Up L H M a0 w0 E listed a w)
    (hall : ∀ i, i < H.length → listed.getD i true = true) : E a ∧ Facts L H M a w := by
  obtain ⟨p, u, hp, hu, hk⟩ := h.path
  have he : fr u H a0 H.length = a := by
    refine act_ext (by rw [fr_size, h.size]) (by rw [fr_defers, h.defers]) fun t => ?_
    by_cases ht : ∃ (i : Nat) (o : Oper), H[i]? = some o ∧ o.dst = some t
    · obtain ⟨i, o, ho, hod⟩ := ht
      have hi := (List.getElem?_eq_some_iff.1 ho).1
      rw [fr_new hP ho hod hi]
      exact (hu i o t ho (hall i hi) hod).symm
    · rw [fr_old fun j o _ ho e => ht ⟨j, o, ho, e⟩]
      exact (h.old t fun i o ho _ e => ht ⟨i, o, ho, e⟩).symm
  refine ⟨he ▸ hp.fin, fun i o d S ho hd hM hw => ?_⟩
  have hi := (List.getElem?_eq_some_iff.1 ho).1
  rw [hu i o d ho (hall i hi) hd]
  refine hk i o S ⟨hi, hall i hi⟩ ho hM ?_
  rw [← wanted_later hP hR hL ho (Nat.le_of_lt hi), he]
  exact hw
theorem seq_listed {n : Nat} {listed : Array Bool} (hn : n ≤ L.length) (hs : listed.size = L.length) (h1 : ∀ i, i < n → listed.getD i true = true) (h2 : ∀ t, n ≤ t → t < L.length → listed.getD t true = false) :
    listed = (List.replicate n true ++ List.replicate (L.length - n) false).toArray := by
  apply Array.ext
  · simp; omega
  · intro i hi1 hi2
    have e : listed.getD i true = listed[i] := by simp [Array.getD_eq_getD_getElem?, hi1]
    rw [← e]
    by_cases hin : i < n
    · rw [h1 i hin]
      simp [hin]
    · rw [h2 i (by omega) (by omega)]
      simp [List.getElem_append, hin]
theorem wpAny_walk {Q : Exit → Act → World → Prop} {n : Nat} (hH : H = L.take n) (hn : n ≤ L.length) (hP : persB H a0.tmps.size = true) (hR : readsB L H = true) (hT : n = L.length ∨ tailB L n = true) (hW : walk P Up L M w0 E 0 H a0)
    (hup : ∀ x a w, Ups Up a0.defers w0 x a w → Q x a w) (hend : ∀ a w, E a → Below w0.heap.size w0 w → Facts L H M a w → wpList P L.toArray Q (L.drop n) a w) :
    ∀ (fuel : Nat) (U : List Nat) (listed : Array Bool) (a : Act) (w : World), U.Nodup → (∀ i, i ∈ U ↔ i < n ∧ listed.getD i true = false) → fuel = U.length + (L.length - n) → InvW P Up L H M a0 w0 E listed a w → wpAny P .any L.toArray Q fuel listed a w := by
  have hHl : H.length = n := by rw [hH]; simp; omega
  have hL : ∀ (i : Nat) (o : Oper), H[i]? = some o → L[i]? = some o := fun i o h => by
    rw [hH, List.getElem?_take] at h
    split at h
    · exact h
    · cases h
  have hLH : ∀ (i : Nat) (o : Oper), i < n → L[i]? = some o → H[i]? = some o := fun i o hi h => by
    rw [hH, List.getElem?_take, if_pos hi]; exact h
  intro fuel
  induction fuel with
  | zero =>
    intro U listed a w _ hU hf h
    have hU0 : U = [] := List.eq_nil_of_length_eq_zero (by omega)
    have hnl : n = L.length := by omega
    have hall : ∀ i, i < n → listed.getD i true = true := fun i hi => by
      cases hl : listed.getD i true with
      | true => rfl
      | false => have := (hU i).2 ⟨hi, hl⟩; rw [hU0] at this; cases this
    obtain ⟨hE, hF⟩ := h.done hP hR hL (fun i hi => hall i (by omega))
    have hq := hend a w hE h.below hF
    rw [hnl, List.drop_length] at hq
    exact ⟨ready_none fun i hi => hall i (by omega), hq⟩
  | succ fuel ih =>
    intro U listed a w hnd hU hf h
    by_cases hU0 : U = []
    · have hall : ∀ i, i < n → listed.getD i true = true := fun i hi => by
        cases hl : listed.getD i true with
        | true => rfl
        | false => have := (hU i).2 ⟨hi, hl⟩; rw [hU0] at this; cases this
      obtain ⟨hE, hF⟩ := h.done hP hR hL (fun i hi => hall i (by omega))
      have hq := hend a w hE h.below hF
      rw [hU0] at hf
      simp only [List.length_nil, Nat.zero_add] at hf
      have hT' : tailB L n = true := hT.resolve_left (by omega)
      unfold tailB at hT'
      simp only [Bool.and_eq_true] at hT'
      have hlist := seq_listed (L := L) hn h.lsize hall (fun t h1 h2 => h.tail t (by omega) h2)
      have := wpAny_of_seq (P := P) (md := .any) (ops := L.toArray) (Q' := Q) (L.drop n) n listed a w (fun j => by simp [List.getElem?_drop]) (by rw [List.length_drop, hlist]; exact hT'.2) hq
      rw [List.length_drop, ← hf] at this
      exact this
    · have hnotall : ¬ ∀ i, i < n → listed.getD i true = true := fun hall => by
        obtain ⟨x, hx⟩ := List.exists_mem_of_ne_nil _ hU0
        have := (hU x).1 hx
        rw [hall x this.1] at this
        exact absurd this.2 (by decide)
      refine ⟨fun hr => ?_, fun i hi => ?_⟩
      · exfalso
        refine hnotall fun i => ?_
        induction i using Nat.strongRecOn with
        | ind i ihi =>
          intro hi
          cases hl : listed.getD i true with
          | true => rfl
          | false =>
            have ho : H[i]? = some (H[i]'(by omega)) := List.getElem?_eq_getElem _
            obtain ⟨_, h2, _⟩ := persB_spec hP ho
            have : i ∈ Region.ready .any L.toArray listed := by
              rw [mem_ready]
              refine ⟨hl, _, by simpa using hL i _ ho, fun e he hb => ?_⟩
              have hlt := h2 e he hb
              rw [← getD_lt (by rw [h.lsize]; omega)]
              exact ihi e.on hlt (by omega)
            rw [hr] at this
            cases this
      rw [mem_ready] at hi
      obtain ⟨hl, o, ho, hdeps⟩ := hi
      have hoL : L[i]? = some o := by simpa using ho
      have hiL : i < L.length := (List.getElem?_eq_some_iff.1 hoL).1
      have hd : ∀ j, depB o j = true → listed.getD j true = true := fun j hj => by
        obtain ⟨e, he, hon, hb⟩ := depB_of hj
        have := hdeps e he hb
        rw [hon] at this
        exact getD_tf this
      by_cases hin : i < n
      · have ho' := hLH i o hin hoL
        have hs := h.step hP hR hL hW ho' hl hd (K := wpAny P .any L.toArray Q fuel (listed.setIfInBounds i true)) (fun v w' _ hinv => by
          refine ih (U.erase i) _ _ _ (hnd.erase i) (fun j => ?_) ?_ hinv
          · rw [hnd.mem_erase_iff, hU j]
            constructor
            · rintro ⟨h1, h2, h3⟩
              exact ⟨h2, by rw [getD_set_ne _ (Ne.symm h1)]; exact h3⟩
            · rintro ⟨h1, h2⟩
              have hne : j ≠ i := by
                rintro rfl
                rw [getD_set_self _ (by rw [h.lsize]; exact hiL)] at h2; cases h2
              rw [getD_set_ne _ (Ne.symm hne)] at h2
              exact ⟨hne, h1, h2⟩
          · have hm := (hU i).2 ⟨hin, hl⟩
            have := List.length_pos_of_mem hm
            rw [List.length_erase_of_mem hm]
            omega)
        unfold wpOp
        rw [ho]
        simp only
        split at hs
        · next hw => rw [if_pos hw]; exact .inl (oper_wp_to hup hs)
        · next hw => rw [if_neg hw]; exact hs
      · exfalso
        have hT' : tailB L n = true := hT.resolve_left (by omega)
        unfold tailB at hT'
        simp only [Bool.and_eq_true] at hT'
        obtain ⟨⟨hT1, hT2⟩, _⟩ := hT'
        by_cases hni : i = n
        · subst hni
          refine hnotall ?_
          have key : ∀ m k, i - k = m → k < i → listed.getD k true = true := by
            intro m
            induction m using Nat.strongRecOn with
            | ind m ihm =>
              intro k hm hk
              have := List.all_eq_true.1 hT1 k (List.mem_range.2 hk)
              rw [Bool.or_eq_true, hoL] at this
              rcases this with h1 | h1
              · exact hd k h1
              · obtain ⟨⟨o', k'⟩, hm', h2⟩ := List.any_eq_true.1 h1
                simp only [Bool.and_eq_true, decide_eq_true_eq] at h2
                rw [List.mem_zipIdx_iff_getElem?, ← hH] at hm'
                have hk' := (List.getElem?_eq_some_iff.1 hm').1
                exact h.closed k' o' hm' (ihm (i - k') (by omega) k' rfl (by omega)) k h2.2
          exact fun k hk => key _ k rfl hk
        · have := List.all_eq_true.1 hT2 (o, i) (by rw [List.mem_zipIdx_iff_getElem?]; exact hoL)
          simp only [Bool.or_eq_true, decide_eq_true_eq] at this
          rcases this with h1 | h1
          · omega
          · have h2 := hd _ h1
            rw [h.tail (i - 1) (by omega) (by omega)] at h2
            cases h2
/-- THE LAW: n operations in whatever order, walked in the list's order; the rest behind them. -/
theorem wp_region_walkU {id : Nat} {Q : Exit → Act → World → Prop} (n : Nat) (M : List (Nat × Yld)) (hm : P.follows .mixedOrders = true) (hB : walkB L n a0.tmps.size = true) (hup : ∀ x a w, Ups Up a0.defers w0 x a w → Q x a w)
    (h : walk P Up L M w0 (fun a => ∀ w, Below w0.heap.size w0 w → Facts L (L.take n) M a w → wpList P L.toArray Q (L.drop n) a w) 0 (L.take n) a0) : (Code.region id L.toArray true).wp P Q a0 w0 := by
  unfold walkB at hB
  simp only [Bool.and_eq_true, Bool.or_eq_true, decide_eq_true_eq] at hB
  obtain ⟨⟨⟨hn, hP⟩, hR⟩, hT⟩ := hB
  refine wp_region_any hm ?_
  have hf : ∀ i, i < L.length → (Array.replicate L.toArray.size false).getD i true = false := fun i hi => by
    rw [Array.getD_eq_getD_getElem?, Array.getElem?_eq_getElem (by simpa using hi)]
    simp
  have hHl : (L.take n).length = n := by simp; omega
  obtain ⟨u, hu⟩ := path_exists (a0 := a0) (fun _ S => S.inh) h
  refine wpAny_walk (w0 := w0) rfl hn hP hR hT h hup (fun a w hE hb hF => hE w hb hF) _ (List.range n) _ _ _ List.nodup_range (fun i => ?_) (by simp; omega) ?_
  · rw [List.mem_range]
    exact ⟨fun hi => ⟨hi, hf i (by omega)⟩, fun hi => hi.1⟩
  · refine ⟨by simp, fun t _ ht => hf t ht, ⟨rfl, rfl, rfl, Nat.le_refl _, fun _ _ => rfl⟩, rfl, rfl, fun t _ => rfl, fun i o ho hl => ?_, _, u, hu, fun i o d ho hl => ?_, fun j oj S hj => ?_⟩
    · have := (List.getElem?_eq_some_iff.1 ho).1
      rw [hf i (by omega)] at hl; cases hl
    · have := (List.getElem?_eq_some_iff.1 ho).1
      rw [hf i (by omega)] at hl; cases hl
    · have := hj.2
      rw [hf j (by omega)] at this; cases this
/-- The same where nothing goes up. -/
theorem wp_region_walk {id : Nat} {Q : Exit → Act → World → Prop} (n : Nat) (M : List (Nat × Yld)) (hm : P.follows .mixedOrders = true) (hB : walkB L n a0.tmps.size = true)
    (h : walk P NoUp L M w0 (fun a => ∀ w, Below w0.heap.size w0 w → Facts L (L.take n) M a w → wpList P L.toArray Q (L.drop n) a w) 0 (L.take n) a0) : (Code.region id L.toArray true).wp P Q a0 w0 :=
  wp_region_walkU n M hm hB (fun _ _ _ hq => (hq.1 : False).elim) h
end
end Go.Fd
namespace Go.Fd
open Go.RowKit
/-- An operation that comes to a value, if it comes to anything. -/
def valB (o : Oper) : Bool :=
  match o.op with
  | .move _ | .assign _ | .pick _ _ _ | .alloc _ | .box _ _ | .build _ _ | .buildSlice _ _ _ | .load _ _ | .binOp _ _ _ _ _ | .unOp _ _ _ | .convert _ _ _ | .makeInterface _ _ | .makeFunc _ _ _ | .makeSlice _ _ _ | .makeMap _ _ | .slice _ _ _ _ _ | .fieldAddr _ _ _ | .field _ _ _ | .indexAddr _ _ _ | .index _ _ _ | .lookup _ _ _ _ | .extract _ _ | .typeAssert _ _ _ _ => true
  | .call c => (match c.callee with | .builtin .len => true | .builtin .cap => true | .builtin .min => true | .builtin .max => true | .builtin .append => true | .builtin .copy => true | _ => false)
  | _ => false
theorem run_v {P : Program} {s : Sem Value} {w w' : World} {n : Next} (h : (do pure (.value (← s)) : Sem Next).run P w = .ok n w') : ∃ v, n = .value v := by
  rw [Sem.run_bind] at h
  cases hs : s.run P w with
  | ok v w1 =>
    rw [hs, Result.andThen_ok] at h
    have : (pure (Next.value v) : Sem Next).run P w1 = .ok (.value v) w1 := rfl
    rw [this] at h
    cases h
    exact ⟨v, rfl⟩
  | halt x w1 =>
    rw [hs, Result.andThen_halt] at h
    cases h
theorem valB_spec {P : Program} {o : Oper} (h : valB o = true) {ρ : Operand → Value} {w w' : World} {n : Next} (hr : (execOp ρ o).run P w = .ok n w') : ∃ v, n = .value v := by
  obtain ⟨dst, op, type, pos, after, guard⟩ := o
  cases op <;> simp only [valB] at h <;> simp only [execOp] at hr
  case move x => exact run_v (s := pure (ρ x)) hr
  case assign x => exact run_v (s := pure (ρ x)) hr
  case call c =>
    obtain ⟨callee, args, ats⟩ := c
    cases callee with
    | value f => cases h
    | invoke r m => cases h
    | builtin b =>
      cases b <;> simp only at h <;> first | (cases h; done) | exact run_v hr
  case pick c x y =>
    rw [Sem.run_bind] at hr
    cases hs : (asBool (ρ c)).run P w with
    | ok v w1 =>
      rw [hs, Result.andThen_ok] at hr
      have : (pure (Next.value (if v = true then ρ x else ρ y)) : Sem Next).run P w1 = .ok (.value (if v = true then ρ x else ρ y)) w1 := rfl
      exact ⟨(if v = true then ρ x else ρ y), by
        rw [show (pure (Next.value (if v = true then ρ x else ρ y)) : Sem Next).run P w1 = .ok (.value (if v = true then ρ x else ρ y)) w1 from rfl] at hr
        cases hr; rfl⟩
    | halt x w1 =>
      rw [hs, Result.andThen_halt] at hr
      cases hr
  all_goals first | (cases h; done) | exact run_v hr
section
variable {P : Program} {Up : Exit → Prop} {L r : List Oper} {M : List (Nat × Yld)} {a : Act} {w0 : World} {E : Act → Prop} {i : Nat} {o : Oper}
theorem Above.cell (x : Above w0) (b k : Nat) (h : b < w0.heap.size) : x.w.cell? ⟨b, k, none⟩ = w0.cell? ⟨b, k, none⟩ := x.h.cell (p := ⟨b, k, none⟩) h
theorem walk_val {v : Value} (hw : Region.wanted o (yielded L.toArray a.tmps) = true) (hM : madeAt M i = none) (h : ∀ w, Below w0.heap.size w0 w → Deps L M a o w → (execOp a.eval o).run P w = .ok (.value v) w) (hn : walk P Up L M w0 E (i + 1) r (a.put o.dst v)) : walk P Up L M w0 E i (o :: r) a := by
  rw [walk, if_pos hw, hM]
  exact ⟨v, h, hn⟩
/-- An operation that is run by the walk's own rules. -/
theorem walk_quiet (hw : Region.wanted o (yielded L.toArray a.tmps) = true) (hM : madeAt M i = none) (hv : valB o = true) (h : ∀ K : Act → Prop, (∀ a, walk P Up L M w0 E (i + 1) r a → K a) → o.quiet P a (fun w => ∃ x : Above w0, w = x.w) K) : walk P Up L M w0 E i (o :: r) a := by
  obtain ⟨v, h1, h2⟩ := h (walk P Up L M w0 E (i + 1) r) (fun _ h => h)
  refine walk_val hw hM (fun w hb _ => ?_) h2
  have := h1 w ⟨⟨w, hb⟩, rfl⟩
  unfold Oper.quietAt at this
  generalize hr : (execOp a.eval o).run P w = res at this
  cases res with
  | halt x w' => exact this.elim
  | ok n w' =>
    obtain ⟨u, rfl⟩ := valB_spec hv hr
    obtain ⟨rfl, rfl⟩ := (this : w' = w ∧ u = v)
    rfl
theorem walk_nil (h : E a) : walk P Up L M w0 E i [] a := h
end
theorem run_callL {P : Program} {a : Act} {w : World} {d : Option Tmp} {ty : TypeId} {pos : String} {aft : Array Edge} {g : Option (Nat × Bool)} {f : FuncId} {fn : Func} {xs : List Operand} {ts : Array TypeId} {vals : List Value} (hf : P.funcs[f]? = some fn) (hn : (fn.name == "runtime.NumGoroutine") = false) {c : Code} (hb : fn.body = some c) (hx : xs.map a.eval = vals) :
    (execOp a.eval ⟨d, .call { callee := .value (.func f), args := xs.toArray, argTypes := ts }, ty, pos, aft, g⟩).run P w = .ok (.enter f vals.toArray) w :=
  run_call hf hn hb (by rw [List.map_toArray, hx])
section
variable {P : Program} {Up : Exit → Prop} {L r : List Oper} {M : List (Nat × Yld)} {a : Act} {w0 : World} {E : Act → Prop} {i : Nat} {o : Oper}
end
section
variable {P : Program} {ops : Array Oper} {rest : List Oper} {Q : Exit → Act → World → Prop} {a : Act} {w : World}
/-- The store of a record into a block that was made. -/
theorem wpList_storeMade {d : Option Tmp} {ty t : TypeId} {pos : String} {aft : Array Edge} {p x : Operand} {c c' : Array Value} {g B : Nat} (hg : w.heap[g]? = some (.cells c t (0, 0))) (hp : a.eval p = .pointer (some ⟨g, 0, none⟩)) (hx : a.eval x = .agg c')
    (hi : (P.info? t).map (·.size) = some c'.size) (ho : c.size = c'.size) (h1 : c'.all (·.oneCell') = true) (hB : B ≤ g) (hBw : B ≤ w.heap.size)
    (h : ∀ w1, w1.heap[g]? = some (.cells c' t (0, 0)) → Below B w w1 → wpList P ops Q rest (a.put d undef) w1) :
    wpList P ops Q (⟨d, .store t p x, ty, pos, aft, none⟩ :: rest) a w := by
  unfold wpList
  rw [if_pos (by simp [Region.wanted])]
  exact .inl (wp_store_made hg hp hx hi ho h1 hB hBw h)
end
end Go.Fd
namespace Go.Fd
open Go.RowKit
section
variable {P : Program} {ops : Array Oper} {rest : List Oper} {Q : Exit → Act → World → Prop} {a : Act} {w : World}
/-- A struct into a block of its own. -/
theorem wpList_box {d : Option Tmp} {ty t : TypeId} {pos : String} {aft : Array Edge} {x : Operand} {c : Array Value} (hx : a.eval x = .agg c)
    (h : ∀ w1, w1.heap[w.heap.size]? = some (.cells c t (0, 0)) → Below w.heap.size w w1 → w.heap.size < w1.heap.size → wpList P ops Q rest (a.put d (.pointer (some ⟨w.heap.size, 0, none⟩))) w1) :
    wpList P ops Q (⟨d, .box t x, ty, pos, aft, none⟩ :: rest) a w := by
  refine wpList_val (w' := w.alloc (.cells c t)) (v := .pointer (some ⟨w.heap.size, 0, none⟩)) rfl ?_ (h (w.alloc (.cells c t)) (heap_alloc_last w _) (below_alloc w _) (by rw [World.size_alloc]; omega))
  simp only [execOp, hx]
  rfl
/-- A block that was there stays. -/
theorem heap_below {w w' : World} {b : Nat} {o : Obj} (h : Below w.heap.size w w') (hb : w.heap[b]? = some o) : w'.heap[b]? = some o := by
  rw [h.block b (Array.getElem?_eq_some_iff.1 hb).1]; exact hb
end
end Go.Fd
namespace Go.Proofs.Ytmpelmjhimalpaa
open Go.RowKit Go.Fd
end Go.Proofs.Ytmpelmjhimalpaa
namespace Go.Fd
open Go.RowKit
/-- What is known of the worlds of a region: I t w when t of the writing operations C are done; T: what each step keeps; Up: what may go up. -/
structure Ph where
  I : Nat → World → Prop
  T : World → World → Prop
  C : List Nat
  Up : Exit → World → Prop
structure Ph.Ok (F : Ph) : Prop where
  iB : ∀ t w w', F.I t w → Below w.heap.size w w' → F.I t w'
  tB : ∀ w w', Below w.heap.size w w' → F.T w w'
structure YldT (F : Ph) where
  X : Type
  inh : X
  shape : X → Value
  rel : X → World → Prop
  st : ∀ x w w', rel x w → F.T w w' → rel x w'
def YldT.R {F : Ph} (S : YldT F) (v : Value) (w : World) : Prop := ∃ x, v = S.shape x ∧ S.rel x w
def YldT.is (F : Ph) (c : Value) : YldT F := ⟨Unit, (), fun _ => c, fun _ _ => True, fun _ _ _ _ _ => trivial⟩
def madeT {F : Ph} (M : List (Nat × YldT F)) (i : Nat) : Option (YldT F) := (M.find? (fun p => p.1 == i)).map (·.2)
def DepsT {F : Ph} (L : List Oper) (M : List (Nat × YldT F)) (a : Act) (o : Oper) (w : World) : Prop :=
  ∀ j oj d S, L[j]? = some oj → oj.dst = some d → depB o j = true → madeT M j = some S → Region.wanted oj (yielded L.toArray a.tmps) = true → S.R (a.eval (.tmp d)) w
def UpsT (F : Ph) (d : List Deferred) (x : Exit) (a : Act) (w' : World) : Prop := F.Up x w' ∧ a.defers = d
def WpT (P : Program) (F : Ph) (t' : Nat) (o : Oper) (a : Act) (S : YldT F) (w : World) : Prop :=
  o.wp P a w (fun a' w' => ∃ v, a' = a.put o.dst v ∧ S.R v w' ∧ F.T w w' ∧ F.I t' w') (UpsT F a.defers)
/-- May operation i be run when t are done? How many are done then? -/
def phI (C : List Nat) (i t : Nat) : Prop := i ∈ C → C[t]? = some i
def nxI (C : List Nat) (i t : Nat) : Nat := if i ∈ C then t + 1 else t
def walkT (P : Program) (F : Ph) (L : List Oper) (M : List (Nat × YldT F)) (E : Act → Prop) : Nat → List Oper → Act → Prop
  | _, [], a => E a
  | i, o :: r, a =>
    if Region.wanted o (yielded L.toArray a.tmps) = true then
      match madeT M i with
      | some S => (∀ t w, phI F.C i t → F.I t w → DepsT L M a o w → WpT P F (nxI F.C i t) o a S w) ∧ ∀ x, walkT P F L M E (i + 1) r (a.put o.dst (S.shape x))
      | none => i ∉ F.C ∧ ∃ v, (∀ t w, F.I t w → DepsT L M a o w → (execOp a.eval o).run P w = .ok (.value v) w) ∧ walkT P F L M E (i + 1) r (a.put o.dst v)
    else i ∉ F.C ∧ walkT P F L M E (i + 1) r (a.put o.dst undef)
/-- The writing operations lie in the head, each waits for the one ahead. -/
def chainB (L : List Oper) (n : Nat) : List Nat → Bool
  | [] => true
  | [c] => decide (c < n)
  | c :: d :: r => decide (c < d) && (match L[d]? with | some o => depB o c | none => false) && decide (c < n) && chainB L n (d :: r)
/-- How many are done. -/
def cntI (C : List Nat) (listed : Array Bool) : Nat := (C.filter fun c => listed.getD c true).length
theorem chain_spec {L : List Oper} {n : Nat} : ∀ {C : List Nat}, chainB L n C = true → (∀ (t c d : Nat), C[t]? = some c → C[t + 1]? = some d → c < d ∧ ∃ o, L[d]? = some o ∧ depB o c = true) ∧ ∀ (t c : Nat), C[t]? = some c → c < n
  | [], _ => ⟨(fun t c d h => by simp at h), (fun t c h => by simp at h)⟩
  | [c], h => ⟨(fun t x d h1 h2 => by simp at h2), (fun t x h1 => by
      have hc : c < n := by simpa [chainB] using h
      cases t with
      | zero => simp at h1; subst h1; exact hc
      | succ t => simp at h1)⟩
  | c :: d :: r, h => by
    rw [chainB] at h
    simp only [Bool.and_eq_true, decide_eq_true_eq] at h
    obtain ⟨⟨⟨h1, h2⟩, h3⟩, h4⟩ := h
    obtain ⟨i1, i2⟩ := chain_spec h4
    refine ⟨fun t x y hx hy => ?_, fun t x hx => ?_⟩
    · cases t with
      | zero =>
        simp at hx hy
        subst hx hy
        refine ⟨h1, ?_⟩
        cases hl : L[d]? with
        | none => rw [hl] at h2; cases h2
        | some o => rw [hl] at h2; exact ⟨o, rfl, h2⟩
      | succ t => exact i1 t x y (by simpa using hx) (by simpa using hy)
    · cases t with
      | zero => simp at hx; subst hx; exact h3
      | succ t => exact i2 t x (by simpa using hx)
theorem chain_lt {L : List Oper} {n : Nat} {C : List Nat} (h : chainB L n C = true) : ∀ (k s : Nat) {c d : Nat}, C[s]? = some c → C[s + k + 1]? = some d → c < d
  | 0, s, c, d, hc, hd => ((chain_spec h).1 s c d hc hd).1
  | k + 1, s, c, d, hc, hd => by
    have hlt : s + k + 1 + 1 < C.length := (List.getElem?_eq_some_iff.1 hd).1
    have he : C[s + k + 1]? = some (C[s + k + 1]'(by omega)) := List.getElem?_eq_getElem _
    exact Nat.lt_trans (chain_lt h k s hc he) (((chain_spec h).1 (s + k + 1) _ d he hd).1)
section
variable {P : Program} {F : Ph} {L H : List Oper} {M : List (Nat × YldT F)} {a0 : Act} {E : Act → Prop}
/-- What is listed is shut under what is waited for. -/
def ShutL (H : List Oper) (listed : Array Bool) : Prop := ∀ i o, H[i]? = some o → listed.getD i true = true → ∀ j, depB o j = true → listed.getD j true = true
theorem chain_down {C : List Nat} {listed : Array Bool} (hc : chainB H H.length C = true) (hs : ShutL H listed) : ∀ (k s : Nat) {c d : Nat}, C[s]? = some c → C[s + k]? = some d → listed.getD d true = true → listed.getD c true = true
  | 0, s, c, d, h1, h2, h => by
    rw [Nat.add_zero, h1] at h2
    cases h2
    exact h
  | k + 1, s, c, d, h1, h2, h => by
    have hlt : s + (k + 1) < C.length := (List.getElem?_eq_some_iff.1 h2).1
    have he : C[s + k]? = some (C[s + k]'(by omega)) := List.getElem?_eq_getElem _
    obtain ⟨_, o, ho, hd⟩ := (chain_spec hc).1 (s + k) _ d he (by rw [Nat.add_assoc]; exact h2)
    exact chain_down hc hs k s h1 he (hs d o ho h _ hd)
theorem cnt_at {C : List Nat} {listed : Array Bool} (hc : chainB H H.length C = true) (hs : ShutL H listed) {t i : Nat} {o : Oper} (ht : C[t]? = some i) (ho : H[i]? = some o) (hl : listed.getD i true = false) (hd : ∀ j, depB o j = true → listed.getD j true = true) :
    cntI C listed = t ∧ (∀ (s c : Nat), s < t → C[s]? = some c → listed.getD c true = true) ∧ ∀ (s c : Nat), t ≤ s → C[s]? = some c → listed.getD c true = false := by
  have h1 : ∀ (s c : Nat), s < t → C[s]? = some c → listed.getD c true = true := fun s c hst hsc => by
    obtain ⟨k, rfl⟩ : ∃ k, t = s + k + 1 := ⟨t - s - 1, by omega⟩
    have hlt : s + k + 1 < C.length := (List.getElem?_eq_some_iff.1 ht).1
    have he : C[s + k]? = some (C[s + k]'(by omega)) := List.getElem?_eq_getElem _
    obtain ⟨_, o', ho', hd'⟩ := (chain_spec hc).1 (s + k) _ i he ht
    rw [ho] at ho'
    cases ho'
    exact chain_down hc hs k s hsc he (hd _ hd')
  have h2 : ∀ (s c : Nat), t ≤ s → C[s]? = some c → listed.getD c true = false := fun s c hts hsc => by
    cases hlc : listed.getD c true with
    | false => rfl
    | true =>
      obtain ⟨k, rfl⟩ : ∃ k, s = t + k := ⟨s - t, by omega⟩
      rw [chain_down hc hs k t ht hsc hlc] at hl
      cases hl
  refine ⟨?_, h1, h2⟩
  have htl : t ≤ C.length := Nat.le_of_lt (List.getElem?_eq_some_iff.1 ht).1
  unfold cntI
  rw [← List.take_append_drop t C, List.filter_append, List.filter_eq_self.2 (fun x hx => ?_), List.filter_eq_nil_iff.2 (fun x hx => ?_), List.append_nil, List.length_take]
  · omega
  · obtain ⟨s, hs'⟩ := List.mem_iff_getElem?.1 hx
    rw [List.getElem?_drop] at hs'
    rw [h2 (t + s) x (by omega) hs']
    decide
  · obtain ⟨s, hs'⟩ := List.mem_iff_getElem?.1 hx
    rw [List.getElem?_take] at hs'
    split at hs'
    · next hst => exact h1 s x hst hs'
    · cases hs'
theorem cnt_next {C : List Nat} {listed : Array Bool} (hc : chainB H H.length C = true) (hs : ShutL H listed) {i : Nat} {o : Oper} (ho : H[i]? = some o) (hi : i < listed.size) (hl : listed.getD i true = false) (hd : ∀ j, depB o j = true → listed.getD j true = true) :
    phI C i (cntI C listed) ∧ cntI C (listed.setIfInBounds i true) = nxI C i (cntI C listed) := by
  by_cases hm : i ∈ C
  · obtain ⟨t, ht⟩ := List.mem_iff_getElem?.1 hm
    obtain ⟨e, h1, h2⟩ := cnt_at hc hs ht ho hl hd
    refine ⟨fun _ => by rw [e]; exact ht, ?_⟩
    unfold nxI
    rw [if_pos hm, e]
    have htl : t < C.length := (List.getElem?_eq_some_iff.1 ht).1
    unfold cntI
    rw [← List.take_append_drop (t + 1) C, List.filter_append, List.filter_eq_self.2 (fun x hx => ?_), List.filter_eq_nil_iff.2 (fun x hx => ?_), List.append_nil, List.length_take]
    · omega
    · obtain ⟨s, hs'⟩ := List.mem_iff_getElem?.1 hx
      rw [List.getElem?_drop] at hs'
      have hne : i ≠ x := fun h => by
        have := chain_lt hc s t ht (by rw [show t + s + 1 = t + 1 + s by omega]; exact hs')
        omega
      rw [getD_set_ne _ hne, h2 (t + 1 + s) x (by omega) hs']
      decide
    · obtain ⟨s, hs'⟩ := List.mem_iff_getElem?.1 hx
      rw [List.getElem?_take] at hs'
      split at hs'
      · next hst =>
        by_cases hsx : s = t
        · subst hsx
          rw [ht] at hs'
          cases hs'
          exact getD_set_self _ hi
        · exact getD_set_true' (h1 s x (by omega) hs')
      · cases hs'
  · refine ⟨fun h => absurd h hm, ?_⟩
    unfold nxI cntI
    rw [if_neg hm]
    congr 1
    refine List.filter_congr fun x hx => ?_
    rw [getD_set_ne _ (by intro h; exact hm (by rw [h]; exact hx))]
structure PathT (P : Program) (F : Ph) (L H : List Oper) (M : List (Nat × YldT F)) (a0 : Act) (E : Act → Prop) (p : (i : Nat) → (S : YldT F) → S.X) (u : Nat → Value) : Prop where
  step : ∀ i o, H[i]? = some o →
    if Region.wanted o (yielded L.toArray (fr u H a0 i).tmps) = true then
      match madeT M i with
      | some S => (∀ t w, phI F.C i t → F.I t w → DepsT L M (fr u H a0 i) o w → WpT P F (nxI F.C i t) o (fr u H a0 i) S w) ∧ u i = S.shape (p i S)
      | none => i ∉ F.C ∧ ∀ t w, F.I t w → DepsT L M (fr u H a0 i) o w → (execOp (fr u H a0 i).eval o).run P w = .ok (.value (u i)) w
    else i ∉ F.C ∧ u i = undef
  fin : E (fr u H a0 H.length)
theorem pathT_aux (p : (i : Nat) → (S : YldT F) → S.X) : ∀ (r : List Oper) (k : Nat) (u0 : Nat → Value), H.drop k = r → k ≤ H.length → walkT P F L M E k r (fr u0 H a0 k) →
    ∃ u, (∀ j, j < k → u j = u0 j) ∧ (∀ i o, k ≤ i → H[i]? = some o →
      if Region.wanted o (yielded L.toArray (fr u H a0 i).tmps) = true then
        match madeT M i with
        | some S => (∀ t w, phI F.C i t → F.I t w → DepsT L M (fr u H a0 i) o w → WpT P F (nxI F.C i t) o (fr u H a0 i) S w) ∧ u i = S.shape (p i S)
        | none => i ∉ F.C ∧ ∀ t w, F.I t w → DepsT L M (fr u H a0 i) o w → (execOp (fr u H a0 i).eval o).run P w = .ok (.value (u i)) w
      else i ∉ F.C ∧ u i = undef) ∧ E (fr u H a0 H.length)
  | [], k, u0, hr, hk, h => by
    have : H.length ≤ k := by simpa using hr
    obtain rfl : k = H.length := by omega
    exact ⟨u0, fun _ _ => rfl, fun i o hi ho => by have := (List.getElem?_eq_some_iff.1 ho).1; omega, h⟩
  | o :: r, k, u0, hr, hk, h => by
    have ho : H[k]? = some o := by
      have : (H.drop k)[0]? = some o := by rw [hr]; rfl
      simpa using this
    have hr' : H.drop (k + 1) = r := by
      rw [← List.drop_drop, hr]; rfl
    have hk' : k + 1 ≤ H.length := (List.getElem?_eq_some_iff.1 ho).1
    have key : ∀ v, walkT P F L M E (k + 1) r ((fr u0 H a0 k).put o.dst v) → ∃ u, (∀ j, j < k → u j = u0 j) ∧ u k = v ∧ (∀ i o, k + 1 ≤ i → H[i]? = some o →
      if Region.wanted o (yielded L.toArray (fr u H a0 i).tmps) = true then
        match madeT M i with
        | some S => (∀ t w, phI F.C i t → F.I t w → DepsT L M (fr u H a0 i) o w → WpT P F (nxI F.C i t) o (fr u H a0 i) S w) ∧ u i = S.shape (p i S)
        | none => i ∉ F.C ∧ ∀ t w, F.I t w → DepsT L M (fr u H a0 i) o w → (execOp (fr u H a0 i).eval o).run P w = .ok (.value (u i)) w
      else i ∉ F.C ∧ u i = undef) ∧ E (fr u H a0 H.length) := by
      intro v hv
      have e1 : fr (fun j => if j = k then v else u0 j) H a0 k = fr u0 H a0 k := fr_congr fun j hj => by
        show (if j = k then v else u0 j) = u0 j
        rw [if_neg (by omega)]
      have e2 : fr (fun j => if j = k then v else u0 j) H a0 (k + 1) = (fr u0 H a0 k).put o.dst v := by
        rw [fr_succ ho, e1]
        simp
      obtain ⟨u, h1, h2, h3⟩ := pathT_aux p r (k + 1) (fun j => if j = k then v else u0 j) hr' hk' (by rw [e2]; exact hv)
      refine ⟨u, fun j hj => ?_, ?_, h2, h3⟩
      · rw [h1 j (by omega), if_neg (by omega)]
      · rw [h1 k (by omega), if_pos rfl]
    have fin : ∀ v, (∃ u, (∀ j, j < k → u j = u0 j) ∧ u k = v ∧ (∀ i o, k + 1 ≤ i → H[i]? = some o →
      if Region.wanted o (yielded L.toArray (fr u H a0 i).tmps) = true then
        match madeT M i with
        | some S => (∀ t w, phI F.C i t → F.I t w → DepsT L M (fr u H a0 i) o w → WpT P F (nxI F.C i t) o (fr u H a0 i) S w) ∧ u i = S.shape (p i S)
        | none => i ∉ F.C ∧ ∀ t w, F.I t w → DepsT L M (fr u H a0 i) o w → (execOp (fr u H a0 i).eval o).run P w = .ok (.value (u i)) w
      else i ∉ F.C ∧ u i = undef) ∧ E (fr u H a0 H.length)) → (if Region.wanted o (yielded L.toArray (fr u0 H a0 k).tmps) = true then
        match madeT M k with
        | some S => (∀ t w, phI F.C k t → F.I t w → DepsT L M (fr u0 H a0 k) o w → WpT P F (nxI F.C k t) o (fr u0 H a0 k) S w) ∧ v = S.shape (p k S)
        | none => k ∉ F.C ∧ ∀ t w, F.I t w → DepsT L M (fr u0 H a0 k) o w → (execOp (fr u0 H a0 k).eval o).run P w = .ok (.value v) w
      else k ∉ F.C ∧ v = undef) → ∃ u, (∀ j, j < k → u j = u0 j) ∧ (∀ i o, k ≤ i → H[i]? = some o →
      if Region.wanted o (yielded L.toArray (fr u H a0 i).tmps) = true then
        match madeT M i with
        | some S => (∀ t w, phI F.C i t → F.I t w → DepsT L M (fr u H a0 i) o w → WpT P F (nxI F.C i t) o (fr u H a0 i) S w) ∧ u i = S.shape (p i S)
        | none => i ∉ F.C ∧ ∀ t w, F.I t w → DepsT L M (fr u H a0 i) o w → (execOp (fr u H a0 i).eval o).run P w = .ok (.value (u i)) w
      else i ∉ F.C ∧ u i = undef) ∧ E (fr u H a0 H.length) := by
      rintro v ⟨u, h1, h2, h3, h4⟩ hstep
      refine ⟨u, h1, fun i o' hi ho' => ?_, h4⟩
      by_cases hik : i = k
      · subst hik
        rw [ho] at ho'
        cases ho'
        rw [fr_congr (u' := u0) h1, h2]
        exact hstep
      · exact h3 i o' (by omega) ho'
    rw [walkT] at h
    by_cases hw : Region.wanted o (yielded L.toArray (fr u0 H a0 k).tmps) = true
    · rw [if_pos hw] at h
      cases hM : madeT M k with
      | some S =>
        simp only [hM] at h
        refine fin (S.shape (p k S)) (key _ (h.2 (p k S))) ?_
        rw [if_pos hw, hM]
        exact ⟨h.1, rfl⟩
      | none =>
        simp only [hM] at h
        obtain ⟨hc, v, h1, h2⟩ := h
        refine fin v (key _ h2) ?_
        rw [if_pos hw, hM]
        exact ⟨hc, h1⟩
    · rw [if_neg hw] at h
      refine fin undef (key _ h.2) ?_
      rw [if_neg hw]
      exact ⟨h.1, rfl⟩
theorem pathT_exists (p : (i : Nat) → (S : YldT F) → S.X) (h : walkT P F L M E 0 H a0) : ∃ u, PathT P F L H M a0 E p u := by
  obtain ⟨u, _, h2, h3⟩ := pathT_aux (a0 := a0) p H 0 (fun _ => undef) rfl (Nat.zero_le _) (by unfold fr; rw [List.take_zero]; exact h)
  exact ⟨u, fun i o ho => h2 i o (Nat.zero_le _) ho, h3⟩
/-- What is known of the operations that have been carried out. -/
def KnownT {F : Ph} (L H : List Oper) (M : List (Nat × YldT F)) (a0 : Act) (u : Nat → Value) (D : Nat → Prop) (w : World) : Prop :=
  ∀ j oj S, D j → H[j]? = some oj → madeT M j = some S → Region.wanted oj (yielded L.toArray (fr u H a0 j).tmps) = true → S.R (u j) w
theorem depsT_of (hP : persB H a0.tmps.size = true) (hR : readsB L H = true) (hL : ∀ (i : Nat) (o : Oper), H[i]? = some o → L[i]? = some o) {u : Nat → Value} {D : Nat → Prop} {w : World} (hK : KnownT L H M a0 u D w) {i : Nat} {o : Oper} (ho : H[i]? = some o)
    (hD : ∀ j, depB o j = true → D j) : DepsT L M (fr u H a0 i) o w := by
  intro j oj d S hj hd hdep hM hw
  have hlt := dep_lt hP ho hdep
  have hjl : j < H.length := by have := (List.getElem?_eq_some_iff.1 ho).1; omega
  have hj' : H[j]? = some oj := by
    have := hL j _ (List.getElem?_eq_getElem hjl)
    rw [hj] at this
    cases this
    exact List.getElem?_eq_getElem hjl
  rw [fr_new hP hj' hd hlt]
  exact hK j oj S (hD j hdep) hj' hM (by rw [← wanted_later hP hR hL hj' (Nat.le_of_lt hlt)]; exact hw)
/-- Two paths agree on what has been carried out. -/
theorem agreeT (hP : persB H a0.tmps.size = true) (hR : readsB L H = true) (hL : ∀ (i : Nat) (o : Oper), H[i]? = some o → L[i]? = some o) {p p' : (i : Nat) → (S : YldT F) → S.X} {u u' : Nat → Value}
    (h : PathT P F L H M a0 E p u) (h' : PathT P F L H M a0 E p' u') {D : Nat → Prop} {w : World} {ph : Nat} (hw : F.I ph w) (hcl : ∀ i o, D i → H[i]? = some o → ∀ j, depB o j = true → D j)
    (hp : ∀ i S, D i → p i S = p' i S) (hK : KnownT L H M a0 u D w) : ∀ i o, D i → H[i]? = some o → u i = u' i ∧ Region.wanted o (yielded L.toArray (fr u H a0 i).tmps) = Region.wanted o (yielded L.toArray (fr u' H a0 i).tmps) := by
  intro i
  induction i using Nat.strongRecOn with
  | ind i ih =>
    intro o hi ho
    have hlooks : ∀ t ∈ o.looksAt L.toArray, (fr u H a0 i).eval (.tmp t) = (fr u' H a0 i).eval (.tmp t) := fun t ht => by
      rcases looks_fr hP hR ho ht with ⟨_, he⟩ | ⟨j, oj, hj, hd, hdep, hlt, he⟩
      · rw [he u, he u']
      · rw [he u, he u']
        exact (ih j hlt oj (hcl i o hi ho j hdep) hj).1
    obtain ⟨e1, e2⟩ := same_of_looks (L := L) (readsB_spec hR ho).1 (by rw [fr_size, fr_size]) hlooks
    refine ⟨?_, e2⟩
    have s1 := h.step i o ho
    have s2 := h'.step i o ho
    rw [← e2] at s2
    by_cases hwt : Region.wanted o (yielded L.toArray (fr u H a0 i).tmps) = true
    · rw [if_pos hwt] at s1 s2
      cases hM : madeT M i with
      | some S =>
        simp only [hM] at s1 s2
        rw [s1.2, s2.2, hp i S hi]
      | none =>
        simp only [hM] at s1 s2
        have hd1 := depsT_of hP hR hL hK ho fun j hj => hcl i o hi ho j hj
        have hd2 : DepsT L M (fr u' H a0 i) o w := by
          intro j oj d S hj hd hdep hMj hwj
          have hlt := dep_lt hP ho hdep
          have hjl : j < H.length := by have := (List.getElem?_eq_some_iff.1 ho).1; omega
          have hj' : H[j]? = some oj := by
            have := hL j _ (List.getElem?_eq_getElem hjl)
            rw [hj] at this
            cases this
            exact List.getElem?_eq_getElem hjl
          have hDj := hcl i o hi ho j hdep
          obtain ⟨f1, f2⟩ := ih j hlt oj hDj hj'
          rw [fr_new hP hj' hd hlt, ← f1]
          refine hK j oj S hDj hj' hMj ?_
          rw [f2, ← wanted_later hP hR hL hj' (Nat.le_of_lt hlt)]
          exact hwj
        have r1 := s1.2 ph w hw hd1
        have r2 := s2.2 ph w hw hd2
        rw [e1, r2] at r1
        injection r1 with h1 _
        injection h1 with h2
        exact h2.symm
    · rw [if_neg hwt] at s1 s2
      rw [s1.2, s2.2]
/-- What holds while the head is run. -/
structure InvT (P : Program) (F : Ph) (L H : List Oper) (M : List (Nat × YldT F)) (a0 : Act) (E : Act → Prop) (listed : Array Bool) (a : Act) (w : World) : Prop where
  lsize : listed.size = L.length
  tail : ∀ t, H.length ≤ t → t < L.length → listed.getD t true = false
  inv : F.I (cntI F.C listed) w
  size : a.tmps.size = a0.tmps.size
  defers : a.defers = a0.defers
  old : ∀ t, (∀ i o, H[i]? = some o → listed.getD i true = true → o.dst ≠ some t) → a.eval (.tmp t) = a0.eval (.tmp t)
  closed : ∀ i o, H[i]? = some o → listed.getD i true = true → ∀ j, depB o j = true → listed.getD j true = true
  path : ∃ p u, PathT P F L H M a0 E p u ∧ (∀ i o d, H[i]? = some o → listed.getD i true = true → o.dst = some d → a.eval (.tmp d) = u i) ∧ KnownT L H M a0 u (fun i => i < H.length ∧ listed.getD i true = true) w
theorem KnownT.mono {u : Nat → Value} {D : Nat → Prop} {w w' : World} (h : KnownT L H M a0 u D w) (hb : F.T w w') : KnownT L H M a0 u D w' := fun j oj S hD hj hM hw => by
  obtain ⟨x, e, hr⟩ := h j oj S hD hj hM hw
  exact ⟨x, e, S.st x w w' hr hb⟩
theorem InvT.looks (hP : persB H a0.tmps.size = true) (hR : readsB L H = true) {listed : Array Bool} {a : Act} {w : World} (h : InvT P F L H M a0 E listed a w) {u : Nat → Value} (hu : ∀ i o d, H[i]? = some o → listed.getD i true = true → o.dst = some d → a.eval (.tmp d) = u i)
    {i : Nat} {o : Oper} (ho : H[i]? = some o) (hl : listed.getD i true = false) (hd : ∀ j, depB o j = true → listed.getD j true = true) : ∀ t ∈ o.looksAt L.toArray, a.eval (.tmp t) = (fr u H a0 i).eval (.tmp t) := by
  intro t ht
  rcases looks_fr hP hR ho ht with ⟨hold, he⟩ | ⟨j, oj, hj, hdj, hdep, hlt, he⟩
  · rw [he u]
    refine h.old t fun k ok hk hlk e => ?_
    unfold oldB at hold
    rw [List.all_eq_true] at hold
    have := hold (ok, k) (by rw [List.mem_zipIdx_iff_getElem?]; exact hk)
    simp only [Bool.or_eq_true, bne_iff_ne, ne_eq, beq_iff_eq] at this
    rcases this with (h' | h') | h'
    · exact h' e
    · subst h'; rw [hl] at hlk; cases hlk
    · have := h.closed k ok hk hlk i h'
      rw [hl] at this; cases this
  · rw [he u]
    exact hu j oj t hj (hd j hdep) hdj
open Classical in
/-- One operation of the head. -/
theorem InvT.step (hF : F.Ok) (hC : chainB H H.length F.C = true) (hP : persB H a0.tmps.size = true) (hR : readsB L H = true) (hL : ∀ (i : Nat) (o : Oper), H[i]? = some o → L[i]? = some o) (hW : walkT P F L M E 0 H a0) {listed : Array Bool} {a : Act} {w : World} (h : InvT P F L H M a0 E listed a w)
    {i : Nat} {o : Oper} (ho : H[i]? = some o) (hl : listed.getD i true = false) (hd : ∀ j, depB o j = true → listed.getD j true = true) {K : Act → World → Prop}
    (hK : ∀ v w', InvT P F L H M a0 E (listed.setIfInBounds i true) (a.put o.dst v) w' → K (a.put o.dst v) w') :
    if Region.wanted o (yielded L.toArray a.tmps) = true then o.wp P a w K (UpsT F a0.defers) else K (a.put o.dst undef) w := by
  obtain ⟨⟨d, hod, hdn⟩, _, hun⟩ := persB_spec hP ho
  obtain ⟨p, u, hp, hu, hk⟩ := h.path
  have hil : i < H.length := (List.getElem?_eq_some_iff.1 ho).1
  have hiL : i < L.length := (List.getElem?_eq_some_iff.1 (hL i o ho)).1
  have hi : i < listed.size := by rw [h.lsize]; exact hiL
  obtain ⟨e1, e2⟩ := same_of_looks (L := L) (readsB_spec hR ho).1 (by rw [fr_size, h.size]) (h.looks hP hR hu ho hl hd)
  have hdeps : DepsT L M (fr u H a0 i) o w := depsT_of hP hR hL hk ho fun j hj => ⟨by have := dep_lt hP ho hj; omega, hd j hj⟩
  have hs := hp.step i o ho
  obtain ⟨hph, hnx⟩ := cnt_next hC h.closed ho hi hl hd
  -- the new invariant, given a path whose value here is v
  have next : ∀ v w', F.I (cntI F.C (listed.setIfInBounds i true)) w' → (∃ p' u', PathT P F L H M a0 E p' u' ∧ u' i = v ∧ (∀ j oj, j < H.length → listed.getD j true = true → H[j]? = some oj → u' j = u j) ∧ KnownT L H M a0 u' (fun j => j < H.length ∧ (listed.setIfInBounds i true).getD j true = true) w') →
      InvT P F L H M a0 E (listed.setIfInBounds i true) (a.put o.dst v) w' := by
    rintro v w' hb ⟨p', u', hp', hv, hag, hk'⟩
    refine ⟨by simpa using h.lsize, fun t h1 h2 => by rw [getD_set_ne _ (by omega)]; exact h.tail t h1 h2, hb, by rw [put_size]; exact h.size, by rw [put_defers]; exact h.defers, ?_, ?_, p', u', hp', ?_, hk'⟩
    · intro t ht
      rw [put_get_ne _ _ _ _ (ht i o ho (getD_set_self _ hi))]
      exact h.old t fun j oj hj hlj => ht j oj hj (getD_set_true' hlj)
    · intro j oj hj hlj k hdep
      by_cases hij : i = j
      · subst hij
        rw [ho] at hj
        cases hj
        exact getD_set_true' (hd k hdep)
      · rw [getD_set_ne _ hij] at hlj
        exact getD_set_true' (h.closed j oj hj hlj k hdep)
    · intro j oj dj hj hlj hdj
      by_cases hij : i = j
      · subst hij
        rw [ho] at hj
        cases hj
        rw [hod] at hdj
        cases hdj
        rw [hod, put_get_eq _ _ _ (by rw [h.size]; exact hdn), hv]
      · rw [getD_set_ne _ hij] at hlj
        rw [put_get_ne _ _ _ _ (fun e => hun j oj hj (Ne.symm hij) (hdj.trans e.symm)), hag j oj (List.getElem?_eq_some_iff.1 hj).1 hlj hj]
        exact hu j oj dj hj hlj hdj
  -- the path stays
  have stay : ∀ w', F.T w w' → F.I (cntI F.C (listed.setIfInBounds i true)) w' → (∀ S, madeT M i = some S → Region.wanted o (yielded L.toArray (fr u H a0 i).tmps) = true → S.R (u i) w') → InvT P F L H M a0 E (listed.setIfInBounds i true) (a.put o.dst (u i)) w' := by
    intro w' hb hin hmade
    refine next _ _ hin ⟨p, u, hp, rfl, fun _ _ _ _ _ => rfl, fun j oj S hj hoj hM hw => ?_⟩
    by_cases hij : i = j
    · subst hij
      rw [ho] at hoj
      cases hoj
      exact hmade S hM hw
    · obtain ⟨hj1, hj2⟩ := hj
      rw [getD_set_ne _ hij] at hj2
      exact hk.mono hb j oj S ⟨hj1, hj2⟩ hoj hM hw
  by_cases hw : Region.wanted o (yielded L.toArray (fr u H a0 i).tmps) = true
  · rw [if_pos hw] at hs
    rw [if_pos (e2.trans hw)]
    cases hM : madeT M i with
    | none =>
      simp only [hM] at hs
      have hr := hs.2 _ w h.inv hdeps
      unfold Oper.wp Oper.upon
      rw [e1, hr]
      exact hK _ _ (stay w (hF.tB _ _ (Below.refl _ _)) (by rw [hnx]; unfold nxI; rw [if_neg hs.1]; exact h.inv) fun S hS => by rw [hM] at hS; cases hS)
    | some S =>
      simp only [hM] at hs
      have hwp := hs.1 _ w hph h.inv hdeps
      rw [← hnx] at hwp
      have hups : ∀ x a1 w1, UpsT F (fr u H a0 i).defers x a1 w1 → UpsT F a0.defers x a1 w1 := fun x a1 w1 hq => ⟨hq.1, hq.2.trans (fr_defers _ _ _ _)⟩
      have hwp' : o.wp P a w (fun a' w' => ∃ v, a' = a.put o.dst v ∧ S.R v w' ∧ F.T w w' ∧ F.I (cntI F.C (listed.setIfInBounds i true)) w') (UpsT F a0.defers) := by
        have hput : ∀ v, ∃ v', (fr u H a0 i).put o.dst v = (fr u H a0 i).put o.dst v' := fun v => ⟨v, rfl⟩
        unfold WpT Oper.wp at hwp
        unfold Oper.wp
        rw [e1]
        generalize (execOp (fr u H a0 i).eval o).run P w = r at hwp ⊢
        have inj : ∀ {v v' : Value}, (fr u H a0 i).put o.dst v = (fr u H a0 i).put o.dst v' → v = v' := fun {v v'} e => by
          have h1 := put_get_eq (fr u H a0 i) d v (by rw [fr_size]; exact hdn)
          have h2 := put_get_eq (fr u H a0 i) d v' (by rw [fr_size]; exact hdn)
          rw [hod] at e
          rw [← h1, e, h2]
        have conv : ∀ (v : Value) (w' : World), (∃ v', (fr u H a0 i).put o.dst v = (fr u H a0 i).put o.dst v' ∧ S.R v' w' ∧ F.T w w' ∧ F.I (cntI F.C (listed.setIfInBounds i true)) w') → ∃ v', a.put o.dst v = a.put o.dst v' ∧ S.R v' w' ∧ F.T w w' ∧ F.I (cntI F.C (listed.setIfInBounds i true)) w' := by
          rintro v w' ⟨v', e, hR, hb⟩
          rw [inj e]
          exact ⟨v', rfl, hR, hb⟩
        cases r with
        | halt x w' =>
          cases x <;> simp only [Oper.upon] at hwp ⊢
          case panic v => exact ⟨(hwp : UpsT _ _ _ _ _).1, h.defers⟩
        | ok n w' =>
          cases n <;> simp only [Oper.upon] at hwp ⊢
          case value v => exact conv v w' hwp
          case skip => exact conv undef w' hwp
          case enter f args =>
            refine Calls.mono hwp fun e w'' he => ?_
            cases e with
            | returned v => exact conv v w'' he
            | panicked c => exact ⟨(he : UpsT _ _ _ _ _).1, h.defers⟩
            | outgrown => obtain ⟨a1, w1, h0⟩ := (he : LetsOut _); exact ⟨a1, w1, hups _ _ _ h0⟩
          case row rw args =>
            exact hwp.mono fun v w'' he => conv v w'' he
          case defer dd =>
            obtain ⟨v', e, _⟩ := hwp
            have := congrArg Act.defers e
            rw [put_defers, put_defers] at this
            have := congrArg List.length this
            simp at this
      refine Oper.wp_mono (fun a' w' hq => ?_) hwp'
      obtain ⟨v, rfl, hRv, hb, hin⟩ := hq
      obtain ⟨x, hx, hrel⟩ := hRv
      refine hK _ _ (next v w' hin ?_)
      obtain ⟨u', hp'⟩ := pathT_exists (a0 := a0) (fun k (S' : YldT F) => if hh : k = i ∧ S' = S then hh.2 ▸ x else p k S') hW
      have hag := agreeT hP hR hL hp hp' (D := fun j => j < H.length ∧ listed.getD j true = true) (w := w) h.inv (fun j oj hj hoj k hdep => ⟨by have := dep_lt hP hoj hdep; omega, h.closed j oj hoj hj.2 k hdep⟩)
        (fun j S' hj => by
          have hne : ¬ (j = i ∧ S' = S) := fun hh => by
            have := hj.2
            rw [hh.1, hl] at this
            cases this
          simp only [dif_neg hne]) hk
      have hlooks' : ∀ t ∈ o.looksAt L.toArray, (fr u H a0 i).eval (.tmp t) = (fr u' H a0 i).eval (.tmp t) := fun t ht => by
        rcases looks_fr hP hR ho ht with ⟨_, he⟩ | ⟨j, oj, hj, hdj, hdep, hlt, he⟩
        · rw [he u, he u']
        · rw [he u, he u']
          exact (hag j oj ⟨by omega, hd j hdep⟩ hj).1
      obtain ⟨-, e4⟩ := same_of_looks (L := L) (readsB_spec hR ho).1 (by rw [fr_size, fr_size]) hlooks'
      have hui : u' i = v := by
        have s := hp'.step i o ho
        rw [← e4, if_pos hw, hM] at s
        have := s.2
        rw [this, hx]
        simp
      refine ⟨_, u', hp', hui, fun j oj hj hlj hoj => ((hag j oj ⟨hj, hlj⟩ hoj).1).symm, fun j oj S' hj hoj hMj hwj => ?_⟩
      by_cases hij : i = j
      · subst hij
        rw [ho] at hoj
        cases hoj
        rw [hM] at hMj
        cases hMj
        rw [hui]
        exact ⟨x, hx, hrel⟩
      · obtain ⟨hj1, hj2⟩ := hj
        rw [getD_set_ne _ hij] at hj2
        obtain ⟨f1, f2⟩ := hag j oj ⟨hj1, hj2⟩ hoj
        rw [← f1]
        exact hk.mono hb j oj S' ⟨hj1, hj2⟩ hoj hMj (by rw [f2]; exact hwj)
  · rw [if_neg hw] at hs
    rw [if_neg (by rw [e2]; exact hw), ← hs.2]
    exact hK _ _ (stay w (hF.tB _ _ (Below.refl _ _)) (by rw [hnx]; unfold nxI; rw [if_neg hs.1]; exact h.inv) fun S _ hw' => absurd hw' hw)
/-- What is known when the head is done. -/
def FactsT {F : Ph} (L H : List Oper) (M : List (Nat × YldT F)) (a : Act) (w : World) : Prop :=
  ∀ i o d S, H[i]? = some o → o.dst = some d → madeT M i = some S → Region.wanted o (yielded L.toArray a.tmps) = true → S.R (a.eval (.tmp d)) w
theorem InvT.done (hP : persB H a0.tmps.size = true) (hR : readsB L H = true) (hL : ∀ (i : Nat) (o : Oper), H[i]? = some o → L[i]? = some o) {listed : Array Bool} {a : Act} {w : World} (h : InvT P F L H M a0 E listed a w)
    (hall : ∀ i, i < H.length → listed.getD i true = true) : E a ∧ FactsT L H M a w := by
  obtain ⟨p, u, hp, hu, hk⟩ := h.path
  have he : fr u H a0 H.length = a := by
    refine act_ext (by rw [fr_size, h.size]) (by rw [fr_defers, h.defers]) fun t => ?_
    by_cases ht : ∃ (i : Nat) (o : Oper), H[i]? = some o ∧ o.dst = some t
    · obtain ⟨i, o, ho, hod⟩ := ht
      have hi := (List.getElem?_eq_some_iff.1 ho).1
      rw [fr_new hP ho hod hi]
      exact (hu i o t ho (hall i hi) hod).symm
    · rw [fr_old fun j o _ ho e => ht ⟨j, o, ho, e⟩]
      exact (h.old t fun i o ho _ e => ht ⟨i, o, ho, e⟩).symm
  refine ⟨he ▸ hp.fin, fun i o d S ho hd hM hw => ?_⟩
  have hi := (List.getElem?_eq_some_iff.1 ho).1
  rw [hu i o d ho (hall i hi) hd]
  refine hk i o S ⟨hi, hall i hi⟩ ho hM ?_
  rw [← wanted_later hP hR hL ho (Nat.le_of_lt hi), he]
  exact hw
theorem wpAny_walkT (hF : F.Ok) {Q : Exit → Act → World → Prop} {n : Nat} (hH : H = L.take n) (hC : chainB H H.length F.C = true) (hn : n ≤ L.length) (hP : persB H a0.tmps.size = true) (hR : readsB L H = true) (hT : n = L.length ∨ tailB L n = true) (hW : walkT P F L M E 0 H a0)
    (hup : ∀ x a w, UpsT F a0.defers x a w → Q x a w) (hend : ∀ a w, E a → F.I F.C.length w → FactsT L H M a w → wpList P L.toArray Q (L.drop n) a w) :
    ∀ (fuel : Nat) (U : List Nat) (listed : Array Bool) (a : Act) (w : World), U.Nodup → (∀ i, i ∈ U ↔ i < n ∧ listed.getD i true = false) → fuel = U.length + (L.length - n) → InvT P F L H M a0 E listed a w → wpAny P .any L.toArray Q fuel listed a w := by
  have hHl : H.length = n := by rw [hH]; simp; omega
  have hL : ∀ (i : Nat) (o : Oper), H[i]? = some o → L[i]? = some o := fun i o h => by
    rw [hH, List.getElem?_take] at h
    split at h
    · exact h
    · cases h
  have hLH : ∀ (i : Nat) (o : Oper), i < n → L[i]? = some o → H[i]? = some o := fun i o hi h => by
    rw [hH, List.getElem?_take, if_pos hi]; exact h
  have hcnt : ∀ {listed : Array Bool} {w : World}, (∀ i, i < n → listed.getD i true = true) → F.I (cntI F.C listed) w → F.I F.C.length w := fun {listed w} hall hi => by
    have : cntI F.C listed = F.C.length := by
      unfold cntI
      rw [List.filter_eq_self.2 (fun x hx => ?_)]
      obtain ⟨s, hs⟩ := List.mem_iff_getElem?.1 hx
      have := (chain_spec hC).2 s x hs
      exact hall x (by omega)
    rwa [this] at hi
  intro fuel
  induction fuel with
  | zero =>
    intro U listed a w _ hU hf h
    have hU0 : U = [] := List.eq_nil_of_length_eq_zero (by omega)
    have hnl : n = L.length := by omega
    have hall : ∀ i, i < n → listed.getD i true = true := fun i hi => by
      cases hl : listed.getD i true with
      | true => rfl
      | false => have := (hU i).2 ⟨hi, hl⟩; rw [hU0] at this; cases this
    obtain ⟨hE, hF'⟩ := h.done hP hR hL (fun i hi => hall i (by omega))
    have hq := hend a w hE (hcnt hall h.inv) hF'
    rw [hnl, List.drop_length] at hq
    exact ⟨ready_none fun i hi => hall i (by omega), hq⟩
  | succ fuel ih =>
    intro U listed a w hnd hU hf h
    by_cases hU0 : U = []
    · have hall : ∀ i, i < n → listed.getD i true = true := fun i hi => by
        cases hl : listed.getD i true with
        | true => rfl
        | false => have := (hU i).2 ⟨hi, hl⟩; rw [hU0] at this; cases this
      obtain ⟨hE, hF'⟩ := h.done hP hR hL (fun i hi => hall i (by omega))
      have hq := hend a w hE (hcnt hall h.inv) hF'
      rw [hU0] at hf
      simp only [List.length_nil, Nat.zero_add] at hf
      have hT' : tailB L n = true := hT.resolve_left (by omega)
      unfold tailB at hT'
      simp only [Bool.and_eq_true] at hT'
      have hlist := seq_listed (L := L) hn h.lsize hall (fun t h1 h2 => h.tail t (by omega) h2)
      have := wpAny_of_seq (P := P) (md := .any) (ops := L.toArray) (Q' := Q) (L.drop n) n listed a w (fun j => by simp [List.getElem?_drop]) (by rw [List.length_drop, hlist]; exact hT'.2) hq
      rw [List.length_drop, ← hf] at this
      exact this
    · have hnotall : ¬ ∀ i, i < n → listed.getD i true = true := fun hall => by
        obtain ⟨x, hx⟩ := List.exists_mem_of_ne_nil _ hU0
        have := (hU x).1 hx
        rw [hall x this.1] at this
        exact absurd this.2 (by decide)
      refine ⟨fun hr => ?_, fun i hi => ?_⟩
      · exfalso
        refine hnotall fun i => ?_
        induction i using Nat.strongRecOn with
        | ind i ihi =>
          intro hi
          cases hl : listed.getD i true with
          | true => rfl
          | false =>
            have ho : H[i]? = some (H[i]'(by omega)) := List.getElem?_eq_getElem _
            obtain ⟨_, h2, _⟩ := persB_spec hP ho
            have : i ∈ Region.ready .any L.toArray listed := by
              rw [mem_ready]
              refine ⟨hl, _, by simpa using hL i _ ho, fun e he hb => ?_⟩
              have hlt := h2 e he hb
              rw [← getD_lt (by rw [h.lsize]; omega)]
              exact ihi e.on hlt (by omega)
            rw [hr] at this
            cases this
      rw [mem_ready] at hi
      obtain ⟨hl, o, ho, hdeps⟩ := hi
      have hoL : L[i]? = some o := by simpa using ho
      have hiL : i < L.length := (List.getElem?_eq_some_iff.1 hoL).1
      have hd : ∀ j, depB o j = true → listed.getD j true = true := fun j hj => by
        obtain ⟨e, he, hon, hb⟩ := depB_of hj
        have := hdeps e he hb
        rw [hon] at this
        exact getD_tf this
      by_cases hin : i < n
      · have ho' := hLH i o hin hoL
        have hs := h.step hF hC hP hR hL hW ho' hl hd (K := wpAny P .any L.toArray Q fuel (listed.setIfInBounds i true)) (fun v w' hinv => by
          refine ih (U.erase i) _ _ _ (hnd.erase i) (fun j => ?_) ?_ hinv
          · rw [hnd.mem_erase_iff, hU j]
            constructor
            · rintro ⟨h1, h2, h3⟩
              exact ⟨h2, by rw [getD_set_ne _ (Ne.symm h1)]; exact h3⟩
            · rintro ⟨h1, h2⟩
              have hne : j ≠ i := by
                rintro rfl
                rw [getD_set_self _ (by rw [h.lsize]; exact hiL)] at h2; cases h2
              rw [getD_set_ne _ (Ne.symm hne)] at h2
              exact ⟨hne, h1, h2⟩
          · have hm := (hU i).2 ⟨hin, hl⟩
            have := List.length_pos_of_mem hm
            rw [List.length_erase_of_mem hm]
            omega)
        unfold wpOp
        rw [ho]
        simp only
        split at hs
        · next hw => rw [if_pos hw]; exact .inl (oper_wp_to hup hs)
        · next hw => rw [if_neg hw]; exact hs
      · exfalso
        have hT' : tailB L n = true := hT.resolve_left (by omega)
        unfold tailB at hT'
        simp only [Bool.and_eq_true] at hT'
        obtain ⟨⟨hT1, hT2⟩, _⟩ := hT'
        by_cases hni : i = n
        · subst hni
          refine hnotall ?_
          have key : ∀ m k, i - k = m → k < i → listed.getD k true = true := by
            intro m
            induction m using Nat.strongRecOn with
            | ind m ihm =>
              intro k hm hk
              have := List.all_eq_true.1 hT1 k (List.mem_range.2 hk)
              rw [Bool.or_eq_true, hoL] at this
              rcases this with h1 | h1
              · exact hd k h1
              · obtain ⟨⟨o', k'⟩, hm', h2⟩ := List.any_eq_true.1 h1
                simp only [Bool.and_eq_true, decide_eq_true_eq] at h2
                rw [List.mem_zipIdx_iff_getElem?, ← hH] at hm'
                have hk' := (List.getElem?_eq_some_iff.1 hm').1
                exact h.closed k' o' hm' (ihm (i - k') (by omega) k' rfl (by omega)) k h2.2
          exact fun k hk => key _ k rfl hk
        · have := List.all_eq_true.1 hT2 (o, i) (by rw [List.mem_zipIdx_iff_getElem?]; exact hoL)
          simp only [Bool.or_eq_true, decide_eq_true_eq] at this
          rcases this with h1 | h1
          · omega
          · have h2 := hd _ h1
            rw [h.tail (i - 1) (by omega) (by omega)] at h2
            cases h2
/-- THE LAW: as in XWalk, with operations that write. -/
theorem wp_region_walkT {id : Nat} {w0 : World} {Q : Exit → Act → World → Prop} (F : Ph) (hF : F.Ok) (n : Nat) (M : List (Nat × YldT F)) (hm : P.follows .mixedOrders = true) (hB : walkB L n a0.tmps.size = true) (hC : chainB (L.take n) (L.take n).length F.C = true) (h0 : F.I 0 w0) (hup : ∀ x a w, F.Up x w → a.defers = a0.defers → Q x a w)
    (h : walkT P F L M (fun a => ∀ w, F.I F.C.length w → FactsT L (L.take n) M a w → wpList P L.toArray Q (L.drop n) a w) 0 (L.take n) a0) : (Code.region id L.toArray true).wp P Q a0 w0 := by
  unfold walkB at hB
  simp only [Bool.and_eq_true, Bool.or_eq_true, decide_eq_true_eq] at hB
  obtain ⟨⟨⟨hn, hP⟩, hR⟩, hT⟩ := hB
  refine wp_region_any hm ?_
  have hf : ∀ i, i < L.length → (Array.replicate L.toArray.size false).getD i true = false := fun i hi => by
    rw [Array.getD_eq_getD_getElem?, Array.getElem?_eq_getElem (by simpa using hi)]
    simp
  have hHl : (L.take n).length = n := by simp; omega
  have hz : cntI F.C (Array.replicate L.toArray.size false) = 0 := by
    unfold cntI
    rw [List.filter_eq_nil_iff.2 (fun x hx => ?_)]
    · rfl
    · obtain ⟨s, hs⟩ := List.mem_iff_getElem?.1 hx
      have := (chain_spec hC).2 s x hs
      rw [hf x (by omega)]
      decide
  obtain ⟨u, hu⟩ := pathT_exists (a0 := a0) (fun _ S => S.inh) h
  refine wpAny_walkT hF rfl hC hn hP hR hT h (fun x a w hq => hup x a w hq.1 hq.2) (fun a w hE hb hF => hE w hb hF) _ (List.range n) _ _ _ List.nodup_range (fun i => ?_) (by simp; omega) ?_
  · rw [List.mem_range]
    exact ⟨fun hi => ⟨hi, hf i (by omega)⟩, fun hi => hi.1⟩
  · refine ⟨by simp, fun t _ ht => hf t ht, by rw [hz]; exact hF.iB _ _ _ h0 ⟨rfl, rfl, rfl, Nat.le_refl _, fun _ _ => rfl⟩, rfl, rfl, fun t _ => rfl, fun i o ho hl => ?_, _, u, hu, fun i o d ho hl => ?_, fun j oj S hj => ?_⟩
    · have := (List.getElem?_eq_some_iff.1 ho).1
      rw [hf i (by omega)] at hl; cases hl
    · have := (List.getElem?_eq_some_iff.1 ho).1
      rw [hf i (by omega)] at hl; cases hl
    · have := hj.2
      rw [hf j (by omega)] at this; cases this
end
section
variable {P : Program} {F : Ph} {L r : List Oper} {M : List (Nat × YldT F)} {a : Act} {E : Act → Prop} {i : Nat} {o : Oper}
/-- A world of the region. -/
structure In (F : Ph) where
  w : World
  t : Nat
  h : F.I t w
theorem walkT_val {v : Value} (hw : Region.wanted o (yielded L.toArray a.tmps) = true) (hM : madeT M i = none) (hc : i ∉ F.C) (h : ∀ t w, F.I t w → DepsT L M a o w → (execOp a.eval o).run P w = .ok (.value v) w) (hn : walkT P F L M E (i + 1) r (a.put o.dst v)) : walkT P F L M E i (o :: r) a := by
  rw [walkT, if_pos hw, hM]
  exact ⟨hc, v, h, hn⟩
theorem walkT_made {S : YldT F} (hw : Region.wanted o (yielded L.toArray a.tmps) = true) (hM : madeT M i = some S) (h : ∀ t w, phI F.C i t → F.I t w → DepsT L M a o w → WpT P F (nxI F.C i t) o a S w) (hn : ∀ x, walkT P F L M E (i + 1) r (a.put o.dst (S.shape x))) : walkT P F L M E i (o :: r) a := by
  rw [walkT, if_pos hw, hM]
  exact ⟨h, hn⟩
theorem walkT_quiet (hw : Region.wanted o (yielded L.toArray a.tmps) = true) (hM : madeT M i = none) (hc : F.C.contains i = false) (hv : valB o = true) (h : ∀ K : Act → Prop, (∀ a, walkT P F L M E (i + 1) r a → K a) → o.quiet P a (fun w => ∃ x : In F, w = x.w) K) : walkT P F L M E i (o :: r) a := by
  obtain ⟨v, h1, h2⟩ := h (walkT P F L M E (i + 1) r) (fun _ h => h)
  refine walkT_val hw hM (by intro hm; rw [List.contains_iff_mem.2 hm] at hc; cases hc) (fun t w hb _ => ?_) h2
  have := h1 w ⟨⟨w, t, hb⟩, rfl⟩
  unfold Oper.quietAt at this
  generalize hr : (execOp a.eval o).run P w = res at this
  cases res with
  | halt x w' => exact this.elim
  | ok n w' =>
    obtain ⟨u, rfl⟩ := valB_spec hv hr
    obtain ⟨rfl, rfl⟩ := (this : w' = w ∧ u = v)
    rfl
theorem walkT_nil (h : E a) : walkT P F L M E i [] a := h
theorem walkT_is {c : Value} (hw : Region.wanted o (yielded L.toArray a.tmps) = true) (hM : madeT M i = some (YldT.is F c)) (h : ∀ t w, phI F.C i t → F.I t w → DepsT L M a o w → WpT P F (nxI F.C i t) o a (YldT.is F c) w) (hn : walkT P F L M E (i + 1) r (a.put o.dst c)) : walkT P F L M E i (o :: r) a :=
  walkT_made hw hM h fun _ => hn
theorem YldT.is_mk {c : Value} {w : World} : (YldT.is F c).R c w := ⟨(), rfl, trivial⟩
theorem WpT.call {S : YldT F} {t' : Nat} {f : FuncId} {args : Array Value} {w : World} (hr : (execOp a.eval o).run P w = .ok (.enter f args) w) (h : Calls P f args w fun e w' => (∃ v, e = .returned v ∧ S.R v w' ∧ F.T w w' ∧ F.I t' w') ∨ (∃ c, e = .panicked c ∧ F.Up (.panic c) w')) : WpT P F t' o a S w := by
  unfold WpT Oper.wp Oper.upon
  rw [hr]
  refine h.mono fun e w' he => ?_
  rcases he with ⟨v, he, hv, hT, hI⟩ | ⟨c, he, hv⟩
  · subst he
    exact ⟨v, rfl, hv, hT, hI⟩
  · subst he
    exact ⟨hv, rfl⟩
end
end Go.Fd
namespace Go.Proofs.Ytmpelmjhimalpaa
open Go.RowKit Go.Fd
abbrev Pg := Nat × Nat × List UInt8
def encPg (p : Pg × Value) : List Value := [.int .u64 (p.1.1 : Int), .int .i64 (p.1.2.1 : Int), p.2]
/-- The reference's memory at block g: its pages L in the slice lv. -/
structure RefIs (w : World) (base g : Nat) (lv : Value) (L : List (Pg × Value)) : Prop where
  hd : ∃ last : Nat, w.heap[g]? = some (.cells #[lv, .int .i64 (last : Int)] 56 (0, 0))
  lo : base ≤ g
  own : OwR 3 encPg 62 w base lv L
  pages : ∀ p ∈ L, OB w base p.2 p.1.2.2
  apart : ∀ (i j : Nat) (p q : Pg × Value), i < j → L[i]? = some p → L[j]? = some q → ∀ k, p.2.ownBlock = some k → q.2.ownBlock ≠ some k
  ok : OkV (L.map (·.1))
/-- The blocks of the reference's memory. -/
def rfoot (g : Nat) (lv : Value) (L : List (Pg × Value)) (k : Nat) : Prop := k = g ∨ lv.ownBlock = some k ∨ ∃ p ∈ L, p.2.ownBlock = some k
theorem ows_ge {w : World} {base e size n : Nat} {v : Value} {xs : List Value} (h : w.ownsRow base e size v n xs) : ∀ k, v.ownBlock = some k → base ≤ k := by
  intro k hk
  rcases h.2 with ⟨rfl, _⟩ | ⟨g, c, u, rfl, hb, _⟩
  · cases hk
  · simp only [Value.ownBlock, Option.some.injEq] at hk
    omega
theorem ows_lt {w : World} {base e size n : Nat} {v : Value} {xs : List Value} (h : w.ownsRow base e size v n xs) : ∀ k, v.ownBlock = some k → k < w.heap.size := by
  intro k hk
  rcases h.2 with ⟨rfl, _⟩ | ⟨g, c, u, rfl, hb, hg, _⟩
  · cases hk
  · simp only [Value.ownBlock, Option.some.injEq] at hk
    have := (Array.getElem?_eq_some_iff.1 hg).1
    omega
theorem ows_ne {w : World} {base e size n g : Nat} {v : Value} {xs : List Value} {cs : Array Value} {t : TypeId} {fr : Nat × Nat} (h : w.ownsRow base e size v n xs) (hg : w.heap[g]? = some (.cells cs t fr)) (he : t ≠ e) : ∀ k, v.ownBlock = some k → k ≠ g := by
  rintro k hk rfl
  rcases h.2 with ⟨rfl, _⟩ | ⟨b, cap, cur, rfl, hb, hh, _⟩
  · cases hk
  · simp only [Value.ownBlock, Option.some.injEq] at hk
    subst hk
    rw [hg] at hh
    cases hh
    exact he rfl
section
variable {w w' : World} {base g : Nat} {lv : Value} {L : List (Pg × Value)}
theorem RefIs.foot (h : RefIs w base g lv L) (k : Nat) (hk : rfoot g lv L k) : base ≤ k ∧ k < w.heap.size := by
  rcases hk with rfl | hk | ⟨p, hp, hk⟩
  · obtain ⟨last, h1⟩ := h.hd
    exact ⟨h.lo, (Array.getElem?_eq_some_iff.1 h1).1⟩
  · exact ⟨ows_ge h.own k hk, ows_lt h.own k hk⟩
  · exact ⟨ows_ge (h.pages p hp) k hk, ows_lt (h.pages p hp) k hk⟩
/-- Its blocks untouched. -/
theorem RefIs.stirs {S : Nat → Prop} (h : RefIs w base g lv L) (ht : Stirs S w w') (hs : ∀ k, rfoot g lv L k → ¬ S k) : RefIs w' base g lv L := by
  obtain ⟨last, h1⟩ := h.hd
  exact ⟨⟨last, ht.kept h1 (hs g (.inl rfl))⟩, h.lo, owns_stirs h.own ht (fun k hk => hs k (.inr (.inl hk))), fun p hp => owns_stirs (h.pages p hp) ht (fun k hk => hs k (.inr (.inr ⟨p, hp, hk⟩))), h.apart, h.ok⟩
theorem RefIs.mono (h : RefIs w base g lv L) (hb : Below w.heap.size w w') : RefIs w' base g lv L := by
  obtain ⟨last, h1⟩ := h.hd
  exact ⟨⟨last, by rw [hb.block g (Array.getElem?_eq_some_iff.1 h1).1]; exact h1⟩, h.lo, h.own.mono hb, fun p hp => OB.mono (h.pages p hp) hb, h.apart, h.ok⟩
/-- The place asked for last, written. -/
theorem RefIs.last (h : RefIs w base g lv L) (hs : Stirs (fun k => k = g) w w') {last : Nat} (hg : w'.heap[g]? = some (.cells #[lv, .int .i64 (last : Int)] 56 (0, 0))) : RefIs w' base g lv L := by
  obtain ⟨l0, h1⟩ := h.hd
  exact ⟨⟨last, hg⟩, h.lo, owns_stirs h.own hs (ows_ne h.own h1 (by decide)), fun p hp => owns_stirs (h.pages p hp) hs (ows_ne (h.pages p hp) h1 (by decide)), h.apart, h.ok⟩
end
/-- What find tells: -1, or a place. -/
def FindRes (L : List (Pg × Value)) (n : Nat) (z : Int) : Prop := (z = -1 ∧ findV (L.map (·.1)) n = none) ∨ ∃ (i : Nat) (p : Pg × Value), z = (i : Int) ∧ L[i]? = some p ∧ findV (L.map (·.1)) n = some p.1
theorem findV_at {V : Vw} {i n : Nat} {x : Pg} (hn : (V.map (·.1)).Nodup) (h : V[i]? = some x) (hx : x.1 = n) : findV V n = some x := by
  subst hx
  have hm := List.mem_of_getElem? h
  cases hf : findV V x.1 with
  | none =>
    unfold findV at hf
    have := List.find?_eq_none.1 hf x hm
    simp at this
  | some y =>
    unfold findV at hf
    have hy := List.mem_of_find?_eq_some hf
    have he := List.find?_some hf
    rw [nodup_inj hn hy hm (by simpa using he)]
theorem findV_none {V : Vw} {n : Nat} (h : ∀ x ∈ V, x.1 ≠ n) : findV V n = none := by
  unfold findV
  rw [List.find?_eq_none]
  intro x hx
  simpa using h x hx
theorem pg_cells {w : World} {a : Option Addr} {m c k : Nat} {l : List (Pg × Value)} {x : Pg × Value} (h : RdR 3 encPg w (.slice a m c) l) (hk : l[k]? = some x) :
    ∃ b o, a = some ⟨b, o, none⟩ ∧ w.cell? ⟨b, o + k * 3, none⟩ = some (.int .u64 (x.1.1 : Int)) ∧ w.cell? ⟨b, o + k * 3 + 1, none⟩ = some (.int .i64 (x.1.2.1 : Int)) ∧ w.cell? ⟨b, o + k * 3 + 2, none⟩ = some x.2 := by
  obtain ⟨a', cap, hv, -, -, hc⟩ := h.open (fun _ => rfl)
  injection hv with h1 h2 h3
  subst h1
  obtain ⟨b, o, ha, hcc⟩ := hc k x hk (by decide)
  refine ⟨b, o, ha, (hcc 0 (by decide)).trans rfl, ?_, ?_⟩
  · have := (hcc 1 (by decide)).trans (rfl : (encPg x)[1]? = some (.int .i64 (x.1.2.1 : Int)))
    rwa [← Nat.add_assoc] at this
  · have := (hcc 2 (by decide)).trans (rfl : (encPg x)[2]? = some x.2)
    rwa [← Nat.add_assoc] at this
theorem wpList_storeI {ops : Array Oper} {rest : List Oper} {Q : Exit → Act → World → Prop} {a : Act} {w : World} {d : Option Tmp} {ty tb : TypeId} {pos : String} {aft : Array Edge} {p x : Operand} {c : Array Value} {g j : Nat} {n : Int} (hg : w.heap[g]? = some (.cells c tb (0, 0))) (hj : j < c.size) (hp : a.eval p = .pointer (some ⟨g, j, none⟩)) (hx : a.eval x = .int .i64 n)
    (h : ∀ w1, w1.heap[g]? = some (.cells (c.setIfInBounds j (.int .i64 n)) tb (0, 0)) → Stirs (fun k => k = g) w w1 → wpList Try.prog ops Q rest (a.put d undef) w1) :
    wpList Try.prog ops Q (⟨d, .store 3 p x, ty, pos, aft, none⟩ :: rest) a w := by
  have hc : w.cell? ⟨g, j, none⟩ = some c[j] := (cell_rec hg j).trans (Array.getElem?_eq_getElem hj)
  have hfz : w.frozen? ⟨g, j, none⟩ = false := by simp [World.frozen?, hg]
  refine wpList_did (w' := w.setCell ⟨g, j, none⟩ (.int .i64 n)) rfl ?_ (h _ ?_ (stirs_setCell (S := fun k => k = g) _ g j _ rfl))
  · simp only [execOp, hp, hx]
    simp [go_sem, hc, hfz]
  · simp [World.setCell, Array.getElem?_modify, hg]
set_option maxHeartbeats 4000000 in
set_option maxRecDepth 100000 in
theorem refFind_any {base g : Nat} {lv : Value} {L : List (Pg × Value)} (w : World) (h : RefIs w base g lv L) (n : Nat) (hL : L.length ≤ 1000000) :
    Calls Try.prog 62 #[ptr g, .int .u64 (n : Int)] w fun e w' => (∃ z, e = .returned (.int .i64 z) ∧ FindRes L n z) ∧ RefIs w' base g lv L ∧ Stirs (fun k => k = g) w w' := by
  have H := Lib.hid h
  obtain ⟨last, hg⟩ := h.hd
  have HG := Lib.hid hg
  obtain ⟨m, la, lc, hm, rfl, _, _⟩ := h.own.shape
  have HM := Lib.hid hm.out
  have hm9 : m ≤ 1000000 := by have := hm.out; omega
  have HND := Lib.hid h.ok.nd
  have HRD := Lib.hid h.own.rd
  have c0 := cell_rec hg 0
  have c1 := cell_rec hg 1
  simp only [List.getElem?_toArray, List.getElem?_cons_zero, List.getElem?_cons_succ] at c0 c1
  clear h hg hm hL
  have hbw := fun (wx : World) (h : Below w.heap.size w wx) => show Stirs (fun k => k = g) w wx from ⟨h.os, h.tape, h.output, h.size, fun k hk _ => h.block k hk⟩
  have HBW := Lib.hid hbw
  clear hbw
  by_cases t0 : ∃ x, L[last]? = some x ∧ x.1.1 = n
  · obtain ⟨x, hx, t2⟩ := t0
    have t1 : last < m := by rw [HM.out]; exact (List.getElem?_eq_some_iff.1 hx).1
    have HF := Lib.hid (show FindRes L n (last : Int) from .inr ⟨last, x, rfl, hx, findV_at HND.out (by rw [List.getElem?_map, hx]; rfl) t2⟩)
    obtain ⟨b, o, rfl, u0, -, -⟩ := pg_cells HRD.out hx
    have d1 : decide ((last : Int) < (m : Int)) = true := decide_eq_true (by omega)
    have d2 : ((x.1.1 : Int) == (n : Int)) = true := by rw [t2]; simp
    clear hx t2
    go_enter Try.func62, Try.ntmps62
    go_wp2
    go_quiet (fail)
    have HB9 := Lib.hid ((Below.refl w.heap.size w).drewN nq)
    go_wp2
    go_ret
    exact ⟨⟨_, rfl, HF.out⟩, H.out.mono HB9.out, HBW.out _ HB9.out⟩
  have HT0 := Lib.hid t0
  clear t0
  by_cases t1 : last < m
  case' pos =>
    obtain ⟨x, hx⟩ : ∃ x, L[last]? = some x := ⟨_, List.getElem?_eq_getElem (by have := HM.out; omega)⟩
    have t2 : ¬ x.1.1 = n := fun e => HT0.out ⟨x, hx, e⟩
    obtain ⟨b, o, hla, u0, -, -⟩ := pg_cells HRD.out hx
    have d1 : decide ((last : Int) < (m : Int)) = true := decide_eq_true (by omega)
    have d2 : ((x.1.1 : Int) == (n : Int)) = false := by simp; omega
    subst hla
    clear hx t2
  case' neg =>
    have d1 : decide ((last : Int) < (m : Int)) = false := decide_eq_false (by omega)
  all_goals
    go_enter Try.func62, Try.ntmps62
    go_wp2
    go_quiet (fail)
    have HB9 := Lib.hid ((Below.refl w.heap.size w).drewN nq)
    go_wp2
    go_loopw [5] (fun iv wr => ∃ i : Nat, iv = .int .i64 (i : Int) ∧ i ≤ m ∧ Hid (∀ j x, j < i → L[j]? = some x → x.1.1 ≠ n) ∧ Hid (Below w.heap.size w wr)) (fun iv _ => m - (intOf iv).toNat)
    case atStart => exact ⟨0, rfl, Nat.zero_le _, (fun j x h => by omega), HB9.out⟩
    case round =>
      obtain ⟨i, rfl, hi, HNO, HB⟩ := hrel
      have hz := HB.out.size
      have HGr := Lib.hid (heap_below HB.out HG.out)
      have e0 := cell_rec HGr.out 0
      have e1 := cell_rec HGr.out 1
      simp only [List.getElem?_toArray, List.getElem?_cons_zero, List.getElem?_cons_succ] at e0 e1
      by_cases hlt : i < m
      · obtain ⟨y, hy⟩ : ∃ y, L[i]? = some y := ⟨_, List.getElem?_eq_getElem (by have := HM.out; omega)⟩
        have HY := Lib.hid hy
        obtain ⟨b', o', hbo, v0, -, -⟩ := pg_cells (HRD.out.mono HB.out) hy
        cases hbo
        clear hy
        by_cases t3 : y.1.1 = n
        · have d3 : ((y.1.1 : Int) == (n : Int)) = true := by rw [t3]; simp
          have HF := Lib.hid (show FindRes L n (i : Int) from .inr ⟨i, y, rfl, HY.out, findV_at HND.out (by rw [List.getElem?_map, HY.out]; rfl) t3⟩)
          clear t3
          go_wp2_with ((with_reducible show wpList _ _ _ (⟨none, .store _ (.tmp 57) _, _, _, _, _⟩ :: _) _ _); go_must (refine wpList_storeI HGr.out (by simp) rfl rfl ?_; intro w5 hh5 hs5; have HH5 := Lib.hid hh5; have HS5 := Lib.hid hs5; clear hh5 hs5))
          go_ret
          exact ⟨⟨_, rfl, HF.out⟩, (H.out.mono HB.out).last HS5.out HH5.out, (HBW.out _ HB.out).trans HS5.out (fun _ _ h => h)⟩
        · have d3 : ((y.1.1 : Int) == (n : Int)) = false := by simp; omega
          have HT3 := Lib.hid t3
          clear t3
          go_wp2
          go_roundw
          case rel =>
            refine ⟨i + 1, by go_num, by omega, ?_, HB.out⟩
            intro j z hj hz
            by_cases e : j = i
            · subst e
              rw [HY.out] at hz
              cases hz
              exact HT3.out
            · exact HNO.out j z (by omega) hz
          case measure => simp [intOf] <;> omega
      · obtain rfl : i = m := by omega
        have HF := Lib.hid (show FindRes L n (-1) from .inl ⟨rfl, findV_none (fun x hx => by
          obtain ⟨p, hp, rfl⟩ := List.mem_map.1 hx
          obtain ⟨j, hj⟩ := List.mem_iff_getElem?.1 hp
          exact HNO.out j p (by have := (List.getElem?_eq_some_iff.1 hj).1; have := HM.out; omega) hj)⟩)
        go_wp2
        go_ret
        exact ⟨⟨_, rfl, HF.out⟩, H.out.mono HB.out, HBW.out _ HB.out⟩
end Go.Proofs.Ytmpelmjhimalpaa
namespace Go.Proofs.Ytmpelmjhimalpaa
open Go.RowKit Go.Fd
theorem both_or : ∀ r q : Fin 8, (bothB r = true → bothB ((r : Nat) ||| (q : Nat)) = true) ∧ (bothB r = true → bothB ((q : Nat) ||| (r : Nat)) = true) := by decide +kernel
theorem or_comm8 : ∀ r q : Fin 8, ((r : Nat) ||| (q : Nat)) = ((q : Nat) ||| (r : Nat)) := by decide +kernel
theorem right_fin : ∀ q r : Fin 8, ((r : Nat) = 0 ∨ (r : Nat) = 1 ∨ (r : Nat) = 2 ∨ (r : Nat) = 4) → (((q : Nat) &&& (r : Nat) == (r : Nat)) = ((r : Nat) == 0 || !((q : Nat) &&& (r : Nat) == 0))) := by decide +kernel
theorem both_i8 {r : Nat} (hr : r < 8) : (bits .and .i64 (r : Int) 3 == 3) = bothB r := both_fin ⟨r, hr⟩
/-- What far tells. -/
def farR (V : Vw) (f l r : Nat) : Int := if clashV V f l r = true then 21 else 6
theorem farR_yes {V : Vw} {f l r : Nat} (h : clashV V f l r = true) : farR V f l r = 21 := by unfold farR; rw [if_pos h]
theorem farR_no {V : Vw} {f l r : Nat} (h : clashV V f l r = false) : farR V f l r = 6 := by unfold farR; rw [if_neg (by rw [h]; exact Bool.false_ne_true)]
set_option maxHeartbeats 4000000 in
set_option maxRecDepth 100000 in
theorem refFar_any {base g : Nat} {lv : Value} {L : List (Pg × Value)} (w : World) (h : RefIs w base g lv L) (f l r : Nat) (hr : r < 8) (hL : L.length ≤ 1000000) :
    Calls Try.prog 61 #[ptr g, .int .u64 (f : Int), .int .u64 (l : Int), .int .i64 (r : Int)] w fun e w' => e = .returned (.int .i64 (farR (L.map (·.1)) f l r)) ∧ w = w' := by
  have H := Lib.hid h
  obtain ⟨last, hg⟩ := h.hd
  obtain ⟨m, la, lc, hm, rfl, _, _⟩ := h.own.shape
  have HM := Lib.hid hm.out
  have hm9 : m ≤ 1000000 := by have := hm.out; omega
  have HRD := Lib.hid h.own.rd
  have c0 := cell_rec hg 0
  simp only [List.getElem?_toArray, List.getElem?_cons_zero] at c0
  have hb := both_i8 hr
  clear h hg hm hL
  cases hbr : bothB r with
  | true =>
    have HR := Lib.hid (farR_yes (V := L.map (·.1)) (f := f) (l := l) (r := r) (by unfold clashV; rw [hbr]; rfl))
    rw [hbr] at hb
    go_enter Try.func61, Try.ntmps61
    go_wp2
    go_ret
    exact ⟨by rw [HR.out]; rfl, rfl⟩
  | false =>
    have HRB := Lib.hid hbr
    rw [hbr] at hb
    clear hbr
    go_enter Try.func61, Try.ntmps61
    go_wp2
    clear hb
    go_loop [9] (fun iv => ∃ i : Nat, iv = .int .i64 (i : Int) ∧ i ≤ m ∧ Hid (∀ (j : Nat) (x : Pg × Value), j < i → L[j]? = some x → (inV f l x.1 && bothB (x.1.2.1 ||| r)) = false)) (fun iv => m - (intOf iv).toNat)
    case atStart => exact ⟨0, rfl, Nat.zero_le _, (fun j x h => by omega)⟩
    case round =>
      obtain ⟨i, rfl, hi, HNO⟩ := hrel
      by_cases hlt : i < m
      · obtain ⟨y, hy⟩ : ∃ y, L[i]? = some y := ⟨_, List.getElem?_eq_getElem (by have := HM.out; omega)⟩
        have HY := Lib.hid hy
        have hq := (H.out.ok.pg y.1 (List.mem_map.2 ⟨y, List.mem_of_getElem? hy, rfl⟩)).2.1
        obtain ⟨b', o', hbo, v0, v1, -⟩ := pg_cells HRD.out hy
        subst hbo
        have HIN := Lib.hid (show inV f l y.1 = (decide (f ≤ y.1.1) && decide (y.1.1 ≤ l)) from rfl)
        have HSTEP := Lib.hid (show (inV f l y.1 && bothB (y.1.2.1 ||| r)) = false → ∀ (j : Nat) (x : Pg × Value), j < i + 1 → L[j]? = some x → (inV f l x.1 && bothB (x.1.2.1 ||| r)) = false from fun hc j x hj hx => by
          by_cases e : j = i
          · subst e
            rw [HY.out] at hx
            cases hx
            exact hc
          · exact HNO.out j x (by omega) hx)
        have HYES := Lib.hid (show (inV f l y.1 && bothB (y.1.2.1 ||| r)) = true → clashV (L.map (·.1)) f l r = true from fun hc => by
          unfold clashV
          rw [HRB.out, Bool.false_or]
          exact List.any_eq_true.2 ⟨y.1, List.mem_map.2 ⟨y, List.mem_of_getElem? HY.out, rfl⟩, hc⟩)
        have hor := or_i8 hr hq
        have hcm := or_comm8 ⟨r, hr⟩ ⟨y.1.2.1, hq⟩
        have hb2 := both_i8 (or_lt8 hr hq)
        simp only at hcm
        rw [hcm] at hor hb2
        clear hy hcm hq
        generalize hP : y.1.2.1 ||| r = P at *
        generalize y.1.1 = N at *
        generalize y.1.2.1 = q at *
        clear hP
        by_cases t1 : f ≤ N
        · have d1 : decide ((f : Int) ≤ (N : Int)) = true := decide_eq_true (by omega)
          by_cases t2 : N ≤ l
          · have d2 : decide ((N : Int) ≤ (l : Int)) = true := decide_eq_true (by omega)
            cases hbp : bothB P with
            | true =>
              have HR := Lib.hid (farR_yes (HYES.out (by rw [HIN.out, decide_eq_true t1, decide_eq_true t2, hbp]; rfl)))
              rw [hbp] at hb2
              clear hbp
              go_wp2
              go_ret
              exact ⟨by rw [HR.out]; rfl, rfl⟩
            | false =>
              have HR := Lib.hid (HSTEP.out (by rw [hbp, Bool.and_false]))
              rw [hbp] at hb2
              clear hbp
              go_wp2
              go_round
              case rel => exact ⟨i + 1, by go_num, by omega, HR.out⟩
              case measure => simp [intOf] <;> omega
          · have d2 : decide ((N : Int) ≤ (l : Int)) = false := decide_eq_false (by omega)
            have HR := Lib.hid (HSTEP.out (by rw [HIN.out, decide_eq_false t2]; simp))
            go_wp2
            go_round
            case rel => exact ⟨i + 1, by go_num, by omega, HR.out⟩
            case measure => simp [intOf] <;> omega
        · have d1 : decide ((f : Int) ≤ (N : Int)) = false := decide_eq_false (by omega)
          have HR := Lib.hid (HSTEP.out (by rw [HIN.out, decide_eq_false t1]; simp))
          go_wp2
          go_round
          case rel => exact ⟨i + 1, by go_num, by omega, HR.out⟩
          case measure => simp [intOf] <;> omega
      · have HR := Lib.hid (farR_no (show clashV (L.map (·.1)) f l r = false by
          unfold clashV
          rw [HRB.out, Bool.false_or]
          cases ha : (L.map (·.1)).any fun x => inV f l x && bothB (x.2.1 ||| r) with
          | false => rfl
          | true =>
            obtain ⟨x, hx, hc⟩ := List.any_eq_true.1 ha
            obtain ⟨p, hp, rfl⟩ := List.mem_map.1 hx
            obtain ⟨j, hj⟩ := List.mem_iff_getElem?.1 hp
            have := HNO.out j p (by have := (List.getElem?_eq_some_iff.1 hj).1; have := HM.out; omega) hj
            rw [this] at hc
            cases hc))
        go_wp2
        go_ret
        exact ⟨by rw [HR.out]; rfl, rfl⟩
theorem okV_r {r : Nat} (hr : r = 0 ∨ r = 1 ∨ r = 2 ∨ r = 4) {x : Pg} (hq : x.2.1 < 8) : okV r (some x) = (r == 0 || !(x.2.1 &&& r == 0)) := by
  unfold okV
  exact right_fin ⟨x.2.1, hq⟩ ⟨r, by omega⟩ hr
set_option maxHeartbeats 4000000 in
set_option maxRecDepth 100000 in
theorem refCan_any {base g : Nat} {lv : Value} {L : List (Pg × Value)} (w : World) (h : RefIs w base g lv L) (a n r : Nat) (ha : a < 18446744073709551616) (hn : n ≤ 2000000) (hr : r = 0 ∨ r = 1 ∨ r = 2 ∨ r = 4) (hL : L.length ≤ 1000000) :
    Calls Try.prog 63 #[ptr g, .int .u64 (a : Int), .int .i64 (n : Int), .int .i64 (r : Int)] w fun e w' => e = .returned (.bool (mayV (L.map (·.1)) a n r)) ∧ RefIs w' base g lv L ∧ Stirs (fun k => k = g) w w' := by
  have H := Lib.hid h
  have HIFF := Lib.hid (mayV_iff (L.map (·.1)) a n r)
  by_cases hbad : 0 < n ∧ 18446744073709551616 < a + n
  · have HR := Lib.hid (show mayV (L.map (·.1)) a n r = false by
      cases hmv : mayV (L.map (·.1)) a n r with
      | false => rfl
      | true => rcases HIFF.out.1 hmv with h1 | ⟨h1, -⟩ <;> omega)
    obtain ⟨h0, hov⟩ := hbad
    have d0 : decide ((0 : Int) < (n : Int)) = true := decide_eq_true (by omega)
    have e1 : IntKind.u64.wrap ((n : Int) - 1) = (n : Int) - 1 := by rw [IntKind.wrap_u64]; omega
    have e2 : IntKind.u64.wrap (18446744073709551615 - (a : Int)) = 18446744073709551615 - (a : Int) := by rw [IntKind.wrap_u64]; omega
    have d1 : decide (18446744073709551615 - (a : Int) < (n : Int) - 1) = true := decide_eq_true (by omega)
    clear h hov ha
    go_enter Try.func63, Try.ntmps63
    go_wp2
    go_ret
    exact ⟨by rw [HR.out]; rfl, H.out, Stirs.refl _ _⟩
  · have HIN := Lib.hid (show ∀ i, i < n → a + i < 18446744073709551616 from fun i hi => by omega)
    have HNB := Lib.hid (show n = 0 ∨ a + n ≤ 18446744073709551616 by omega)
    have HQ8 := Lib.hid (fun (x : Pg) (hx : x ∈ L.map (·.1)) => (h.ok.pg x hx).2.1)
    have HRR := Lib.hid hr
    have hr8 : r < 8 := by omega
    have HFD := Lib.hid (fun (wx : World) (k : Nat) (hx : RefIs wx base g lv L) => refFind_any wx hx ((a + k) / 4096) hL)
    have HA := Lib.hid ha
    have hlb : n = 0 ∨ 0 < n := by omega
    have e1 : 0 < n → IntKind.u64.wrap ((n : Int) - 1) = (n : Int) - 1 := fun _ => by rw [IntKind.wrap_u64]; omega
    have e2 : decide (18446744073709551615 - (a : Int) < (n : Int) - 1) = false := decide_eq_false (by omega)
    have e4 : IntKind.u64.wrap (18446744073709551615 - (a : Int)) = 18446744073709551615 - (a : Int) := by rw [IntKind.wrap_u64]; omega
    have HAT : Hid (mayV (L.map (·.1)) a n r = true ↔ ∀ i, i < n → okV r (findV (L.map (·.1)) ((a + i) / 4096)) = true) := Lib.hid ⟨fun hm i hi => by
      rcases HIFF.out.1 hm with h1 | ⟨-, h2⟩
      · omega
      · exact h2 i hi, fun hm => HIFF.out.2 (by rcases HNB.out with h1 | h1; exact .inl h1; exact .inr ⟨h1, hm⟩)⟩
    obtain ⟨lm, la, lc, hlm, rfl, _, _⟩ := h.own.shape
    have HLM := Lib.hid hlm.out
    have hlm9 : lm ≤ 1000000 := by have := hlm.out; omega
    have HRC := Lib.hid (fun wx (hx : RefIs wx base g (.slice la lm lc) L) i x (hi : L[i]? = some x) => pg_cells hx.own.rd hi)
    have HHD := Lib.hid (fun wx (hx : RefIs wx base g (.slice la lm lc) L) => hx.hd)
    clear h ha hbad hr hL hlm HNB HIFF
    have HS0 : Hid (Stirs (fun k => k = g) w w) := Lib.hid (Stirs.refl _ _)
    rcases hlb with hz | hz
    · subst hz
      have HRES := Lib.hid (HAT.out.2 (fun i hi => by omega))
      clear e1 e2 e4
      go_enter Try.func63, Try.ntmps63
      go_wp2
      go_loopw [9] (fun kv wr => kv = .int .i64 0 ∧ wr = w) (fun _ _ => 0)
      case atStart => exact ⟨rfl, rfl⟩
      case round =>
        obtain ⟨rfl, hw⟩ := hrel
        subst hw
        go_wp2
        go_ret
        exact ⟨by rw [HRES.out]; rfl, H.out, HS0.out⟩
    · have d0 : decide ((0 : Int) < (n : Int)) = true := decide_eq_true (by omega)
      have e3 := e1 hz
      clear e1
      go_enter Try.func63, Try.ntmps63
      go_wp2
      clear e2 d0 e4 e3
      go_loopw [9] (fun kv wr => ∃ k : Nat, kv = .int .i64 (k : Int) ∧ k ≤ n ∧ Hid (∀ i, i < k → okV r (findV (L.map (·.1)) ((a + i) / 4096)) = true) ∧ Hid (RefIs wr base g (.slice la lm lc) L) ∧ Hid (Stirs (fun k => k = g) w wr)) (fun kv _ => n - (intOf kv).toNat)
      case atStart => exact ⟨0, rfl, Nat.zero_le _, (fun i h => by omega), H.out, HS0.out⟩
      case round =>
        obtain ⟨k, rfl, hk, HALL, HR, HS⟩ := hrel
        by_cases hlt : k < n
        · have HNX := Lib.hid (show okV r (findV (L.map (·.1)) ((a + k) / 4096)) = true → ∀ i, i < k + 1 → okV r (findV (L.map (·.1)) ((a + i) / 4096)) = true from fun ho i hi => by
            by_cases e : i = k
            · rw [e]; exact ho
            · exact HALL.out i (by omega))
          have hcv : IntKind.u64.wrap (k : Int) = (k : Int) := by rw [IntKind.wrap_u64]; omega
          have hsm : IntKind.u64.wrap ((a : Int) + (k : Int)) = (a : Int) + (k : Int) := by have := HIN.out k hlt; rw [IntKind.wrap_u64]; omega
          by_cases hsk : 0 < k ∧ (a + k) % 4096 ≠ 0
          · obtain ⟨hs1, hs2⟩ := hsk
            have d1 : decide ((0 : Int) < (k : Int)) = true := decide_eq_true (by omega)
            have d1n : decide (0 < k) = true := decide_eq_true (by omega)
            have d2 : (((a : Int) + (k : Int)).tmod 4096 != 0) = true := by rw [bne_iff_ne, Int.tmod_eq_emod_of_nonneg (by omega)]; omega
            have d3 : (((a : Int) + (k : Int)) % 4096 != 0) = true := by rw [bne_iff_ne]; omega
            have HST := Lib.hid (HNX.out (by
              have e : (a + k) / 4096 = (a + (k - 1)) / 4096 := by omega
              rw [e]
              exact HALL.out (k - 1) (by omega)))
            clear hs2
            go_wp2
            go_roundw
            case rel => exact ⟨k + 1, by go_num, by omega, HST.out, HR.out, HS.out⟩
            case measure => simp [intOf] <;> omega
          · have d12 : (k = 0 ∧ True) ∨ (0 < k ∧ (a + k) % 4096 = 0) := by
              rcases Nat.eq_zero_or_pos k with h0 | h0
              · exact .inl ⟨h0, trivial⟩
              · exact .inr ⟨h0, by omega⟩
            have HFN := HFD.out wr k HR.out
            have hq2 : ((a : Int) + (k : Int)) / 4096 = (((a + k) / 4096 : Nat) : Int) := by omega
            have hq : IntKind.u64.wrap (((a : Int) + (k : Int)).tdiv 4096) = (((a + k) / 4096 : Nat) : Int) := by rw [Int.tdiv_eq_ediv_of_nonneg (by omega), IntKind.wrap_u64]; have := HIN.out k hlt; omega
            generalize hQ : (a + k) / 4096 = Q at *
            have HQ := Lib.hid hQ.symm
            clear hQ
            clear hsk
            have HCV := Lib.hid hcv
            rcases d12 with ⟨hk0, -⟩ | ⟨hk0, hk1⟩
            case' inl =>
              have d1 : decide ((0 : Int) < (k : Int)) = false := decide_eq_false (by omega)
              have d1n : decide (0 < k) = false := decide_eq_false (by omega)
              clear hk0
            case' inr =>
              have d1 : decide ((0 : Int) < (k : Int)) = true := decide_eq_true (by omega)
              have d1n : decide (0 < k) = true := decide_eq_true (by omega)
              have d2 : (((a : Int) + (k : Int)).tmod 4096 != 0) = false := by rw [bne_eq_false_iff_eq, Int.tmod_eq_emod_of_nonneg (by omega)]; omega
              have d3 : (((a : Int) + (k : Int)) % 4096 != 0) = false := by rw [bne_eq_false_iff_eq]; omega
              clear hk0 hk1
            all_goals
              go_wp2_with fail
              refine HFN.mono ?_
              rintro e w1 ⟨⟨z, rfl, hz1⟩, hr1, hs1⟩
              have HR1 := Lib.hid hr1
              have HS1 := Lib.hid (HS.out.trans hs1 (fun _ _ h => h))
              clear hr1 hs1 hq hq2 HFN
              rcases hz1 with ⟨rfl, hn1⟩ | ⟨i, x, rfl, hx, hf1⟩
              · have HRES := Lib.hid (show mayV (L.map (·.1)) a n r = false by
                  cases hmv : mayV (L.map (·.1)) a n r with
                  | false => rfl
                  | true =>
                    have := HAT.out.1 hmv k hlt
                    rw [← HQ.out, hn1] at this
                    cases this)
                go_wp2
                go_ret
                exact ⟨by rw [HRES.out]; rfl, HR1.out, HS1.out⟩
              · have hq8 := HQ8.out x.1 (List.mem_map.2 ⟨x, List.mem_of_getElem? hx, rfl⟩)
                have HOK := Lib.hid (okV_r HRR.out hq8)
                obtain ⟨b, o, hla, -, v1, -⟩ := HRC.out w1 HR1.out i x hx
                obtain ⟨last, hg1⟩ := HHD.out w1 HR1.out
                have c0 := cell_rec hg1 0
                simp only [List.getElem?_toArray, List.getElem?_cons_zero] at c0
                have hil : i < lm := by rw [HLM.out]; exact (List.getElem?_eq_some_iff.1 hx).1
                have hand := and_i8 hq8 hr8
                have HNO := Lib.hid (show okV r (some x.1) = false → mayV (L.map (·.1)) a n r = false from fun ho => by
                  cases hmv : mayV (L.map (·.1)) a n r with
                  | false => rfl
                  | true =>
                    have := HAT.out.1 hmv k hlt
                    rw [← HQ.out, hf1, ho] at this
                    cases this)
                have HYS := Lib.hid (show okV r (some x.1) = true → ∀ i, i < k + 1 → okV r (findV (L.map (·.1)) ((a + i) / 4096)) = true from fun ho => HNX.out (by rw [hf1]; exact ho))
                subst hla
                clear hg1 hx hf1 hq8
                cases hok : okV r (some x.1)
                all_goals
                  have HO2 := HOK.out
                  rw [hok] at HO2
                  generalize x.1.2.1 &&& r = P at *
                  rcases Nat.eq_zero_or_pos r with hr0 | hr0
                  · first
                      | (exfalso; rw [hr0] at HO2; simp at HO2; done)
                      | (have d5 : decide ((0 : Int) < (r : Int)) = false := decide_eq_false (by omega)
                         have d5n : decide (0 < r) = false := decide_eq_false (by omega)
                         have HST := Lib.hid (HYS.out hok)
                         clear hr0 HO2 hok
                         go_wp2
                         go_roundw
                         case rel => exact ⟨k + 1, by go_num, by omega, HST.out, HR1.out, HS1.out⟩
                         case measure => simp [intOf] <;> omega)
                  · have d5 : decide ((0 : Int) < (r : Int)) = true := decide_eq_true (by omega)
                    have d5n : decide (0 < r) = true := decide_eq_true (by omega)
                    first
                      | (have d6 : ((P : Int) == 0) = false := by
                           have h9 : (r == 0) = false := by simp; omega
                           rw [h9] at HO2
                           simp at HO2
                           simp
                           omega
                         have HST := Lib.hid (HYS.out hok)
                         clear hr0 HO2 hok
                         go_wp2
                         go_roundw
                         case rel => exact ⟨k + 1, by go_num, by omega, HST.out, HR1.out, HS1.out⟩
                         case measure => simp [intOf] <;> omega)
                      | (have d6 : ((P : Int) == 0) = true := by
                           have h9 : (r == 0) = false := by simp; omega
                           rw [h9] at HO2
                           simp at HO2
                           simp
                           omega
                         have HRES := Lib.hid (HNO.out hok)
                         clear hr0 HO2 hok
                         go_wp2
                         go_ret
                         exact ⟨by rw [HRES.out]; rfl, HR1.out, HS1.out⟩)
        · obtain rfl : k = n := by omega
          have HRES := Lib.hid (HAT.out.2 HALL.out)
          go_wp2
          go_ret
          exact ⟨by rw [HRES.out]; rfl, HR.out, HS.out⟩
end Go.Proofs.Ytmpelmjhimalpaa
namespace Go.Proofs.Ytmpelmjhimalpaa
open Go.RowKit Go.Fd
theorem flat_same {α β : Type} {enc : α → List β} (l : List α) : ∀ (i : Nat) (x y : α), l[i]? = some x → enc y = enc x → (l.set i y).flatMap enc = l.flatMap enc := by
  induction l with
  | nil => intro i x y h; simp at h
  | cons z zs ih =>
    intro i x y h he
    cases i with
    | zero => simp at h; subst h; rw [List.set_cons_zero, List.flatMap_cons, List.flatMap_cons, he]
    | succ i => rw [List.set_cons_succ, List.flatMap_cons, List.flatMap_cons, ih i x y (by simpa using h) he]
theorem set_get {α : Type} {l : List α} {i j : Nat} {y p : α} (h : (l.set i y)[j]? = some p) : (j = i ∧ p = y) ∨ (j ≠ i ∧ l[j]? = some p) := by
  by_cases e : j = i
  · subst e
    rw [List.getElem?_set_self'] at h
    cases hl : l[j]? with
    | none => rw [hl] at h; cases h
    | some z => rw [hl] at h; simp at h; exact .inl ⟨rfl, h.symm⟩
  · rw [List.getElem?_set_ne (Ne.symm e)] at h
    exact .inr ⟨e, h⟩
section
variable {w w' : World} {base g : Nat} {lv : Value} {L : List (Pg × Value)}
/-- Blocks of two pages. -/
theorem RefIs.ne (h : RefIs w base g lv L) {i j : Nat} {p q : Pg × Value} (hi : L[i]? = some p) (hj : L[j]? = some q) (hij : i ≠ j) : ∀ k, p.2.ownBlock = some k → q.2.ownBlock ≠ some k := by
  intro k hk hk2
  rcases Nat.lt_or_gt_of_ne hij with h1 | h1
  · exact h.apart i j p q h1 hi hj k hk hk2
  · exact h.apart j i q p h1 hj hi k hk2 hk
theorem okV_set {V : Vw} {i : Nat} {x : Pg} {c : List UInt8} {r : Nat} (h : OkV V) (hi : V[i]? = some x) (hr : r < 8) (hc : c.length = 4096) : OkV (V.set i (x.1, r, c)) := by
  refine ⟨?_, fun y hy => ?_⟩
  · have e : (V.set i (x.1, r, c)).map (·.1) = V.map (·.1) := by
      rw [List.map_set]
      apply List.ext_getElem?
      intro j
      by_cases e : j = i
      · subst e
        rw [List.getElem?_set_self', List.getElem?_map, hi]
        rfl
      · rw [List.getElem?_set_ne (Ne.symm e)]
    rw [e]
    exact h.nd
  · obtain ⟨j, hj⟩ := List.mem_iff_getElem?.1 hy
    rcases set_get hj with ⟨-, rfl⟩ | ⟨-, h2⟩
    · exact ⟨(h.pg x (List.mem_of_getElem? hi)).1, hr, hc⟩
    · exact h.pg y (List.mem_of_getElem? h2)
/-- A page's bytes are others. -/
theorem RefIs.put (h : RefIs w base g lv L) {i pb : Nat} {x : Pg} {bv : Value} {c : List UInt8} (hi : L[i]? = some (x, bv)) (hb : bv.ownBlock = some pb) (hs : Stirs (fun k => k = pb) w w') (ho : OB w' base bv c) (hc : c.length = 4096) : RefIs w' base g lv (L.set i ((x.1, x.2.1, c), bv)) := by
  obtain ⟨last, h1⟩ := h.hd
  have hbg := ows_ne (h.pages (x, bv) (List.mem_of_getElem? hi)) h1 (by decide) pb hb
  have hbl : lv.ownBlock ≠ some pb := fun hk => own_apart (h.pages (x, bv) (List.mem_of_getElem? hi)) h.own (by decide) hb hk
  refine ⟨⟨last, hs.kept h1 (fun e => hbg e.symm)⟩, h.lo, ?_, ?_, ?_, ?_⟩
  · have h2 := owns_stirs h.own hs (fun k hk e => hbl (by rw [hk, e]))
    unfold OwR
    rw [flat_same L i (x, bv) ((x.1, x.2.1, c), bv) hi rfl, List.length_set]
    exact h2
  · intro p hp
    obtain ⟨j, hj⟩ := List.mem_iff_getElem?.1 hp
    rcases set_get hj with ⟨-, rfl⟩ | ⟨hne, h2⟩
    · exact ho
    · exact owns_stirs (h.pages p (List.mem_of_getElem? h2)) hs (fun k hk e => h.ne hi h2 (fun e => hne e.symm) pb hb (by rw [hk, e]))
  · intro a b p q hab ha hbq k hk
    have key : ∀ (j : Nat) (y : Pg × Value), (L.set i ((x.1, x.2.1, c), bv))[j]? = some y → ∃ z : Pg × Value, L[j]? = some z ∧ z.2 = y.2 := fun j y hy => by
      rcases set_get hy with ⟨rfl, rfl⟩ | ⟨-, h2⟩
      · exact ⟨_, hi, rfl⟩
      · exact ⟨_, h2, rfl⟩
    obtain ⟨p', hp', e1⟩ := key a p ha
    obtain ⟨q', hq', e2⟩ := key b q hbq
    rw [← e1] at hk
    rw [← e2]
    exact h.apart a b p' q' hab hp' hq' k hk
  · rw [List.map_set]
    exact okV_set h.ok (by rw [List.getElem?_map, hi]; rfl) (h.ok.pg x (List.mem_map.2 ⟨(x, bv), List.mem_of_getElem? hi, rfl⟩)).2.1 hc
theorem findRes_at (h : RefIs w base g lv L) {i n : Nat} {p : Pg × Value} (hi : L[i]? = some p) (hn : p.1.1 = n) {z : Int} (hz : FindRes L n z) : z = (i : Int) := by
  have hf : findV (L.map (·.1)) n = some p.1 := findV_at h.ok.nd (by rw [List.getElem?_map, hi]; rfl) hn
  rcases hz with ⟨-, h1⟩ | ⟨j, q, rfl, hj, h1⟩
  · rw [hf] at h1; simp at h1
  · have h2 : some p.1 = some q.1 := hf.symm.trans h1
    have h3 : p.1 = q.1 := Option.some.inj h2
    have e : i = j := by
      have n1 : ((L.map (·.1)).map (·.1))[i]? = some p.1.1 := by rw [List.getElem?_map, List.getElem?_map, hi]; rfl
      have n2 : ((L.map (·.1)).map (·.1))[j]? = some p.1.1 := by
        rw [List.getElem?_map, List.getElem?_map, hj, h3]
        rfl
      exact (List.getElem?_inj (List.getElem?_eq_some_iff.1 n1).1 h.ok.nd).1 (n1.trans n2.symm)
    rw [e]
end
theorem setBV_at {V : Vw} {i a : Nat} {x : Pg} (hn : (V.map (·.1)).Nodup) (hi : V[i]? = some x) (hx : x.1 = a / 4096) (c : UInt8) : V.set i (x.1, x.2.1, x.2.2.set (a % 4096) c) = setBV V a c := by
  unfold setBV
  apply List.ext_getElem?
  intro j
  rw [List.getElem?_map]
  by_cases e : j = i
  · subst e
    rw [List.getElem?_set_self (List.getElem?_eq_some_iff.1 hi).1, hi]
    dsimp only [Option.map]
    rw [if_pos hx]
  · rw [List.getElem?_set_ne (Ne.symm e)]
    cases hj : V[j]? with
    | none => rfl
    | some y =>
      dsimp only [Option.map]
      rw [if_neg]
      intro hy
      have n1 : (V.map (·.1))[i]? = some x.1 := by rw [List.getElem?_map, hi]; rfl
      have n2 : (V.map (·.1))[j]? = some x.1 := by rw [List.getElem?_map, hj, hx, ← hy]; rfl
      exact e ((List.getElem?_inj (List.getElem?_eq_some_iff.1 n2).1 hn).1 (n2.trans n1.symm))
theorem walkT_check {P : Program} {F : Ph} {L r : List Oper} {M : List (Nat × YldT F)} {a : Act} {E : Act → Prop} {i : Nat} {d : Option Tmp} {ty : TypeId} {pos : String} {aft : Array Edge} {gd : Option (Nat × Bool)} {x : Operand} {p : Addr} (hw : Region.wanted ⟨d, .nilCheck x, ty, pos, aft, gd⟩ (yielded L.toArray a.tmps) = true) (hM : madeT M i = none) (hc : F.C.contains i = false) (hp : a.eval x = .pointer (some p)) (hn : walkT P F L M E (i + 1) r (a.put d (.pointer (some p)))) : walkT P F L M E i (⟨d, .nilCheck x, ty, pos, aft, gd⟩ :: r) a :=
  walkT_val hw hM (by intro hm; rw [List.contains_iff_mem.2 hm] at hc; cases hc) (fun _ w _ _ => by simp only [execOp, hp]; rfl) hn
theorem wpList_storeBS {ops : Array Oper} {rest : List Oper} {Q : Exit → Act → World → Prop} {a : Act} {w : World} {d : Option Tmp} {ty : TypeId} {pos : String} {aft : Array Edge} {p x : Operand} {g j m cap base : Nat} {l : List UInt8} (ho : OB w base (.slice (some ⟨g, 0, none⟩) m cap) l) (hp : a.eval p = .pointer (some ⟨g, j, none⟩)) {z : Int} (hx : a.eval x = .int .u8 z) (c : UInt8) (hz : z = c.toNat) (hj : j < l.length)
    (h : ∀ w1, OB w1 base (.slice (some ⟨g, 0, none⟩) m cap) (l.set j c) → Stirs (fun k => k = g) w w1 → wpList Try.prog ops Q rest (a.put d undef) w1) :
    wpList Try.prog ops Q (⟨d, .store 5 p x, ty, pos, aft, none⟩ :: rest) a w := by
  subst hz
  obtain ⟨g', cap', e1, hbg, hgw, _, hcell, hfz⟩ := ho.open (by omega)
  simp only [Value.slice.injEq, Option.some.injEq, Addr.mk.injEq, and_true] at e1
  obtain ⟨rfl, rfl, rfl⟩ := e1
  have hc := hcell j hj
  have hfz := hfz j
  refine wpList_did (w' := w.setCell ⟨g, j, none⟩ (.int .u8 (c.toNat : Int))) rfl ?_ (h _ (ho.stored j c) (stirs_setCell (S := fun k => k = g) _ g j _ rfl))
  simp only [execOp, hp, hx]
  simp [go_sem, hc, hfz]
attribute [local irreducible] walkT
set_option maxHeartbeats 4000000 in
set_option maxRecDepth 100000 in
theorem refGet_any {base g : Nat} {lv : Value} {L : List (Pg × Value)} (w : World) (h : RefIs w base g lv L) (a i : Nat) (x : Pg) (bv : Value) (hi : L[i]? = some (x, bv)) (hx : x.1 = a / 4096) (ha : a < 18446744073709551616) (hL : L.length ≤ 1000000) :
    Calls Try.prog 76 #[ptr g, .int .u64 (a : Int)] w fun e w' => e = .returned (.int .u8 ((x.2.2[a % 4096]?.getD 0).toNat : Int)) ∧ RefIs w' base g lv L ∧ Stirs (fun k => k = g) w w' := by
  have H := Lib.hid h
  have hq1 : (a : Int) / 4096 = ((a / 4096 : Nat) : Int) := by omega
  have hq2 : IntKind.u64.wrap ((a : Int).tdiv 4096) = ((a / 4096 : Nat) : Int) := by rw [Int.tdiv_eq_ediv_of_nonneg (by omega), IntKind.wrap_u64]; omega
  have hr1 : (a : Int) % 4096 = ((a % 4096 : Nat) : Int) := by omega
  have hr2 : (a : Int).tmod 4096 = ((a % 4096 : Nat) : Int) := by rw [Int.tmod_eq_emod_of_nonneg (by omega)]; omega
  have hr9 : a % 4096 < 4096 := Nat.mod_lt _ (by decide)
  have hq3 : IntKind.u64.wrap ((a / 4096 : Nat) : Int) = ((a / 4096 : Nat) : Int) := by rw [IntKind.wrap_u64]; omega
  have hr3 : IntKind.u64.wrap ((a % 4096 : Nat) : Int) = ((a % 4096 : Nat) : Int) := by rw [IntKind.wrap_u64]; omega
  have HX := Lib.hid hx
  generalize a / 4096 = Q at *
  generalize a % 4096 = R at *
  have HFD : Hid (∀ wx : World, RefIs wx base g lv L → Calls Try.prog 62 #[ptr g, .int .u64 (Q : Int)] wx fun e w' => e = .returned (.int .i64 (i : Int)) ∧ RefIs w' base g lv L ∧ Stirs (fun k => k = g) wx w') := Lib.hid (fun wx hw => (refFind_any wx hw Q hL).mono (by
    rintro e w' ⟨⟨z, h1, h2⟩, h3, h4⟩
    exact ⟨by rw [h1, findRes_at hw hi HX.out h2], h3, h4⟩))
  obtain ⟨lm, la, lc, hlm, rfl, _, _⟩ := h.own.shape
  have hil : i < lm := by rw [hlm.out]; exact (List.getElem?_eq_some_iff.1 hi).1
  obtain ⟨b, o, rfl, -, -, v2⟩ := pg_cells h.own.rd hi
  have hpg := h.pages (x, bv) (List.mem_of_getElem? hi)
  have hxl := (h.ok.pg x (List.mem_map.2 ⟨(x, bv), List.mem_of_getElem? hi, rfl⟩)).2.2
  obtain ⟨pb, pc, e1, hpb0, hpb1, hpc, hcell, hfz⟩ := hpg.open (by rw [hxl]; decide)
  rw [hxl] at e1
  have e1 : bv = .slice (some ⟨pb, 0, none⟩) 4096 pc := e1
  subst e1
  have hc0 := hcell R (by rw [hxl]; exact hr9)
  obtain ⟨last, hg⟩ := h.hd
  have c0 := cell_rec hg 0
  simp only [List.getElem?_toArray, List.getElem?_cons_zero] at c0
  have hbg : b ≠ g := ows_ne h.own hg (by decide) b rfl
  have hpg2 : pb ≠ g := ows_ne hpg hg (by decide) pb rfl
  generalize hV : ((x.2.2[R]?.getD 0).toNat : Int) = cv at *
  let F : Ph := ⟨fun _ wx => RefIs wx base g (.slice (some ⟨b, o, none⟩) lm lc) L ∧ Stirs (fun k => k = g) w wx, Stirs (fun k => k = g), [7], fun _ _ => False⟩
  have HF : Hid F.Ok := Lib.hid ⟨fun t wx wy h hb => ⟨h.1.mono hb, h.2.thenBelow hb⟩, fun wx wy hb => Stirs.of_below hb⟩
  have hne : Nonempty (In F) := ⟨⟨w, 0, H.out, Stirs.refl _ _⟩⟩
  have k0 : ∀ (y : In F), y.w.cell? ⟨g, 0, none⟩ = some (.slice (some ⟨b, o, none⟩) lm lc) := fun y => by
    obtain ⟨l2, hg2⟩ := y.h.1.hd
    exact cell_rec hg2 0
  have k1 : ∀ (y : In F), y.w.cell? ⟨b, o + i * 3 + 2, none⟩ = some (.slice (some ⟨pb, 0, none⟩) 4096 pc) := fun y => (World.cell?_of_block (y.h.2.block b (block_lt v2) hbg)).trans v2
  have k2 : ∀ (y : In F), y.w.cell? ⟨pb, R, none⟩ = some (.int .u8 cv) := fun y => (World.cell?_of_block (y.h.2.block pb hpb1 hpg2)).trans hc0
  have HC := Lib.hid (show ∀ (tz : Nat) (wz : World), F.I tz wz → Calls Try.prog 62 #[ptr g, .int .u64 (Q : Int)] wz fun r w' => (∃ v, r = .returned v ∧ (YldT.is F (.int .i64 (i : Int))).R v w' ∧ F.T wz w' ∧ F.I (nxI [7] 7 tz) w') ∨ (∃ c, r = .panicked c ∧ F.Up (.panic c) w') from fun tz wz hz => (HFD.out wz hz.1).mono fun r w' ⟨h1, h2, h3⟩ => .inl ⟨_, h1, YldT.is_mk, h3, h2, hz.2.trans h3 fun _ _ h => h⟩)
  clear hi hx ha hL hlm hpg hxl hcell hfz hg h HFD hpb0 hpb1 hbg hpg2
  go_enter Try.func76, Try.ntmps76
  go_wp2
  refine wp_region_walkT F HF.out 16 [(7, .is F (.int .i64 (i : Int)))] (by kernel_rfl) (by kernel_rfl) (by kernel_rfl) ⟨H.out, Stirs.refl _ _⟩ (fun _ _ _ h => h.elim) ?_
  simp only [List.take_succ_cons, List.take_zero, List.drop_succ_cons, List.drop_zero]
  try go_frame
  iterate 1 (refine walkT_quiet rfl rfl rfl rfl ?_; intro K hK; go_big_quiet_op; go_big_quiet_on)
  refine walkT_check (by kernel_rfl) rfl rfl rfl ?_
  go_frame
  iterate 5 (refine walkT_quiet rfl rfl rfl rfl ?_; intro K hK; go_big_quiet_op; go_big_quiet_on)
  refine walkT_is rfl rfl (fun tz wz hph hz _ => WpT.call (run_callL (vals := [_, _]) Try.func62 (by kernel_rfl) rfl rfl) (HC.out tz wz hz)) ?_
  go_frame
  iterate 8 (refine walkT_quiet rfl rfl rfl rfl ?_; intro K hK; go_big_quiet_op; go_big_quiet_on)
  refine walkT_nil ?_
  intro wz hiz hFz
  have HIZ := Lib.hid hiz
  clear hiz hFz k0 k1 k2 HC
  go_wp2
  go_ret
  exact ⟨rfl, HIZ.out.1, HIZ.out.2⟩
set_option maxHeartbeats 4000000 in
set_option maxRecDepth 100000 in
theorem refPut_any {base g : Nat} {lv : Value} {L : List (Pg × Value)} (w : World) (h : RefIs w base g lv L) (a i : Nat) (c : UInt8) (x : Pg) (bv : Value) (hi : L[i]? = some (x, bv)) (hx : x.1 = a / 4096) (ha : a < 18446744073709551616) (hL : L.length ≤ 1000000) :
    Calls Try.prog 64 #[ptr g, .int .u64 (a : Int), .int .u8 (c.toNat : Int)] w fun e w' => e = .returned (.tuple #[]) ∧ RefIs w' base g lv (L.set i ((x.1, x.2.1, x.2.2.set (a % 4096) c), bv)) ∧ Stirs (fun k => k = g ∨ bv.ownBlock = some k) w w' := by
  have H := Lib.hid h
  have hq1 : (a : Int) / 4096 = ((a / 4096 : Nat) : Int) := by omega
  have hq2 : IntKind.u64.wrap ((a : Int).tdiv 4096) = ((a / 4096 : Nat) : Int) := by rw [Int.tdiv_eq_ediv_of_nonneg (by omega), IntKind.wrap_u64]; omega
  have hr1 : (a : Int) % 4096 = ((a % 4096 : Nat) : Int) := by omega
  have hr2 : (a : Int).tmod 4096 = ((a % 4096 : Nat) : Int) := by rw [Int.tmod_eq_emod_of_nonneg (by omega)]; omega
  have hr9 : a % 4096 < 4096 := Nat.mod_lt _ (by decide)
  have hq3 : IntKind.u64.wrap ((a / 4096 : Nat) : Int) = ((a / 4096 : Nat) : Int) := by rw [IntKind.wrap_u64]; omega
  have hr3 : IntKind.u64.wrap ((a % 4096 : Nat) : Int) = ((a % 4096 : Nat) : Int) := by rw [IntKind.wrap_u64]; omega
  have HX := Lib.hid hx
  generalize a / 4096 = Q at *
  generalize a % 4096 = R at *
  have HFD : Hid (∀ wx : World, RefIs wx base g lv L → Calls Try.prog 62 #[ptr g, .int .u64 (Q : Int)] wx fun e w' => e = .returned (.int .i64 (i : Int)) ∧ RefIs w' base g lv L ∧ Stirs (fun k => k = g) wx w') := Lib.hid (fun wx hw => (refFind_any wx hw Q hL).mono (by
    rintro e w' ⟨⟨z, h1, h2⟩, h3, h4⟩
    exact ⟨by rw [h1, findRes_at hw hi HX.out h2], h3, h4⟩))
  obtain ⟨lm, la, lc, hlm, rfl, _, _⟩ := h.own.shape
  have hil : i < lm := by rw [hlm.out]; exact (List.getElem?_eq_some_iff.1 hi).1
  obtain ⟨b, o, rfl, -, -, v2⟩ := pg_cells h.own.rd hi
  have hpg := h.pages (x, bv) (List.mem_of_getElem? hi)
  have hxl := (h.ok.pg x (List.mem_map.2 ⟨(x, bv), List.mem_of_getElem? hi, rfl⟩)).2.2
  obtain ⟨pb, pc, e1, hpb0, hpb1, hpc, hcell, hfz⟩ := hpg.open (by rw [hxl]; decide)
  rw [hxl] at e1
  have e1 : bv = .slice (some ⟨pb, 0, none⟩) 4096 pc := e1
  subst e1
  have hc0 := hcell R (by rw [hxl]; exact hr9)
  obtain ⟨last, hg⟩ := h.hd
  have c0 := cell_rec hg 0
  simp only [List.getElem?_toArray, List.getElem?_cons_zero] at c0
  have hbg : b ≠ g := ows_ne h.own hg (by decide) b rfl
  have hpg2 : pb ≠ g := ows_ne hpg hg (by decide) pb rfl
  have HI := Lib.hid hi
  have HXL := Lib.hid hxl
  have HR9 := Lib.hid hr9
  let F : Ph := ⟨fun _ wx => RefIs wx base g (.slice (some ⟨b, o, none⟩) lm lc) L ∧ Stirs (fun k => k = g) w wx, Stirs (fun k => k = g), [7], fun _ _ => False⟩
  have HF : Hid F.Ok := Lib.hid ⟨fun t wx wy h hb => ⟨h.1.mono hb, h.2.thenBelow hb⟩, fun wx wy hb => Stirs.of_below hb⟩
  have hne : Nonempty (In F) := ⟨⟨w, 0, H.out, Stirs.refl _ _⟩⟩
  have k0 : ∀ (y : In F), y.w.cell? ⟨g, 0, none⟩ = some (.slice (some ⟨b, o, none⟩) lm lc) := fun y => by
    obtain ⟨l2, hg2⟩ := y.h.1.hd
    exact cell_rec hg2 0
  have k1 : ∀ (y : In F), y.w.cell? ⟨b, o + i * 3 + 2, none⟩ = some (.slice (some ⟨pb, 0, none⟩) 4096 pc) := fun y => (World.cell?_of_block (y.h.2.block b (block_lt v2) hbg)).trans v2
  have HC := Lib.hid (show ∀ (tz : Nat) (wz : World), F.I tz wz → Calls Try.prog 62 #[ptr g, .int .u64 (Q : Int)] wz fun r w' => (∃ v, r = .returned v ∧ (YldT.is F (.int .i64 (i : Int))).R v w' ∧ F.T wz w' ∧ F.I (nxI [7] 7 tz) w') ∨ (∃ c, r = .panicked c ∧ F.Up (.panic c) w') from fun tz wz hz => (HFD.out wz hz.1).mono fun r w' ⟨h1, h2, h3⟩ => .inl ⟨_, h1, YldT.is_mk, h3, h2, hz.2.trans h3 fun _ _ h => h⟩)
  clear hi hx ha hL hlm hpg hxl hcell hfz hg h HFD hpb0 hpb1 hbg hpg2 hc0
  go_enter Try.func64, Try.ntmps64
  go_wp2
  refine wp_region_walkT F HF.out 15 [(7, .is F (.int .i64 (i : Int)))] (by kernel_rfl) (by kernel_rfl) (by kernel_rfl) ⟨H.out, Stirs.refl _ _⟩ (fun _ _ _ h => h.elim) ?_
  simp only [List.take_succ_cons, List.take_zero, List.drop_succ_cons, List.drop_zero]
  try go_frame
  iterate 1 (refine walkT_quiet rfl rfl rfl rfl ?_; intro K hK; go_big_quiet_op; go_big_quiet_on)
  refine walkT_check (by kernel_rfl) rfl rfl rfl ?_
  go_frame
  iterate 5 (refine walkT_quiet rfl rfl rfl rfl ?_; intro K hK; go_big_quiet_op; go_big_quiet_on)
  refine walkT_is rfl rfl (fun tz wz hph hz _ => WpT.call (run_callL (vals := [_, _]) Try.func62 (by kernel_rfl) rfl rfl) (HC.out tz wz hz)) ?_
  go_frame
  iterate 7 (refine walkT_quiet rfl rfl rfl rfl ?_; intro K hK; go_big_quiet_op; go_big_quiet_on)
  refine walkT_nil ?_
  intro wz hiz hFz
  have HIZ := Lib.hid hiz
  clear hiz hFz k0 k1 HC
  have HOB := Lib.hid (HIZ.out.1.pages _ (List.mem_of_getElem? HI.out))
  refine wpList_storeBS HOB.out rfl rfl c rfl (by rw [HXL.out]; exact HR9.out) ?_
  intro w1 ho1 hs1
  have HR1 := Lib.hid (HIZ.out.1.put HI.out rfl hs1 ho1 (by rw [List.length_set]; exact HXL.out))
  have HS1 := Lib.hid (show Stirs (fun k => k = g ∨ (Value.slice (some ⟨pb, 0, none⟩) 4096 pc).ownBlock = some k) w w1 from (((Stirs.refl _ w).trans HIZ.out.2 (fun k _ h => .inl h) : Stirs (fun k => k = g ∨ (Value.slice (some ⟨pb, 0, none⟩) 4096 pc).ownBlock = some k) w wz)).trans hs1 (fun k _ h => .inr (by rw [h]; rfl)))
  clear ho1 hs1
  go_wp2
  go_end0
  exact ⟨rfl, HR1.out, HS1.out⟩
end Go.Proofs.Ytmpelmjhimalpaa
namespace Go.Proofs.Ytmpelmjhimalpaa
open Go.RowKit Go.Fd
/-- The reference's memory at block g, in blocks G. -/
def RefMem (w : World) (base g : Nat) (G : Nat → Prop) (V : Vw) : Prop := ∃ lv L, RefIs w base g lv L ∧ L.map (·.1) = V ∧ (∀ k, rfoot g lv L k → G k)
section
variable {w w' : World} {base g : Nat} {G : Nat → Prop} {V : Vw}
theorem RefMem.stirs {S : Nat → Prop} (h : RefMem w base g G V) (ht : Stirs S w w') (hs : ∀ k, G k → ¬ S k) : RefMem w' base g G V := by
  obtain ⟨lv, L, h1, h2, h3⟩ := h
  exact ⟨lv, L, h1.stirs ht fun k hk => hs k (h3 k hk), h2, h3⟩
theorem RefMem.mono (h : RefMem w base g G V) (hb : Below w.heap.size w w') : RefMem w' base g G V := by
  obtain ⟨lv, L, h1, h2, h3⟩ := h
  exact ⟨lv, L, h1.mono hb, h2, h3⟩
theorem RefMem.weak {G' : Nat → Prop} (h : RefMem w base g G V) (hf : ∀ k, base ≤ k → k < w.heap.size → G k → G' k) : RefMem w base g G' V := by
  obtain ⟨lv, L, h1, h2, h3⟩ := h
  exact ⟨lv, L, h1, h2, fun k hk => hf k (h1.foot k hk).1 (h1.foot k hk).2 (h3 k hk)⟩
theorem RefMem.ok (h : RefMem w base g G V) : OkV V := by
  obtain ⟨lv, L, h1, rfl, h3⟩ := h
  exact h1.ok
theorem isSome_at {L : List (Pg × Value)} {n : Nat} (h : (findV (L.map (·.1)) n).isSome = true) : ∃ (i : Nat) (x : Pg) (bv : Value), L[i]? = some (x, bv) ∧ x.1 = n ∧ findV (L.map (·.1)) n = some x := by
  obtain ⟨x, hx⟩ := Option.isSome_iff_exists.1 h
  unfold findV at hx
  have hm := List.mem_of_find?_eq_some hx
  have he := List.find?_some hx
  obtain ⟨p, hp, rfl⟩ := List.mem_map.1 hm
  obtain ⟨i, hi⟩ := List.mem_iff_getElem?.1 hp
  exact ⟨i, p.1, p.2, hi, by simpa using he, hx⟩
theorem get_ref (h : RefMem w base g G V) (a : Nat) (ha : a < 18446744073709551616) (he : (findV V (a / 4096)).isSome = true) (hL : V.length ≤ 1000000) :
    Calls Try.prog 76 #[ptr g, .int .u64 (a : Int)] w fun e w' => e = .returned (.int .u8 ((getV V a).toNat : Int)) ∧ RefMem w' base g G V ∧ Stirs G w w' := by
  obtain ⟨lv, L, h1, rfl, h3⟩ := h
  obtain ⟨i, x, bv, hi, hx, hf⟩ := isSome_at he
  refine (refGet_any w h1 a i x bv hi hx ha (by simpa using hL)).mono ?_
  rintro e w1 ⟨e1, e2, e3⟩
  refine ⟨?_, ⟨lv, L, e2, rfl, h3⟩, e3.sub fun k _ hk => h3 k (.inl hk)⟩
  rw [e1]
  unfold getV
  rw [hf]
theorem put_ref (h : RefMem w base g G V) (a : Nat) (c : UInt8) (ha : a < 18446744073709551616) (he : (findV V (a / 4096)).isSome = true) (hL : V.length ≤ 1000000) :
    Calls Try.prog 64 #[ptr g, .int .u64 (a : Int), .int .u8 (c.toNat : Int)] w fun e w' => e = .returned (.tuple #[]) ∧ RefMem w' base g G (setBV V a c) ∧ Stirs G w w' := by
  obtain ⟨lv, L, h1, rfl, h3⟩ := h
  obtain ⟨i, x, bv, hi, hx, hf⟩ := isSome_at he
  refine (refPut_any w h1 a i c x bv hi hx ha (by simpa using hL)).mono ?_
  rintro e w1 ⟨e1, e2, e3⟩
  have hb : ∀ k, bv.ownBlock = some k → G k := fun k hk => h3 k (.inr (.inr ⟨(x, bv), List.mem_of_getElem? hi, hk⟩))
  refine ⟨e1, ⟨lv, _, e2, ?_, ?_⟩, e3.sub fun k _ hk => ?_⟩
  · rw [List.map_set]
    exact setBV_at h1.ok.nd (by rw [List.getElem?_map, hi]; rfl) hx c
  · rintro k (hk | hk | ⟨p, hp, hk⟩)
    · exact h3 k (.inl hk)
    · exact h3 k (.inr (.inl hk))
    · obtain ⟨j, hj⟩ := List.mem_iff_getElem?.1 hp
      rcases set_get hj with ⟨-, rfl⟩ | ⟨-, h2⟩
      · exact hb k hk
      · exact h3 k (.inr (.inr ⟨p, List.mem_of_getElem? h2, hk⟩))
  · rcases hk with hk | hk
    · exact h3 k (.inl hk)
    · exact hb k hk
theorem can_ref (h : RefMem w base g G V) (a n r : Nat) (ha : a < 18446744073709551616) (hn : n ≤ 2000000) (hr : r = 0 ∨ r = 1 ∨ r = 2 ∨ r = 4) (hL : V.length ≤ 1000000) :
    Calls Try.prog 63 #[ptr g, .int .u64 (a : Int), .int .i64 (n : Int), .int .i64 (r : Int)] w fun e w' => e = .returned (.bool (mayV V a n r)) ∧ RefMem w' base g G V ∧ Stirs G w w' := by
  obtain ⟨lv, L, h1, rfl, h3⟩ := h
  refine (refCan_any w h1 a n r ha hn hr (by simpa using hL)).mono ?_
  rintro e w1 ⟨e1, e2, e3⟩
  exact ⟨e1, ⟨lv, L, e2, rfl, h3⟩, e3.sub fun k _ hk => h3 k (.inl hk)⟩
end
theorem setBV_len (V : Vw) (a : Nat) (x : UInt8) : (setBV V a x).length = V.length := by unfold setBV; rw [List.length_map]
theorem setV_len (l : List UInt8) : ∀ (V : Vw) (a : Nat), (setV V a l).length = V.length := by
  induction l with
  | nil => intro V a; rfl
  | cons x l ih => intro V a; exact (ih _ _).trans (setBV_len V a x)
/-- Bytes stand where their block is not turned, or where there are none. -/
theorem Bs.stirsE {w w' : World} {v : Value} {l : List UInt8} {S : Nat → Prop} (h : Bs w v l) (hs : Stirs S w w') (hF : l = [] ∨ ∀ k, v.ownBlock = some k → ¬ S k) : Bs w' v l := by
  rcases hF with rfl | hF
  · obtain ⟨h1, a, cap, h2, h3, h0, h4⟩ := h
    exact ⟨h1, a, cap, h2, h3, h0, fun j hj => by simp at hj⟩
  · exact Reads.stirs h hs hF
set_option maxHeartbeats 4000000 in
set_option maxRecDepth 100000 in
theorem refSet_any {base g : Nat} {G : Nat → Prop} {V : Vw} (w : World) (h : RefMem w base g G V) (v : Value) (l : List UInt8) (hv : Bs w v l) (hl : l.length ≤ 2000000) (hF : l = [] ∨ ∀ k, v.ownBlock = some k → ¬ G k) (a : Nat) (ha : a < 18446744073709551616) (hL : V.length ≤ 1000000) :
    Calls Try.prog 36 #[ptr g, .int .u64 (a : Int), v] w fun e w' => e = .returned (.int .i64 (setR V a l).2) ∧ RefMem w' base g G (setR V a l).1 ∧ Stirs G w w' := by
  have H := Lib.hid h
  have HV := Lib.hid hv
  have HF := Lib.hid hF
  obtain ⟨m, va, vc, hm, rfl, _, _⟩ := hv.shape
  have HM := Lib.hid hm.out
  have hm9 : m ≤ 2000000 := by have := hm.out; omega
  have HC := Lib.hid (can_ref h a m 0 ha hm9 (.inl rfl) hL)
  have HMS := Lib.hid (fun k (hk : k < m) (hmv : mayV V a m 0 = true) => may_some hmv hk)
  have HP := Lib.hid (fun (wx : World) (V' : Vw) (hx : RefMem wx base g G V') (k : Nat) (c : UInt8) (hk : a + k < 18446744073709551616) (he : (findV V' ((a + k) / 4096)).isSome = true) (hl : V'.length ≤ 1000000) => put_ref hx (a + k) c hk he hl)
  have HVL := Lib.hid hL
  clear h hv hF hm ha hL hl
  cases hmv : mayV V a m 0 with
  | false =>
    rw [hmv] at HC
    have HR := Lib.hid (show setR V a l = (V, 21) by unfold setR; rw [← HM.out, hmv]; rfl)
    clear hmv
    go_enter Try.func36, Try.ntmps36
    go_wp2_with fail
    refine HC.out.mono ?_
    rintro e w1 ⟨rfl, hr1, hs1⟩
    go_wp2
    go_ret
    rw [HR.out]
    exact ⟨rfl, hr1, hs1⟩
  | true =>
    rw [hmv] at HC
    have HR := Lib.hid (show setR V a l = (setV V a l, 0) by unfold setR; rw [← HM.out, hmv]; rfl)
    have HMV := Lib.hid hmv
    clear hmv
    go_enter Try.func36, Try.ntmps36
    go_wp2_with fail
    refine HC.out.mono ?_
    rintro e w1 ⟨rfl, hr1, hs1⟩
    have HR1 := Lib.hid hr1
    have HS1 := Lib.hid hs1
    clear hr1 hs1
    go_wp2
    go_loopw [7] (fun iv wr => ∃ k : Nat, iv = .int .i64 (k : Int) ∧ k ≤ m ∧ Hid (RefMem wr base g G (setV V a (l.take k))) ∧ Hid (Stirs G w wr)) (fun iv _ => m - (intOf iv).toNat)
    case atStart => exact ⟨0, rfl, Nat.zero_le _, HR1.out, HS1.out⟩
    case round =>
      obtain ⟨k, rfl, hk, HRk, HS⟩ := hrel
      clear HR1 HS1
      by_cases hlt : k < m
      · have HMk := Lib.hid (HMS.out k hlt HMV.out)
        have hcv : IntKind.u64.wrap (k : Int) = (k : Int) := by rw [IntKind.wrap_u64]; omega
        have hsm : IntKind.u64.wrap ((a : Int) + (k : Int)) = ((a + k : Nat) : Int) := by have := HMk.out.1; rw [IntKind.wrap_u64]; omega
        obtain ⟨b, o, rfl, hc0⟩ : ∃ b o, va = some ⟨b, o, none⟩ ∧ wr.cell? ⟨b, o + k, none⟩ = some (.int .u8 ((l[k]?.getD 0).toNat : Int)) := by
          have hvr : Bs wr (.slice va m vc) l := Bs.stirsE HV.out HS.out HF.out
          obtain ⟨a', c', e, -, -, hc⟩ := hvr.open
          simp only [Value.slice.injEq] at e
          obtain ⟨rfl, hh, rfl⟩ := e
          exact hc k (by omega)
        have HTK := Lib.hid (show setBV (setV V a (l.take k)) (a + k) (l[k]?.getD 0) = setV V a (l.take (k + 1)) by
          rw [take_snoc' l k (l[k]?.getD 0) (by rw [List.getElem?_eq_getElem (by have := HM.out; omega)]; rfl), setV_snoc, List.length_take, Nat.min_eq_left (by have := HM.out; omega)])
        have HPk := Lib.hid (HP.out wr _ HRk.out k (l[k]?.getD 0) (by have := HMk.out.1; omega) (by rw [findV_setV_some]; exact HMk.out.2) (by rw [setV_len]; exact HVL.out))
        rw [HTK.out] at HPk
        generalize l[k]?.getD 0 = c at *
        generalize a + k = q at *
        go_wp2_with fail
        refine HPk.out.mono ?_
        rintro e w2 ⟨rfl, hr2, hs2⟩
        have HR2 := Lib.hid hr2
        have HS2 := Lib.hid (HS.out.trans hs2 (fun _ _ h => h))
        clear hr2 hs2 hc0
        go_wp2
        go_roundw
        case rel => exact ⟨k + 1, by go_num, by omega, HR2.out, HS2.out⟩
        case measure => simp [intOf] <;> omega
      · obtain rfl : k = m := by omega
        have HTL := Lib.hid (show l.take k = l from List.take_of_length_le (by have := HM.out; omega))
        rw [HTL.out] at HRk
        go_wp2
        go_ret
        rw [HR.out]
        exact ⟨rfl, HRk.out, HS.out⟩
end Go.Proofs.Ytmpelmjhimalpaa
namespace Go.Proofs.Ytmpelmjhimalpaa
open Go.RowKit Go.Fd
theorem rsized_any (n : Int) (w : World) : Calls Try.prog 65 #[.int .i64 n] w fun e w' => e = .returned (.bool (szB n)) ∧ w = w' := by
  by_cases h1 : n = 1
  · subst h1
    go_enter Try.func65, Try.ntmps65
    go_wp2
    go_ret
    exact ⟨rfl, rfl⟩
  by_cases h2 : n = 2
  · subst h2
    go_enter Try.func65, Try.ntmps65
    go_wp2
    go_ret
    exact ⟨rfl, rfl⟩
  by_cases h4 : n = 4
  · subst h4
    go_enter Try.func65, Try.ntmps65
    go_wp2
    go_ret
    exact ⟨rfl, rfl⟩
  by_cases h8 : n = 8
  · subst h8
    go_enter Try.func65, Try.ntmps65
    go_wp2
    go_ret
    exact ⟨rfl, rfl⟩
  have HR := Lib.hid (show szB n = false by unfold szB; exact decide_eq_false (by omega))
  have e1 : (n == 1) = false := by simpa using h1
  have e2 : (n == 2) = false := by simpa using h2
  have e4 : (n == 4) = false := by simpa using h4
  have e8 : (n == 8) = false := by simpa using h8
  clear h1 h2 h4 h8
  go_enter Try.func65, Try.ntmps65
  go_wp2
  go_ret
  exact ⟨by rw [HR.out]; rfl, rfl⟩
set_option maxHeartbeats 4000000 in
set_option maxRecDepth 100000 in
theorem refRead_any {base g : Nat} {G : Nat → Prop} {V : Vw} (w : World) (h : RefMem w base g G V) (a n : Nat) (hn : n ≤ 2000000) (hin : ∀ k, k < n → a + k < 18446744073709551616 ∧ (findV V ((a + k) / 4096)).isSome = true) (hL : V.length ≤ 1000000) (hg : ∀ k, G k → k < w.heap.size) :
    Calls Try.prog 67 #[ptr g, .int .u64 (a : Int), .int .i64 (n : Int)] w fun e w' => ∃ v, e = .returned v ∧ OB w' w.heap.size v (bytesV V a n) ∧ RefMem w' base g G V ∧ Stirs G w w' := by
  have H := Lib.hid h
  have HIN := Lib.hid hin
  have HG := Lib.hid hg
  have HP := Lib.hid (fun (wx : World) (hx : RefMem wx base g G V) (k : Nat) (hk : k < n) => get_ref hx (a + k) (hin k hk).1 (hin k hk).2 hL)
  clear h hin hg hL
  go_enter Try.func67, Try.ntmps67
  go_wp2
  go_loopw [7, 8] (fun bv iv wr => ∃ k : Nat, iv = .int .i64 (k : Int) ∧ k ≤ n ∧ Hid (OB wr w.heap.size bv (bytesV V a k)) ∧ Hid (RefMem wr base g G V) ∧ Hid (Stirs G w wr)) (fun _ iv _ => n - (intOf iv).toNat)
  case atStart => exact ⟨0, rfl, Nat.zero_le _, OB.nil _ _, H.out, Stirs.refl _ _⟩
  case round =>
    obtain ⟨k, rfl, hk, HO, HR, HS⟩ := hrel
    have hz := HS.out.size
    obtain ⟨om, oa, oc, -, rfl, _, _⟩ := HO.out.shape
    by_cases hlt : k < n
    · have hcv : IntKind.u64.wrap (k : Int) = (k : Int) := by rw [IntKind.wrap_u64]; omega
      have hsm : IntKind.u64.wrap ((a : Int) + (k : Int)) = ((a + k : Nat) : Int) := by have := (HIN.out k hlt).1; rw [IntKind.wrap_u64]; omega
      have HPk := Lib.hid (HP.out wr HR.out k hlt)
      have HBS := Lib.hid (bytesV_succ V a k)
      have HBL := Lib.hid (bytesV_len V a k)
      generalize getV V (a + k) = c at *
      generalize a + k = q at *
      go_wp2_with fail
      refine HPk.out.mono ?_
      rintro e w2 ⟨rfl, hr2, hs2⟩
      have HO2 := Lib.hid (show OB w2 w.heap.size (.slice oa om oc) (bytesV V a k) from owns_stirs HO.out hs2 (fun j hj hG => by have h1 := ows_ge HO.out j hj; have h2 := HG.out j hG; omega))
      have HR2 := Lib.hid hr2
      have HS2 := Lib.hid (HS.out.trans hs2 (fun _ _ h => h))
      have hz2 := HS2.out.size
      clear hr2 hs2
      go_wp2_with ((with_reducible show wpList _ _ _ (⟨some 22, _, _, _, _, _⟩ :: _) _ _); go_must (refine wpList_pushB HO2.out rfl rfl c rfl (by rw [HBL.out]; omega) hz2 ?_; intro v3 w3 hv3 hg3 hb3; have HO3 := Lib.hid (show OB w3 w.heap.size v3 (bytesV V a (k + 1)) by rw [HBS.out]; exact hv3); have HR3 := Lib.hid (HR2.out.stirs (Stirs.of_grown (S := fun j => (Value.slice oa om oc).ownBlock = some j) hg3 (fun j hj => hj)) (fun j hG hj => by have h1 := ows_ge HO2.out j hj; have h2 := HG.out j hG; omega)); have HS3 := Lib.hid (HS2.out.trans (Stirs.of_grown (S := fun j => (Value.slice oa om oc).ownBlock = some j) hg3 (fun j hj => hj)) (fun j hlt hj => by have h1 := ows_ge HO2.out j hj; omega)); clear hv3 hg3 hb3))
      go_roundw
      case rel => exact ⟨k + 1, by go_num, by omega, HO3.out, HR3.out, HS3.out⟩
      case measure => simp [intOf] <;> omega
    · obtain rfl : k = n := by omega
      go_wp2
      go_ret
      exact ⟨_, rfl, HO.out, HR.out, HS.out⟩
end Go.Proofs.Ytmpelmjhimalpaa
namespace Go.Proofs.Ytmpelmjhimalpaa
open Go.RowKit Go.Fd
theorem may_zero {V : Vw} {a n r : Nat} (h : mayV V a n r = true) : mayV V a n 0 = true := by
  rcases (mayV_iff V a n r).1 h with h | ⟨h1, h2⟩
  · exact (mayV_iff V a n 0).2 (.inl h)
  · refine (mayV_iff V a n 0).2 (.inr ⟨h1, fun i hi => ?_⟩)
    have := h2 i hi
    unfold okV at *
    cases hf : findV V ((a + i) / 4096) with
    | none => rw [hf] at this; cases this
    | some x => simp
theorem may_in {V : Vw} {a n r : Nat} (h : mayV V a n r = true) (k : Nat) (hk : k < n) : a + k < 18446744073709551616 ∧ (findV V ((a + k) / 4096)).isSome = true := by
  obtain ⟨h1, h2⟩ := may_some h hk
  exact ⟨by omega, h2⟩
set_option maxRecDepth 100000 in
theorem refLoad_any {base g : Nat} {G : Nat → Prop} {V : Vw} (w : World) (h : RefMem w base g G V) (a : Nat) (ha : a < 18446744073709551616) (n : Int) (hL : V.length ≤ 1000000) (hg : ∀ k, G k → k < w.heap.size) :
    Calls Try.prog 38 #[ptr g, .int .u64 (a : Int), .int .i64 n] w fun e w' => e = .returned (.tuple #[.int .u64 ((loadR V a n).1 : Int), .int .i64 (loadR V a n).2]) ∧ RefMem w' base g G V ∧ Stirs G w w' := by
  have HSZ := Lib.hid (rsized_any n w)
  have H := Lib.hid h
  cases hs : szB n with
  | false =>
    have HR := Lib.hid (show loadR V a n = (0, 1) by unfold loadR; rw [hs]; rfl)
    rw [hs] at HSZ
    clear hs ha h hL hg
    go_enter Try.func38, Try.ntmps38
    go_wp2_with fail
    refine HSZ.out.mono ?_
    rintro e w1 ⟨rfl, rfl⟩
    go_wp2
    go_ret2
    rw [HR.out]
    exact ⟨rfl, H.out, Stirs.refl _ _⟩
  | true =>
    rw [hs] at HSZ
    have hn := (szB_iff n).1 hs
    obtain ⟨m, rfl⟩ := Int.eq_ofNat_of_zero_le (by omega : 0 ≤ n)
    have hm8 : m ≤ 8 := by omega
    have HC := Lib.hid (can_ref h a m 4 ha (by omega) (by decide) hL)
    have HVL := Lib.hid hL
    have HG := Lib.hid hg
    cases hm : mayV V a m 4 with
    | false =>
      have HR := Lib.hid (show loadR V a m = (0, 21) by unfold loadR; rw [if_pos hs, Int.toNat_natCast, hm]; rfl)
      rw [hm] at HC
      clear hs hn hm ha h hL hg
      go_enter Try.func38, Try.ntmps38
      go_wp2_with fail
      refine HSZ.out.mono ?_
      rintro e w1 ⟨rfl, rfl⟩
      go_wp2_with fail
      refine HC.out.mono ?_
      rintro e w1 ⟨rfl, hr1, hs1⟩
      go_wp2
      go_ret2
      rw [HR.out]
      exact ⟨rfl, hr1, hs1⟩
    | true =>
      have HR := Lib.hid (show loadR V a m = (numLE (bytesV V a m), 0) by unfold loadR; rw [if_pos hs, Int.toNat_natCast, hm]; rfl)
      have HMV := Lib.hid hm
      rw [hm] at HC
      clear hs hn hm ha h hL hg
      go_enter Try.func38, Try.ntmps38
      go_wp2_with fail
      refine HSZ.out.mono ?_
      rintro e w1 ⟨rfl, rfl⟩
      go_wp2_with fail
      refine HC.out.mono ?_
      rintro e w1 ⟨rfl, hr1, hs1⟩
      have HR1 := Lib.hid hr1
      have HS1 := Lib.hid hs1
      have hz1 := hs1.size
      clear hr1 hs1
      go_wp2_with fail
      refine (refRead_any w1 HR1.out a m (by omega) (fun k hk => may_in HMV.out k hk) HVL.out (fun k hk => by have := HG.out k hk; omega)).mono ?_
      rintro e w2 ⟨v2, rfl, hv2, hr2, hs2⟩
      have HV2 := Lib.hid hv2.bs
      have HR2 := Lib.hid hr2
      have HS2 := Lib.hid (HS1.out.trans hs2 (fun _ _ h => h))
      obtain ⟨m2, a2, c2, -, rfl, _, _⟩ := hv2.shape
      clear hv2 hr2 hs2
      go_wp2_with fail
      refine (num_any _ _ _ (by rw [bytesV_len]; exact hm8) HV2.out).mono ?_
      rintro e w3 ⟨rfl, rfl⟩
      go_wp2
      go_ret2
      rw [HR.out]
      exact ⟨rfl, HR2.out, HS2.out⟩
set_option maxRecDepth 100000 in
theorem refStore_any {base g : Nat} {G : Nat → Prop} {V : Vw} (w : World) (h : RefMem w base g G V) (a : Nat) (ha : a < 18446744073709551616) (n : Int) (x : Nat) (hx : x < 18446744073709551616) (hL : V.length ≤ 1000000) (hg : ∀ k, G k → k < w.heap.size) :
    Calls Try.prog 39 #[ptr g, .int .u64 (a : Int), .int .i64 n, .int .u64 (x : Int)] w fun e w' => e = .returned (.int .i64 (storeR V a n x).2) ∧ RefMem w' base g G (storeR V a n x).1 ∧ Stirs G w w' := by
  have HSZ := Lib.hid (rsized_any n w)
  have H := Lib.hid h
  cases hs : szB n with
  | false =>
    have HR := Lib.hid (show storeR V a n x = (V, 1) by unfold storeR; rw [hs]; rfl)
    rw [hs] at HSZ
    clear hs ha h hL hg hx
    go_enter Try.func39, Try.ntmps39
    go_wp2_with fail
    refine HSZ.out.mono ?_
    rintro e w1 ⟨rfl, rfl⟩
    go_wp2
    go_ret
    rw [HR.out]
    exact ⟨rfl, H.out, Stirs.refl _ _⟩
  | true =>
    rw [hs] at HSZ
    have hn := (szB_iff n).1 hs
    obtain ⟨m, rfl⟩ := Int.eq_ofNat_of_zero_le (by omega : 0 ≤ n)
    have hm8 : m ≤ 8 := by omega
    have HC := Lib.hid (can_ref h a m 2 ha (by omega) (by decide) hL)
    have HVL := Lib.hid hL
    have HG := Lib.hid hg
    have HA := Lib.hid (fun (wx : World) (hw : RefMem wx base g G V) (v : Value) (l : List UInt8) (hv : Bs wx v l) (hl : l.length ≤ 2000000) (hF : ∀ k, v.ownBlock = some k → ¬ G k) => refSet_any wx hw v l hv hl (.inr hF) a ha hL)
    have HFX := Lib.hid (fun (wx : World) => fixed_any x m wx hx hm8)
    cases hm : mayV V a m 2 with
    | false =>
      have HR := Lib.hid (show storeR V a m x = (V, 21) by unfold storeR; rw [if_pos hs, Int.toNat_natCast, hm]; rfl)
      rw [hm] at HC
      clear hs hn hm ha h hL hg hx
      go_enter Try.func39, Try.ntmps39
      go_wp2_with fail
      refine HSZ.out.mono ?_
      rintro e w1 ⟨rfl, rfl⟩
      go_wp2_with fail
      refine HC.out.mono ?_
      rintro e w1 ⟨rfl, hr1, hs1⟩
      go_wp2
      go_ret
      rw [HR.out]
      exact ⟨rfl, hr1, hs1⟩
    | true =>
      have HR := Lib.hid (show storeR V a m x = (setV V a (fixed x m), 0) by unfold storeR; rw [if_pos hs, Int.toNat_natCast, hm]; rfl)
      have HSR := Lib.hid (show setR V a (fixed x m) = (setV V a (fixed x m), 0) by unfold setR; rw [length_fixed, may_zero hm]; rfl)
      rw [hm] at HC
      clear hs hn hm ha h hL hg hx
      go_enter Try.func39, Try.ntmps39
      go_wp2_with fail
      refine HSZ.out.mono ?_
      rintro e w1 ⟨rfl, rfl⟩
      go_wp2_with fail
      refine HC.out.mono ?_
      rintro e w1 ⟨rfl, hr1, hs1⟩
      have HR1 := Lib.hid hr1
      have HS1 := Lib.hid hs1
      have hz1 := hs1.size
      clear hr1 hs1
      go_wp2_with fail
      refine (HFX.out _).mono ?_
      rintro e w2 ⟨v2, rfl, hv2, hb2⟩
      have HV2 := Lib.hid hv2.bs
      have HNF := Lib.hid (show ∀ k, v2.ownBlock = some k → ¬ G k from fun k hk hG => by have h1 := ows_ge hv2 k hk; have h2 := HG.out k hG; omega)
      have HR2 := Lib.hid (HR1.out.mono hb2)
      have HS2 := Lib.hid (HS1.out.thenBelow hb2)
      obtain ⟨m2, a2, c2, -, rfl, _, _⟩ := hv2.shape
      clear hv2 hb2
      go_wp2_with fail
      refine (HA.out _ HR2.out _ _ HV2.out (by rw [length_fixed]; omega) HNF.out).mono ?_
      rintro e w3 ⟨rfl, hr3, hs3⟩
      rw [HSR.out] at hr3
      have HR3 := Lib.hid hr3
      have HS3 := Lib.hid (HS2.out.trans hs3 (fun _ _ h => h))
      clear hr3 hs3
      go_wp2
      go_ret
      rw [HR.out]
      exact ⟨rfl, HR3.out, HS3.out⟩
end Go.Proofs.Ytmpelmjhimalpaa
namespace Go.Proofs.Ytmpelmjhimalpaa
open Go.RowKit Go.Fd
set_option maxRecDepth 100000 in
theorem refBytes_any {base g : Nat} {G : Nat → Prop} {V : Vw} (w : World) (h : RefMem w base g G V) (a : Nat) (ha : a < 18446744073709551616) (n : Int) (hL : V.length ≤ 1000000) (hg : ∀ k, G k → k < w.heap.size) :
    Calls Try.prog 43 #[ptr g, .int .u64 (a : Int), .int .i64 n] w fun e w' => ∃ v, e = .returned (.tuple #[v, .int .i64 (bytesR V a n).2]) ∧ OB w' w.heap.size v (bytesR V a n).1 ∧ RefMem w' base g G V ∧ Stirs G w w' := by
  have H := Lib.hid h
  by_cases hbad : n < 0 ∨ 1048576 < n
  · have HR := Lib.hid (show bytesR V a n = ([], 1) by unfold bytesR; rw [if_pos hbad])
    clear ha h hL hg
    rcases hbad with h1 | h1
    · have d1 : decide (n < 0) = true := decide_eq_true h1
      go_enter Try.func43, Try.ntmps43
      go_wp2
      go_ret2
      rw [HR.out]
      exact ⟨_, rfl, OB.nil _ _, H.out, Stirs.refl _ _⟩
    · have d1 : decide (n < 0) = false := decide_eq_false (by omega)
      have d2 : decide (1048576 < n) = true := decide_eq_true h1
      go_enter Try.func43, Try.ntmps43
      go_wp2
      go_ret2
      rw [HR.out]
      exact ⟨_, rfl, OB.nil _ _, H.out, Stirs.refl _ _⟩
  obtain ⟨m, rfl⟩ := Int.eq_ofNat_of_zero_le (by omega : 0 ≤ n)
  have hm9 : m ≤ 1048576 := by omega
  have d2 : decide (1048576 < (m : Int)) = false := decide_eq_false (by omega)
  have d1 : decide ((m : Int) < 0) = false := decide_eq_false (by omega)
  have HC := Lib.hid (can_ref h a m 4 ha (by omega) (by decide) hL)
  have HVL := Lib.hid hL
  have HG := Lib.hid hg
  cases hm : mayV V a m 4 with
  | false =>
    have HR := Lib.hid (show bytesR V a m = ([], 21) by unfold bytesR; rw [if_neg hbad, Int.toNat_natCast, hm]; rfl)
    rw [hm] at HC
    clear hm ha h hL hg hbad
    go_enter Try.func43, Try.ntmps43
    go_wp2_with fail
    refine HC.out.mono ?_
    rintro e w1 ⟨rfl, hr1, hs1⟩
    go_wp2
    go_ret2
    rw [HR.out]
    exact ⟨_, rfl, OB.nil _ _, hr1, hs1⟩
  | true =>
    have HR := Lib.hid (show bytesR V a m = (bytesV V a m, 0) by unfold bytesR; rw [if_neg hbad, Int.toNat_natCast, hm]; rfl)
    have HMV := Lib.hid hm
    rw [hm] at HC
    clear hm ha h hL hg hbad
    go_enter Try.func43, Try.ntmps43
    go_wp2_with fail
    refine HC.out.mono ?_
    rintro e w1 ⟨rfl, hr1, hs1⟩
    have HR1 := Lib.hid hr1
    have HS1 := Lib.hid hs1
    have hz1 := hs1.size
    clear hr1 hs1
    go_wp2_with fail
    refine (refRead_any w1 HR1.out a m (by omega) (fun k hk => may_in HMV.out k hk) HVL.out (fun k hk => by have := HG.out k hk; omega)).mono ?_
    rintro e w2 ⟨v2, rfl, hv2, hr2, hs2⟩
    have HV2 := Lib.hid hv2
    have HR2 := Lib.hid hr2
    have HS2 := Lib.hid (HS1.out.trans hs2 (fun _ _ h => h))
    obtain ⟨m2, a2, c2, -, rfl, _, _⟩ := hv2.shape
    clear hv2 hr2 hs2
    go_wp2
    go_ret2
    rw [HR.out]
    exact ⟨_, rfl, OB.base HV2.out hz1, HR2.out, HS2.out⟩
theorem may_succ (V : Vw) (a k : Nat) (h : mayV V a k 1 = true) : mayV V a (k + 1) 1 = true ↔ (a + k < 18446744073709551616 ∧ mayV V (a + k) 1 1 = true) := by
  rw [mayV_iff, mayV_iff]
  constructor
  · rintro (h1 | ⟨h1, h2⟩)
    · omega
    · exact ⟨by omega, .inr ⟨by omega, fun i hi => by have := h2 k (by omega); rw [show i = 0 by omega]; exact this⟩⟩
  · rintro ⟨h1, h2⟩
    have h3 : okV 1 (findV V ((a + k) / 4096)) = true := by
      rcases h2 with h2 | ⟨-, h2⟩
      · omega
      · exact h2 0 (by omega)
    refine .inr ⟨by omega, fun i hi => ?_⟩
    by_cases e : i = k
    · rw [e]; exact h3
    · rcases (mayV_iff V a k 1).1 h with h4 | ⟨-, h4⟩
      · omega
      · exact h4 i (by omega)
set_option maxHeartbeats 4000000 in
set_option maxRecDepth 100000 in
theorem refFetch_any {base g : Nat} {G : Nat → Prop} {V : Vw} (w : World) (h : RefMem w base g G V) (a : Nat) (ha : a < 18446744073709551616) (n : Int) (hL : V.length ≤ 1000000) (hg : ∀ k, G k → k < w.heap.size) :
    Calls Try.prog 41 #[ptr g, .int .u64 (a : Int), .int .i64 n] w fun e w' => ∃ v, e = .returned (.tuple #[v, .int .i64 (fetchR V a n).2]) ∧ OB w' w.heap.size v (fetchR V a n).1 ∧ RefMem w' base g G V ∧ Stirs G w w' := by
  have H := Lib.hid h
  by_cases hbad : n < 1 ∨ 16 < n
  · have HR := Lib.hid (show fetchR V a n = ([], 1) by unfold fetchR; rw [if_pos hbad])
    clear ha h hL hg
    rcases hbad with h1 | h1
    · have d1 : decide (n < 1) = true := decide_eq_true h1
      go_enter Try.func41, Try.ntmps41
      go_wp2
      go_ret2
      rw [HR.out]
      exact ⟨_, rfl, OB.nil _ _, H.out, Stirs.refl _ _⟩
    · have d1 : decide (n < 1) = false := decide_eq_false (by omega)
      have d2 : decide (16 < n) = true := decide_eq_true h1
      go_enter Try.func41, Try.ntmps41
      go_wp2
      go_ret2
      rw [HR.out]
      exact ⟨_, rfl, OB.nil _ _, H.out, Stirs.refl _ _⟩
  obtain ⟨m, rfl⟩ := Int.eq_ofNat_of_zero_le (by omega : 0 ≤ n)
  have hm9 : m ≤ 16 := by omega
  have hm1 : 1 ≤ m := by omega
  have d2 : decide (16 < (m : Int)) = false := decide_eq_false (by omega)
  have d1 : decide ((m : Int) < 1) = false := decide_eq_false (by omega)
  have HC := Lib.hid (fun (wx : World) (hw : RefMem wx base g G V) (k : Nat) (hk : k ≤ 2000000) => can_ref hw a k 1 ha hk (by decide) hL)
  have HVL := Lib.hid hL
  have HG := Lib.hid hg
  have HRR := Lib.hid (show ∀ k, fetchK V a m = k → fetchR V a m = if k = 0 then ([], 21) else (bytesV V a k, 0) from fun k hk => by unfold fetchR; rw [if_neg hbad, Int.toNat_natCast, hk])
  clear ha h hL hg hbad
  go_enter Try.func41, Try.ntmps41
  go_wp2
  go_loopw [8] (fun iv wr => ∃ k : Nat, iv = .int .i64 (k : Int) ∧ k ≤ m ∧ Hid (fetchK V a k = k) ∧ Hid (mayV V a k 1 = true) ∧ Hid (RefMem wr base g G V) ∧ Hid (Stirs G w wr)) (fun iv _ => m - (intOf iv).toNat)
  case atStart => exact ⟨0, rfl, Nat.zero_le _, rfl, (mayV_iff V a 0 1).2 (.inl rfl), H.out, Stirs.refl _ _⟩
  case round =>
    obtain ⟨k, rfl, hk, HFK, HMV, HR, HS⟩ := hrel
    have hz := HS.out.size
    have hkb : k ≤ 16 := by omega
    by_cases hlt : k < m
    · have HCk := HC.out wr HR.out (k + 1) (by omega)
      rw [Int.natCast_add] at HCk
      have HMS := Lib.hid (may_succ V a k HMV.out)
      cases hmv : mayV V a (k + 1) 1 with
      | true =>
        have HM2 := Lib.hid hmv
        have HF2 := Lib.hid (show fetchK V a (k + 1) = k + 1 by rw [fetchK, if_pos ⟨HFK.out, (HMS.out.1 hmv)⟩])
        rw [hmv] at HCk
        have HCh := Lib.hid HCk
        clear hmv HCk
        go_wp2_with fail
        refine HCh.out.mono ?_
        rintro e w1 ⟨rfl, hr1, hs1⟩
        have HR1 := Lib.hid hr1
        have HS1 := Lib.hid (HS.out.trans hs1 (fun _ _ h => h))
        clear hr1 hs1
        go_wp2
        go_roundw
        case rel => exact ⟨k + 1, by go_num, by omega, HF2.out, HM2.out, HR1.out, HS1.out⟩
        case measure => simp [intOf] <;> omega
      | false =>
        have HFm := Lib.hid (fetchK_stop HFK.out (fun h => by rw [HMS.out.2 h] at hmv; cases hmv) m hk)
        have HRES := Lib.hid (HRR.out k HFm.out)
        rw [hmv] at HCk
        have HCh := Lib.hid HCk
        clear hmv HCk
        go_wp2_with fail
        refine HCh.out.mono ?_
        rintro e w1 ⟨rfl, hr1, hs1⟩
        have HR1 := Lib.hid hr1
        have HS1 := Lib.hid (HS.out.trans hs1 (fun _ _ h => h))
        have hz1 := HS1.out.size
        clear hr1 hs1
        by_cases hk0 : k = 0
        · rw [if_pos hk0] at HRES
          subst hk0
          go_wp2
          go_ret2
          rw [HRES.out]
          exact ⟨_, rfl, OB.nil _ _, HR1.out, HS1.out⟩
        · rw [if_neg hk0] at HRES
          have d5 : ((k : Int) == 0) = false := by simp; omega
          clear hk0
          go_wp2_with fail
          refine (refRead_any w1 HR1.out a k (by omega) (fun j hj => may_in HMV.out j hj) HVL.out (fun j hj => by have := HG.out j hj; omega)).mono ?_
          rintro e w2 ⟨v2, rfl, hv2, hr2, hs2⟩
          have HV2 := Lib.hid hv2
          have HR2 := Lib.hid hr2
          have HS2 := Lib.hid (HS1.out.trans hs2 (fun _ _ h => h))
          obtain ⟨m2, a2, c2, -, rfl, _, _⟩ := hv2.shape
          clear hv2 hr2 hs2
          go_wp2
          go_ret2
          rw [HRES.out]
          exact ⟨_, rfl, OB.base HV2.out hz1, HR2.out, HS2.out⟩
    · obtain rfl : k = m := by omega
      have HRES := Lib.hid (HRR.out k HFK.out)
      rw [if_neg (by omega)] at HRES
      have d5 : ((k : Int) == 0) = false := by simp; omega
      go_wp2_with fail
      refine (refRead_any wr HR.out a k (by omega) (fun j hj => may_in HMV.out j hj) HVL.out (fun j hj => by have := HG.out j hj; omega)).mono ?_
      rintro e w2 ⟨v2, rfl, hv2, hr2, hs2⟩
      have HV2 := Lib.hid hv2
      have HR2 := Lib.hid hr2
      have HS2 := Lib.hid (HS.out.trans hs2 (fun _ _ h => h))
      obtain ⟨m2, a2, c2, -, rfl, _, _⟩ := hv2.shape
      clear hv2 hr2 hs2
      go_wp2
      go_ret2
      rw [HRES.out]
      exact ⟨_, rfl, OB.base HV2.out hz, HR2.out, HS2.out⟩
end Go.Proofs.Ytmpelmjhimalpaa
namespace Go.Proofs.Ytmpelmjhimalpaa
open Go.RowKit Go.Fd
/-- How many of the c pages from f on are not mapped. -/
def freshN (V : Vw) (f : Nat) : Nat → Nat
  | 0 => 0
  | c + 1 => freshN V f c + (if (findV V (f + c)).isSome then 0 else 1)
theorem freshN_le (V : Vw) (f c : Nat) : freshN V f c ≤ c := by
  induction c with
  | zero => exact Nat.le_refl _
  | succ c ih => rw [freshN]; split <;> omega
theorem count_key {V : Vw} (hn : (V.map (·.1)).Nodup) (n : Nat) : V.countP (fun x => x.1 == n) = if (findV V n).isSome then 1 else 0 := by
  induction V with
  | nil => rfl
  | cons x V ih =>
    rw [List.map_cons, List.nodup_cons] at hn
    rw [List.countP_cons, ih hn.2]
    unfold findV
    rw [List.find?_cons]
    by_cases h : x.1 = n
    · have h0 : V.find? (fun y => y.1 == n) = none := by
        rw [List.find?_eq_none]
        intro y hy
        have : y.1 ≠ n := fun e => hn.1 (by rw [h, ← e]; exact List.mem_map.2 ⟨y, hy, rfl⟩)
        simpa using this
      rw [h0]
      simp [h]
    · have hb : (x.1 == n) = false := by simpa using h
      rw [hb]
      simp
theorem there_split {V : Vw} (f c : Nat) : V.countP (fun x => decide (f ≤ x.1) && decide (x.1 < f + (c + 1))) = V.countP (fun x => decide (f ≤ x.1) && decide (x.1 < f + c)) + V.countP (fun x => x.1 == f + c) := by
  induction V with
  | nil => rfl
  | cons x V ih =>
    rw [List.countP_cons, List.countP_cons, List.countP_cons, ih]
    by_cases h1 : f ≤ x.1
    · by_cases h2 : x.1 < f + c
      · have a1 : x.1 < f + (c + 1) := by omega
        have a2 : (x.1 == f + c) = false := by simp; omega
        simp [h1, h2, a1, a2]
        omega
      · by_cases h3 : x.1 = f + c
        · have a1 : x.1 < f + (c + 1) := by omega
          have a2 : (x.1 == f + c) = true := by simp [h3]
          simp [h1, h2, a1, a2]
          omega
        · have a1 : ¬ x.1 < f + (c + 1) := by omega
          have a2 : (x.1 == f + c) = false := by simp; omega
          simp [h1, h2, a1, a2]
    · have a2 : (x.1 == f + c) = false := by simp; omega
      simp [h1, a2]
theorem there_fresh {V : Vw} (hn : (V.map (·.1)).Nodup) (f : Nat) : ∀ c, V.countP (fun x => decide (f ≤ x.1) && decide (x.1 < f + c)) + freshN V f c = c
  | 0 => by
    rw [freshN, Nat.add_zero]
    rw [List.countP_eq_zero]
    intro x _
    simp
  | c + 1 => by
    have ih := there_fresh hn f c
    rw [there_split, count_key hn, freshN]
    split <;> omega
theorem thereV_eq {V : Vw} {f l : Nat} (h : f ≤ l) : thereV V f l = V.countP (fun x => decide (f ≤ x.1) && decide (x.1 < f + (l - f + 1))) := by
  unfold thereV
  refine List.countP_congr fun x _ => ?_
  unfold inV
  have : x.1 ≤ l ↔ x.1 < f + (l - f + 1) := by omega
  simp [this]
/-- Map's error of too many pages, by the reference's count. -/
theorem long_fresh {V : Vw} (hn : (V.map (·.1)).Nodup) {f l : Nat} (h : f ≤ l) (hs : l - f < 4096) : longV V f l = decide (4096 < V.length + freshN V f (l - f + 1)) := by
  have h1 := there_fresh hn f (l - f + 1)
  rw [← thereV_eq h] at h1
  have h2 : thereV V f l ≤ V.length := List.countP_le_length
  unfold longV
  rw [decide_eq_false (show ¬ 4096 ≤ l - f by omega), Bool.false_or]
  exact decide_eq_decide.2 (by omega)
/-- What one page tells: may it get rights? -/
def bothAt (V : Vw) (r k : Nat) : Bool := match findV V k with
  | some x => bothB (x.2.1 ||| r)
  | none => bothB r
theorem findV_some {V : Vw} {k : Nat} {x : Pg} (h : findV V k = some x) : x ∈ V ∧ x.1 = k := by
  unfold findV at h
  exact ⟨List.mem_of_find?_eq_some h, by have := List.find?_some h; simpa using this⟩
theorem clash_at {V : Vw} {f l r k : Nat} (h1 : f ≤ k) (h2 : k ≤ l) (hb : bothAt V r k = true) : clashV V f l r = true := by
  unfold bothAt at hb
  unfold clashV
  cases hf : findV V k with
  | none => rw [hf] at hb; dsimp only at hb; rw [hb]; rfl
  | some x =>
    rw [hf] at hb
    obtain ⟨hm, hk⟩ := findV_some hf
    rw [Bool.or_eq_true]
    refine .inr (List.any_eq_true.2 ⟨x, hm, ?_⟩)
    have : inV f l x = true := by unfold inV; simp; omega
    rw [this]
    exact hb
theorem clash_no {V : Vw} (ho : OkV V) {f l r : Nat} (hr : r < 8) (h : f ≤ l) (hb : ∀ k, f ≤ k → k ≤ l → bothAt V r k = false) : clashV V f l r = false := by
  have hbr : bothB r = false := by
    have h0 := hb f (Nat.le_refl _) h
    unfold bothAt at h0
    cases hf : findV V f with
    | none => rw [hf] at h0; exact h0
    | some x =>
      rw [hf] at h0
      cases hc : bothB r with
      | false => rfl
      | true =>
        have h8 := (ho.pg x (findV_some hf).1).2.1
        have := (both_or ⟨r, hr⟩ ⟨x.2.1, h8⟩).2 hc
        simp only at this h0
        rw [this] at h0
        cases h0
  unfold clashV
  rw [hbr, Bool.false_or]
  cases ha : V.any fun x => inV f l x && bothB (x.2.1 ||| r) with
  | false => rfl
  | true =>
    obtain ⟨x, hm, hc⟩ := List.any_eq_true.1 ha
    rw [Bool.and_eq_true] at hc
    have hin := hc.1
    unfold inV at hin
    simp at hin
    obtain ⟨i, hi⟩ := List.mem_iff_getElem?.1 hm
    have hf := findV_at ho.nd hi rfl
    have h0 := hb x.1 hin.1 hin.2
    unfold bothAt at h0
    rw [hf] at h0
    dsimp only at h0
    rw [hc.2] at h0
    cases h0
theorem addP_new {V : Vw} {k r : Nat} (h : findV V k = none) : addP V k r = V ++ [(k, r, zs)] := by
  unfold addP
  rw [if_neg]
  intro hm
  obtain ⟨x, hx, he⟩ := List.mem_map.1 hm
  unfold findV at h
  have := List.find?_eq_none.1 h x hx
  simp [he] at this
theorem addP_old {V : Vw} (hn : (V.map (·.1)).Nodup) {i k r : Nat} {x : Pg} (hi : V[i]? = some x) (hx : x.1 = k) : addP V k r = V.set i (x.1, x.2.1 ||| r, x.2.2) := by
  unfold addP
  rw [if_pos (List.mem_map.2 ⟨x, List.mem_of_getElem? hi, hx⟩)]
  apply List.ext_getElem?
  intro j
  rw [List.getElem?_map]
  by_cases e : j = i
  · subst e
    rw [List.getElem?_set_self (List.getElem?_eq_some_iff.1 hi).1, hi]
    dsimp only [Option.map]
    rw [if_pos hx]
  · rw [List.getElem?_set_ne (Ne.symm e)]
    cases hj : V[j]? with
    | none => rfl
    | some y =>
      dsimp only [Option.map]
      rw [if_neg]
      intro hy
      have n1 : (V.map (·.1))[i]? = some x.1 := by rw [List.getElem?_map, hi]; rfl
      have n2 : (V.map (·.1))[j]? = some x.1 := by rw [List.getElem?_map, hj, hx, ← hy]; rfl
      exact e ((List.getElem?_inj (List.getElem?_eq_some_iff.1 n2).1 hn).1 (n2.trans n1.symm))
theorem mapV_snoc (r : Nat) : ∀ (c : Nat) (V : Vw) (k : Nat), mapV r V k (c + 1) = addP (mapV r V k c) (k + c) r
  | 0, V, k => rfl
  | c + 1, V, k => by
    rw [mapV, mapV_snoc r c, mapV, show k + 1 + c = k + (c + 1) by omega]
/-- What may be written by Map: the memory's own block, and rows of pages. -/
def pgS (w : World) (base g : Nat) (k : Nat) : Prop := k = g ∨ (base ≤ k ∧ ∃ c fr, w.heap[k]? = some (.cells c 62 fr))
theorem pgS_back {w wr : World} {base g k : Nat} {c : Array Value} {fr : Nat × Nat} (hb : base ≤ k) (h : Stirs (pgS w base g) w wr) (hk : wr.heap[k]? = some (.cells c 62 fr)) (hlt : k < w.heap.size) : pgS w base g k := by
  apply Classical.byContradiction
  intro hn
  have := h.block k hlt hn
  rw [hk] at this
  exact hn (.inr ⟨hb, c, fr, this.symm⟩)
section
variable {w w' : World} {base g : Nat} {lv : Value} {L : List (Pg × Value)}
/-- A row's block is one of pages. -/
theorem RefIs.rowS {wr : World} (h : RefIs wr base g lv L) (hs : Stirs (pgS w base g) w wr) : ∀ k, k < w.heap.size → lv.ownBlock = some k → pgS w base g k := by
  intro k hlt hk
  rcases h.own.2 with ⟨rfl, _⟩ | ⟨b, cap, cur, rfl, hb, hh, _⟩
  · cases hk
  · simp only [Value.ownBlock, Option.some.injEq] at hk
    subst hk
    exact pgS_back hb hs hh hlt
/-- A page's rights are others. -/
theorem RefIs.rights (h : RefIs w base g lv L) {i : Nat} {x : Pg} {bv : Value} {r : Nat} (hi : L[i]? = some (x, bv)) (hr : r < 8) (hs : Stirs (fun k => lv.ownBlock = some k) w w') (ho : OwR 3 encPg 62 w' base lv (L.set i ((x.1, r, x.2.2), bv))) : RefIs w' base g lv (L.set i ((x.1, r, x.2.2), bv)) := by
  obtain ⟨last, h1⟩ := h.hd
  have hng := ows_ne h.own h1 (by decide)
  have hx := h.ok.pg x (List.mem_map.2 ⟨(x, bv), List.mem_of_getElem? hi, rfl⟩)
  have key : ∀ (j : Nat) (y : Pg × Value), (L.set i ((x.1, r, x.2.2), bv))[j]? = some y → ∃ z : Pg × Value, L[j]? = some z ∧ z.2 = y.2 ∧ z.1.2.2 = y.1.2.2 := fun j y hy => by
    rcases set_get hy with ⟨rfl, rfl⟩ | ⟨-, h2⟩
    · exact ⟨_, hi, rfl, rfl⟩
    · exact ⟨_, h2, rfl, rfl⟩
  refine ⟨⟨last, hs.kept h1 (fun e => hng g e rfl)⟩, h.lo, ho, ?_, ?_, ?_⟩
  · intro p hp
    obtain ⟨j, hj⟩ := List.mem_iff_getElem?.1 hp
    obtain ⟨z, hz, e1, e2⟩ := key j p hj
    have h2 := h.pages z (List.mem_of_getElem? hz)
    rw [← e1, ← e2]
    exact owns_stirs h2 hs (fun k hk e => own_apart h2 h.own (by decide) hk e)
  · intro a b p q hab ha hbq k hk
    obtain ⟨p', hp', e1, -⟩ := key a p ha
    obtain ⟨q', hq', e2, -⟩ := key b q hbq
    rw [← e1] at hk
    rw [← e2]
    exact h.apart a b p' q' hab hp' hq' k hk
  · rw [List.map_set]
    exact okV_set h.ok (by rw [List.getElem?_map, hi]; rfl) hr hx.2.2
/-- One page more. -/
theorem RefIs.add {last : Nat} {lv' : Value} {k r : Nat} {bv : Value} (h : RefIs w base g lv L) (hb : base ≤ w.heap.size) (hg : w'.heap[g]? = some (.cells #[lv', .int .i64 (last : Int)] 56 (0, 0))) (ho : OwR 3 encPg 62 w' base lv' (L ++ [((k, r, zs), bv)])) (hbv : OB w' w.heap.size bv zs)
    (hp : ∀ p ∈ L, OB w' base p.2 p.1.2.2) (hk : k < 18446744073709551616) (hr : r < 8) (hn : findV (L.map (·.1)) k = none) : RefIs w' base g lv' (L ++ [((k, r, zs), bv)]) := by
  refine ⟨⟨last, hg⟩, h.lo, ho, ?_, ?_, ?_⟩
  · intro p hm
    rcases List.mem_append.1 hm with hm | hm
    · exact hp p hm
    · rw [List.mem_singleton] at hm
      subst hm
      exact OB.base hbv hb
  · intro a b p q hab ha hbq j hj
    have hal : a < L.length := by
      have := (List.getElem?_eq_some_iff.1 hbq).1
      rw [List.length_append] at this
      simp at this
      omega
    rw [List.getElem?_append_left hal] at ha
    by_cases hbl : b < L.length
    · rw [List.getElem?_append_left hbl] at hbq
      exact h.apart a b p q hab ha hbq j hj
    · rw [List.getElem?_append_right (by omega)] at hbq
      have hb0 : b - L.length = 0 := by
        have := (List.getElem?_eq_some_iff.1 hbq).1
        simp at this
        omega
      rw [hb0] at hbq
      cases hbq
      intro e
      have h1 := ows_ge hbv j e
      have h2 := ows_lt (h.pages p (List.mem_of_getElem? ha)) j hj
      omega
  · rw [List.map_append]
    refine ⟨?_, fun x hx => ?_⟩
    · rw [List.map_append]
      refine List.nodup_append.2 ⟨h.ok.nd, by simp, ?_⟩
      intro x hx y hy
      simp at hy
      subst hy
      rintro rfl
      obtain ⟨z, hz, he⟩ := List.mem_map.1 hx
      unfold findV at hn
      have := List.find?_eq_none.1 hn z hz
      simp [he] at this
    · rcases List.mem_append.1 hx with hx | hx
      · exact h.ok.pg x hx
      · simp at hx
        subst hx
        exact ⟨hk, hr, zs_len⟩
end
end Go.Proofs.Ytmpelmjhimalpaa
namespace Go.Fd
open Go.RowKit
section
variable {P : Program} {L : List Oper} {Q : Exit → Act → World → Prop} {w0 : World} {fuel i : Nat} {listed : Array Bool} {a : Act} {w : World} {o : Oper}
theorem wpOp_of_list {ops : Array Oper} {K : Act → World → Prop} (hi : ops[i]? = some o) (h : wpList P ops (Exit.then K Q) [o] a w) : wpOp P ops Q i K a w := by
  unfold wpOp
  rw [hi]
  simp only [wpList] at h
  split at h
  · next hw =>
    simp only [hw, if_true]
    rcases h with h | ⟨h1, a1, w1, h2⟩
    · left
      unfold Oper.wp at *
      generalize (execOp a.eval o).run P w = r at *
      cases r with
      | ok n w' =>
        cases n <;> simp only [Oper.upon] at h ⊢ <;>
          first
            | exact h
            | exact Calls.mono h (fun e w'' he => by
                cases e with
                | returned v => exact he
                | panicked c => exact he
                | outgrown => obtain ⟨a0, w0, h0⟩ := (he : LetsOut _); exact ⟨a0, w0, h0⟩)
      | halt x w' => cases x <;> simp only [Oper.upon] at h ⊢ <;> exact h
    · right
      exact ⟨h1, a1, w1, h2⟩
  · next hw =>
    simp only [hw]
    exact h
end
end Go.Fd
namespace Go.Fd
open Go.RowKit
section
variable {P : Program} {L : List Oper} {Q : Exit → Act → World → Prop} {S : World → Prop} {fuel i : Nat} {listed : Array Bool} {a : Act} {w : World} {o : Oper}
structure Of (S : World → Prop) where
  w : World
  h : S w
theorem heldS_quiet (hi : L[i]? = some o) (hB : (Region.noSelect L.toArray && Region.free .any L.toArray listed i && (Region.ready .any L.toArray listed).contains i) = true) (hw : Region.wanted o (yielded L.toArray a.tmps) = true) (hv : valB o = true) [_hne : Nonempty (Of S)]
    (hQ : ∀ v c a w, Q (.panic c) (a.put o.dst v) w → Q (.panic c) a w) (hb : S w)
    (h : ∀ K : Act → Prop, (∀ a, wpAnyH P .any L.toArray Q S fuel (listed.setIfInBounds i true) a w → K a) → o.quiet P a (fun w => ∃ x : Of S, w = x.w) K) : wpAnyH P .any L.toArray Q S (fuel + 1) listed a w := by
  simp only [Bool.and_eq_true] at hB
  obtain ⟨⟨h1, h2⟩, h3⟩ := hB
  obtain ⟨v, k1, k2⟩ := h (fun a => wpAnyH P .any L.toArray Q S fuel (listed.setIfInBounds i true) a w) (fun _ h => h)
  refine wpAnyH_take (i := i) (oi := o) (v := v) (by simpa using hi) h1 h2 h3 (hQ v) (.inl ⟨hw, fun w' hw' => ?_⟩) hb k2
  have := k1 w' ⟨⟨w', hw'⟩, rfl⟩
  unfold Oper.quietAt at this
  generalize hr : (execOp a.eval o).run P w' = res at this
  cases res with
  | halt x w2 => exact this.elim
  | ok n w2 =>
    obtain ⟨u, rfl⟩ := valB_spec hv hr
    obtain ⟨rfl, rfl⟩ := (this : w2 = w' ∧ u = v)
    rfl
theorem heldS_check {x : Operand} {p : Addr} (hi : L[i]? = some o) (hB : (Region.noSelect L.toArray && Region.free .any L.toArray listed i && (Region.ready .any L.toArray listed).contains i) = true) (hw : Region.wanted o (yielded L.toArray a.tmps) = true) (ho : o.op = .nilCheck x) (hp : a.eval x = .pointer (some p))
    (hQ : ∀ v c a w, Q (.panic c) (a.put o.dst v) w → Q (.panic c) a w) (hb : S w)
    (h : wpAnyH P .any L.toArray Q S fuel (listed.setIfInBounds i true) (a.put o.dst (.pointer (some p))) w) : wpAnyH P .any L.toArray Q S (fuel + 1) listed a w := by
  simp only [Bool.and_eq_true] at hB
  obtain ⟨⟨h1, h2⟩, h3⟩ := hB
  exact wpAnyH_take (i := i) (oi := o) (v := .pointer (some p)) (by simpa using hi) h1 h2 h3 (hQ _) (.inl ⟨hw, fun w' _ => by simp only [execOp, ho, hp]; rfl⟩) hb h
/-- One operation alone may come up. -/
theorem heldS_one (hr : Region.ready .any L.toArray listed = [i]) (hi : L[i]? = some o)
    (h : wpList P L.toArray (Exit.then (fun a' w' => S w' ∧ wpAnyH P .any L.toArray Q S fuel (listed.setIfInBounds i true) a' w') Q) [o] a w) : wpAnyH P .any L.toArray Q S (fuel + 1) listed a w := by
  refine wpAnyH_all hr (by simp) ?_
  intro j hj
  rw [List.mem_singleton] at hj
  subst hj
  exact wpOp_of_list (by simpa using hi) h
end
end Go.Fd
namespace Go.Fd
open Go.RowKit
theorem walk_check {P : Program} {Up : Exit → Prop} {L r : List Oper} {M : List (Nat × Yld)} {a : Act} {w0 : World} {E : Act → Prop} {i : Nat} {d : Option Tmp} {ty : TypeId} {pos : String} {aft : Array Edge} {gd : Option (Nat × Bool)} {x : Operand} {p : Addr} (hw : Region.wanted ⟨d, .nilCheck x, ty, pos, aft, gd⟩ (yielded L.toArray a.tmps) = true) (hM : madeAt M i = none) (hp : a.eval x = .pointer (some p)) (hn : walk P Up L M w0 E (i + 1) r (a.put d (.pointer (some p)))) : walk P Up L M w0 E i (⟨d, .nilCheck x, ty, pos, aft, gd⟩ :: r) a :=
  walk_val hw hM (fun w _ _ => by simp only [execOp, hp]; rfl) hn
end Go.Fd
namespace Go.Proofs.Ytmpelmjhimalpaa
open Go.RowKit Go.Fd
theorem free_rec' {w : World} {g : Nat} {cs : Array Value} {t : TypeId} (h : w.heap[g]? = some (.cells cs t (0, 0))) (c : Nat) : w.frozen? ⟨g, c, none⟩ = false := by simp [World.frozen?, h]
end Go.Proofs.Ytmpelmjhimalpaa
