/-
  A region that draws its order, walked once in the order of its list: operations that make memory, and calls, are told ahead by what they come to; all others are run where the walk stands. Behind them a tail that needs all of them.
-/
import Derived.Test.YtgknmmnffgikbaaPersL
import Derived.BigQuiet
import Derived.StillTail
namespace Go.Fd
open Go.RowKit

/-- What an operation that makes memory, or a call, comes to: a value of a shape, and what is known of it. -/
structure Yld where
  X : Type
  inh : X
  shape : X → Value
  rel : X → World → Prop
  st : ∀ x w w', rel x w → Below w.heap.size w w' → rel x w'
def Yld.R (S : Yld) (v : Value) (w : World) : Prop := ∃ x, v = S.shape x ∧ S.rel x w
/-- One value. -/
def Yld.is (c : Value) : Yld := ⟨Unit, (), fun _ => c, fun _ _ => True, fun _ _ _ _ _ => trivial⟩
/-- Some value, with something known of it. -/
def Yld.any (rel : Value → World → Prop) (st : ∀ x w w', rel x w → Below w.heap.size w w' → rel x w') : Yld := ⟨Value, undef, id, rel, st⟩
def madeAt (M : List (Nat × Yld)) (i : Nat) : Option Yld := (M.find? (fun p => p.1 == i)).map (·.2)

/-- Worlds above one. -/
structure Above (w0 : World) where
  w : World
  h : Below w0.heap.size w0 w
instance (w0 : World) : Nonempty (Above w0) := ⟨⟨w0, Below.refl _ _⟩⟩

/-- What is known of the operations that one waits for. -/
def Deps (L : List Oper) (M : List (Nat × Yld)) (a : Act) (o : Oper) (w : World) : Prop :=
  ∀ j oj d S, L[j]? = some oj → oj.dst = some d → depB o j = true → madeAt M j = some S → Region.wanted oj (yielded L.toArray a.tmps) = true → S.R (a.eval (.tmp d)) w

def WpYld (P : Program) (o : Oper) (a : Act) (S : Yld) (w : World) : Prop :=
  o.wp P a w (fun a' w' => ∃ v, a' = a.put o.dst v ∧ S.R v w' ∧ Below w.heap.size w w') (fun _ _ _ => False)

def walk (P : Program) (L : List Oper) (M : List (Nat × Yld)) (w0 : World) (E : Act → Prop) : Nat → List Oper → Act → Prop
  | _, [], a => E a
  | i, o :: r, a =>
    if Region.wanted o (yielded L.toArray a.tmps) = true then
      match madeAt M i with
      | some S => (∀ w, Below w0.heap.size w0 w → Deps L M a o w → WpYld P o a S w) ∧ ∀ x, walk P L M w0 E (i + 1) r (a.put o.dst (S.shape x))
      | none => ∃ v, (∀ w, Below w0.heap.size w0 w → Deps L M a o w → (execOp a.eval o).run P w = .ok (.value v) w) ∧ walk P L M w0 E (i + 1) r (a.put o.dst v)
    else walk P L M w0 E (i + 1) r (a.put o.dst undef)

/-- The slots that an operation looks at are those of operations that it waits for, or old ones. -/
def readsB (L H : List Oper) : Bool := H.zipIdx.all fun (o, i) =>
  (match o.op with | .select _ _ => false | _ => true) &&
  (o.looksAt L.toArray).all (fun t => oldB H i t || H.zipIdx.any fun (o', j) => o'.dst == some t && depB o j) &&
  (match o.guard with | some (g, _) => depB o g | none => true)
/-- Operation n waits for all ahead of it, and those behind it each for the one ahead. -/
def tailB (L : List Oper) (n : Nat) : Bool :=
  ((List.range n).all fun k => (match L[n]? with | some s => depB s k | none => true) || (L.take n).zipIdx.any fun (o, k') => decide (k < k') && depB o k) &&
  (L.zipIdx.all fun (o, t) => decide (t ≤ n) || depB o (t - 1)) &&
  Region.seqB .any L.toArray (L.length - n) n (List.replicate n true ++ List.replicate (L.length - n) false).toArray
def walkB (L : List Oper) (n sz : Nat) : Bool := decide (n ≤ L.length) && persB (L.take n) sz && readsB L (L.take n) && (decide (n = L.length) || tailB L n)

theorem putAll_congr {u u' : Nat → Value} : ∀ (l : List Oper) (k : Nat) (a : Act), (∀ j, k ≤ j → j < k + l.length → u j = u' j) → putAll u k l a = putAll u' k l a
  | [], _, _, _ => rfl
  | o :: r, k, a, h => by
    rw [putAll, putAll, h k (Nat.le_refl _) (by simp)]
    exact putAll_congr r (k + 1) _ fun j h1 h2 => h j (by omega) (by simp; omega)
theorem putAll_append {u : Nat → Value} : ∀ (l r : List Oper) (k : Nat) (a : Act), putAll u k (l ++ r) a = putAll u (k + l.length) r (putAll u k l a)
  | [], _, _, _ => by simp [putAll]
  | o :: l, r, k, a => by
    rw [List.cons_append, putAll, putAll, putAll_append l r (k + 1)]
    congr 1
    simp; omega

def fr (u : Nat → Value) (H : List Oper) (a0 : Act) (i : Nat) : Act := putAll u 0 (H.take i) a0
theorem fr_succ {u : Nat → Value} {H : List Oper} {a0 : Act} {i : Nat} {o : Oper} (h : H[i]? = some o) : fr u H a0 (i + 1) = (fr u H a0 i).put o.dst (u i) := by
  unfold fr
  obtain ⟨h1, h2⟩ := List.getElem?_eq_some_iff.1 h
  rw [List.take_succ_eq_append_getElem h1, putAll_append, h2, List.length_take, Nat.min_eq_left (by omega), Nat.zero_add]
  rfl
theorem fr_congr {u u' : Nat → Value} {H : List Oper} {a0 : Act} {i : Nat} (h : ∀ j, j < i → u j = u' j) : fr u H a0 i = fr u' H a0 i :=
  putAll_congr _ _ _ fun j _ hj => h j (by simp at hj; omega)
theorem fr_size (u : Nat → Value) (H : List Oper) (a0 : Act) (i : Nat) : (fr u H a0 i).tmps.size = a0.tmps.size := putAll_size _ _ _ _
theorem fr_defers (u : Nat → Value) (H : List Oper) (a0 : Act) (i : Nat) : (fr u H a0 i).defers = a0.defers := putAll_defers _ _ _ _

section
variable {P : Program} {L H : List Oper} {M : List (Nat × Yld)} {a0 : Act} {w0 : World} {E : Act → Prop}

theorem fr_new (hP : persB H a0.tmps.size = true) {u : Nat → Value} {i j : Nat} {o : Oper} {d : Nat} (ho : H[j]? = some o) (hd : o.dst = some d) (hj : j < i) : (fr u H a0 i).eval (.tmp d) = u j := by
  obtain ⟨⟨d', hd', hlt⟩, _, hu⟩ := persB_spec hP ho
  rw [hd] at hd'; cases hd'
  have := putAll_new u d 0 (H.take i) a0 j o (by rw [List.getElem?_take, if_pos hj]; exact ho) hd hlt fun j' o' h1 h2 => by
    by_cases e : j' = j
    · exact e
    · rw [List.getElem?_take] at h1
      split at h1
      · exact absurd (h2.trans hd.symm) (hu j' o' h1 e)
      · cases h1
  rwa [Nat.zero_add] at this
theorem fr_old {u : Nat → Value} {i t : Nat} (h : ∀ j o, j < i → H[j]? = some o → o.dst ≠ some t) : (fr u H a0 i).eval (.tmp t) = a0.eval (.tmp t) := by
  refine putAll_old u t 0 _ _ fun o ho => ?_
  obtain ⟨j, hj⟩ := List.getElem?_of_mem ho
  rw [List.getElem?_take] at hj
  split at hj
  · exact h j o (by assumption) hj
  · cases hj

theorem readsB_spec (hR : readsB L H = true) {i : Nat} {o : Oper} (ho : H[i]? = some o) :
    (∀ cs b, o.op ≠ .select cs b) ∧ (∀ t ∈ o.looksAt L.toArray, oldB H i t = true ∨ ∃ j oj, H[j]? = some oj ∧ oj.dst = some t ∧ depB o j = true) ∧ ∀ g b, o.guard = some (g, b) → depB o g = true := by
  unfold readsB at hR
  rw [List.all_eq_true] at hR
  have := hR (o, i) (by rw [List.mem_zipIdx_iff_getElem?]; exact ho)
  simp only [Bool.and_eq_true] at this
  obtain ⟨⟨h1, h2⟩, h3⟩ := this
  refine ⟨(fun cs b e => by rw [e] at h1; cases h1), fun t ht => ?_, (fun g b hg => by rw [hg] at h3; exact h3)⟩
  have := List.all_eq_true.1 h2 t ht
  rw [Bool.or_eq_true] at this
  rcases this with h | h
  · exact .inl h
  · obtain ⟨⟨oj, j⟩, hm, h⟩ := List.any_eq_true.1 h
    rw [List.mem_zipIdx_iff_getElem?] at hm
    simp only [Bool.and_eq_true, beq_iff_eq] at h
    exact .inr ⟨j, oj, hm, h.1, h.2⟩

theorem dep_lt (hP : persB H a0.tmps.size = true) {i j : Nat} {o : Oper} (ho : H[i]? = some o) (h : depB o j = true) : j < i := by
  obtain ⟨e, he, hon, hb⟩ := depB_of h
  have := (persB_spec hP ho).2.1 e he hb
  omega
theorem old_not (hP : persB H a0.tmps.size = true) {i j t : Nat} {o oj : Oper} (_ : H[i]? = some o) (hj : H[j]? = some oj) (hold : oldB H i t = true) (hji : j < i) : oj.dst ≠ some t := by
  unfold oldB at hold
  rw [List.all_eq_true] at hold
  have := hold (oj, j) (by rw [List.mem_zipIdx_iff_getElem?]; exact hj)
  simp only [Bool.or_eq_true, bne_iff_ne, ne_eq, beq_iff_eq] at this
  rcases this with (h | h) | h
  · exact h
  · omega
  · have := dep_lt hP hj h; omega

/-- What an operation comes to leans on the slots that it looks at alone. -/
theorem same_of_looks {o : Oper} {a b : Act} (hs : ∀ cs c, o.op ≠ .select cs c) (hz : a.tmps.size = b.tmps.size) (h : ∀ t ∈ o.looksAt L.toArray, a.eval (.tmp t) = b.eval (.tmp t)) :
    execOp a.eval o = execOp b.eval o ∧ Region.wanted o (yielded L.toArray a.tmps) = Region.wanted o (yielded L.toArray b.tmps) := by
  constructor
  · refine execOp_congr o hs fun x hx => ?_
    cases x with
    | tmp t => exact h t (List.mem_append_left _ (List.mem_filterMap.2 ⟨.tmp t, by simpa using hx, rfl⟩))
    | const v => rfl
    | global g => rfl
    | func f => rfl
  · unfold Region.wanted
    cases hg : o.guard with
    | none => rfl
    | some gw =>
      obtain ⟨g, want⟩ := gw
      have hy : yielded L.toArray a.tmps g = yielded L.toArray b.tmps g := by
        unfold yielded
        cases ht : ((L.toArray)[g]?).bind (·.dst) with
        | none => rfl
        | some t =>
          have ht' : ((L[g]?).bind fun x => x.dst) = some t := by simpa using ht
          have := h t (by simp [Oper.looksAt, hg, ht'])
          have e : a.tmps[t]? = b.tmps[t]? := by
            by_cases hlt : t < a.tmps.size
            · have hlt' : t < b.tmps.size := Nat.lt_of_lt_of_eq hlt hz
              have h2 : a.tmps.getD t undef = b.tmps.getD t undef := this
              rw [Array.getD_eq_getD_getElem?, Array.getD_eq_getD_getElem?, Array.getElem?_eq_getElem hlt, Array.getElem?_eq_getElem hlt'] at h2
              rw [Array.getElem?_eq_getElem hlt, Array.getElem?_eq_getElem hlt']
              simpa using h2
            · rw [Array.getElem?_eq_none (Nat.not_lt.1 hlt), Array.getElem?_eq_none (Nat.not_lt.1 (hz ▸ hlt))]
          simp only [Option.bind_some, e]
      simp only [hy]

structure PathP (P : Program) (L H : List Oper) (M : List (Nat × Yld)) (a0 : Act) (w0 : World) (E : Act → Prop) (p : (i : Nat) → (S : Yld) → S.X) (u : Nat → Value) : Prop where
  step : ∀ i o, H[i]? = some o →
    if Region.wanted o (yielded L.toArray (fr u H a0 i).tmps) = true then
      match madeAt M i with
      | some S => (∀ w, Below w0.heap.size w0 w → Deps L M (fr u H a0 i) o w → WpYld P o (fr u H a0 i) S w) ∧ u i = S.shape (p i S)
      | none => ∀ w, Below w0.heap.size w0 w → Deps L M (fr u H a0 i) o w → (execOp (fr u H a0 i).eval o).run P w = .ok (.value (u i)) w
    else u i = undef
  fin : E (fr u H a0 H.length)

theorem path_aux (p : (i : Nat) → (S : Yld) → S.X) : ∀ (r : List Oper) (k : Nat) (u0 : Nat → Value), H.drop k = r → k ≤ H.length → walk P L M w0 E k r (fr u0 H a0 k) →
    ∃ u, (∀ j, j < k → u j = u0 j) ∧ (∀ i o, k ≤ i → H[i]? = some o →
      if Region.wanted o (yielded L.toArray (fr u H a0 i).tmps) = true then
        match madeAt M i with
        | some S => (∀ w, Below w0.heap.size w0 w → Deps L M (fr u H a0 i) o w → WpYld P o (fr u H a0 i) S w) ∧ u i = S.shape (p i S)
        | none => ∀ w, Below w0.heap.size w0 w → Deps L M (fr u H a0 i) o w → (execOp (fr u H a0 i).eval o).run P w = .ok (.value (u i)) w
      else u i = undef) ∧ E (fr u H a0 H.length)
  | [], k, u0, hr, hk, h => by
    have : H.length ≤ k := by simpa using hr
    obtain rfl : k = H.length := by omega
    exact ⟨u0, fun _ _ => rfl, fun i o hi ho => by have := (List.getElem?_eq_some_iff.1 ho).1; omega, h⟩
  | o :: r, k, u0, hr, hk, h => by
    have ho : H[k]? = some o := by
      have : (H.drop k)[0]? = some o := by rw [hr]; rfl
      simpa using this
    have hr' : H.drop (k + 1) = r := by
      rw [← List.drop_drop, hr]; rfl
    have hk' : k + 1 ≤ H.length := (List.getElem?_eq_some_iff.1 ho).1
    have key : ∀ v, walk P L M w0 E (k + 1) r ((fr u0 H a0 k).put o.dst v) → ∃ u, (∀ j, j < k → u j = u0 j) ∧ u k = v ∧ (∀ i o, k + 1 ≤ i → H[i]? = some o →
      if Region.wanted o (yielded L.toArray (fr u H a0 i).tmps) = true then
        match madeAt M i with
        | some S => (∀ w, Below w0.heap.size w0 w → Deps L M (fr u H a0 i) o w → WpYld P o (fr u H a0 i) S w) ∧ u i = S.shape (p i S)
        | none => ∀ w, Below w0.heap.size w0 w → Deps L M (fr u H a0 i) o w → (execOp (fr u H a0 i).eval o).run P w = .ok (.value (u i)) w
      else u i = undef) ∧ E (fr u H a0 H.length) := by
      intro v hv
      have e1 : fr (fun j => if j = k then v else u0 j) H a0 k = fr u0 H a0 k := fr_congr fun j hj => by
        show (if j = k then v else u0 j) = u0 j
        rw [if_neg (by omega)]
      have e2 : fr (fun j => if j = k then v else u0 j) H a0 (k + 1) = (fr u0 H a0 k).put o.dst v := by
        rw [fr_succ ho, e1]
        simp
      obtain ⟨u, h1, h2, h3⟩ := path_aux p r (k + 1) (fun j => if j = k then v else u0 j) hr' hk' (by rw [e2]; exact hv)
      refine ⟨u, fun j hj => ?_, ?_, h2, h3⟩
      · rw [h1 j (by omega), if_neg (by omega)]
      · rw [h1 k (by omega), if_pos rfl]
    have fin : ∀ v, (∃ u, (∀ j, j < k → u j = u0 j) ∧ u k = v ∧ (∀ i o, k + 1 ≤ i → H[i]? = some o →
      if Region.wanted o (yielded L.toArray (fr u H a0 i).tmps) = true then
        match madeAt M i with
        | some S => (∀ w, Below w0.heap.size w0 w → Deps L M (fr u H a0 i) o w → WpYld P o (fr u H a0 i) S w) ∧ u i = S.shape (p i S)
        | none => ∀ w, Below w0.heap.size w0 w → Deps L M (fr u H a0 i) o w → (execOp (fr u H a0 i).eval o).run P w = .ok (.value (u i)) w
      else u i = undef) ∧ E (fr u H a0 H.length)) → (if Region.wanted o (yielded L.toArray (fr u0 H a0 k).tmps) = true then
        match madeAt M k with
        | some S => (∀ w, Below w0.heap.size w0 w → Deps L M (fr u0 H a0 k) o w → WpYld P o (fr u0 H a0 k) S w) ∧ v = S.shape (p k S)
        | none => ∀ w, Below w0.heap.size w0 w → Deps L M (fr u0 H a0 k) o w → (execOp (fr u0 H a0 k).eval o).run P w = .ok (.value v) w
      else v = undef) → ∃ u, (∀ j, j < k → u j = u0 j) ∧ (∀ i o, k ≤ i → H[i]? = some o →
      if Region.wanted o (yielded L.toArray (fr u H a0 i).tmps) = true then
        match madeAt M i with
        | some S => (∀ w, Below w0.heap.size w0 w → Deps L M (fr u H a0 i) o w → WpYld P o (fr u H a0 i) S w) ∧ u i = S.shape (p i S)
        | none => ∀ w, Below w0.heap.size w0 w → Deps L M (fr u H a0 i) o w → (execOp (fr u H a0 i).eval o).run P w = .ok (.value (u i)) w
      else u i = undef) ∧ E (fr u H a0 H.length) := by
      rintro v ⟨u, h1, h2, h3, h4⟩ hstep
      refine ⟨u, h1, fun i o' hi ho' => ?_, h4⟩
      by_cases hik : i = k
      · subst hik
        rw [ho] at ho'
        cases ho'
        rw [fr_congr (u' := u0) h1, h2]
        exact hstep
      · exact h3 i o' (by omega) ho'
    rw [walk] at h
    by_cases hw : Region.wanted o (yielded L.toArray (fr u0 H a0 k).tmps) = true
    · rw [if_pos hw] at h
      cases hM : madeAt M k with
      | some S =>
        simp only [hM] at h
        refine fin (S.shape (p k S)) (key _ (h.2 (p k S))) ?_
        rw [if_pos hw, hM]
        exact ⟨h.1, rfl⟩
      | none =>
        simp only [hM] at h
        obtain ⟨v, h1, h2⟩ := h
        refine fin v (key _ h2) ?_
        rw [if_pos hw, hM]
        exact h1
    · rw [if_neg hw] at h
      refine fin undef (key _ h) ?_
      rw [if_neg hw]

theorem path_exists (p : (i : Nat) → (S : Yld) → S.X) (h : walk P L M w0 E 0 H a0) : ∃ u, PathP P L H M a0 w0 E p u := by
  obtain ⟨u, _, h2, h3⟩ := path_aux (a0 := a0) p H 0 (fun _ => undef) rfl (Nat.zero_le _) (by unfold fr; rw [List.take_zero]; exact h)
  exact ⟨u, fun i o ho => h2 i o (Nat.zero_le _) ho, h3⟩

/-- The frames of a path at a slot that an operation looks at. -/
theorem looks_fr (hP : persB H a0.tmps.size = true) (hR : readsB L H = true) {i : Nat} {o : Oper} (ho : H[i]? = some o) {t : Nat} (ht : t ∈ o.looksAt L.toArray) :
    (oldB H i t = true ∧ ∀ u, (fr u H a0 i).eval (.tmp t) = a0.eval (.tmp t)) ∨ ∃ j oj, H[j]? = some oj ∧ oj.dst = some t ∧ depB o j = true ∧ j < i ∧ ∀ u, (fr u H a0 i).eval (.tmp t) = u j := by
  rcases (readsB_spec hR ho).2.1 t ht with h | ⟨j, oj, hj, hd, hdep⟩
  · exact .inl ⟨h, fun u => fr_old fun j oj hji hj => old_not hP ho hj h hji⟩
  · have hlt := dep_lt hP ho hdep
    exact .inr ⟨j, oj, hj, hd, hdep, hlt, fun u => fr_new hP hj hd hlt⟩

/-- Whether an operation is wanted stands from its own place on. -/
theorem wanted_later (hP : persB H a0.tmps.size = true) (hR : readsB L H = true) (hL : ∀ (i : Nat) (o : Oper), H[i]? = some o → L[i]? = some o) {u : Nat → Value} {j i : Nat} {oj : Oper} (hj : H[j]? = some oj) (hji : j ≤ i) :
    Region.wanted oj (yielded L.toArray (fr u H a0 i).tmps) = Region.wanted oj (yielded L.toArray (fr u H a0 j).tmps) := by
  unfold Region.wanted
  cases hg : oj.guard with
  | none => rfl
  | some gw =>
    obtain ⟨g, want⟩ := gw
    have hdep := (readsB_spec hR hj).2.2 g want hg
    have hlt := dep_lt hP hj hdep
    have hgl : g < H.length := by have := (List.getElem?_eq_some_iff.1 hj).1; omega
    have hog : H[g]? = some H[g] := List.getElem?_eq_getElem hgl
    obtain ⟨⟨d, hd, hdn⟩, _, _⟩ := persB_spec hP hog
    have e1 : (fr u H a0 i).eval (.tmp d) = u g := fr_new hP hog hd (by omega)
    have e2 : (fr u H a0 j).eval (.tmp d) = u g := fr_new hP hog hd hlt
    have hget : ∀ (a : Act), a.tmps.size = a0.tmps.size → a.eval (.tmp d) = u g → yielded L.toArray a.tmps g = (match some (u g) with | some (.bool b) => some b | _ => none) := by
      intro a hz he
      unfold yielded
      have h2 : a.tmps.getD d undef = u g := he
      have hlt' : d < a.tmps.size := by rw [hz]; exact hdn
      rw [Array.getD_eq_getD_getElem?, Array.getElem?_eq_getElem hlt'] at h2
      have h3 : (L.toArray)[g]? = some H[g] := by simpa using hL g _ hog
      rw [h3, Option.bind_some, hd, Option.bind_some, Array.getElem?_eq_getElem hlt']
      simp only [Option.getD_some] at h2
      rw [h2]
      rfl
    show (yielded L.toArray (fr u H a0 i).tmps g == some want) = (yielded L.toArray (fr u H a0 j).tmps g == some want)
    rw [hget _ (fr_size _ _ _ _) e1, hget _ (fr_size _ _ _ _) e2]

/-- What is known of the operations that have been carried out. -/
def Known (L H : List Oper) (M : List (Nat × Yld)) (a0 : Act) (u : Nat → Value) (D : Nat → Prop) (w : World) : Prop :=
  ∀ j oj S, D j → H[j]? = some oj → madeAt M j = some S → Region.wanted oj (yielded L.toArray (fr u H a0 j).tmps) = true → S.R (u j) w

theorem deps_of (hP : persB H a0.tmps.size = true) (hR : readsB L H = true) (hL : ∀ (i : Nat) (o : Oper), H[i]? = some o → L[i]? = some o) {u : Nat → Value} {D : Nat → Prop} {w : World} (hK : Known L H M a0 u D w) {i : Nat} {o : Oper} (ho : H[i]? = some o)
    (hD : ∀ j, depB o j = true → D j) : Deps L M (fr u H a0 i) o w := by
  intro j oj d S hj hd hdep hM hw
  have hlt := dep_lt hP ho hdep
  have hjl : j < H.length := by have := (List.getElem?_eq_some_iff.1 ho).1; omega
  have hj' : H[j]? = some oj := by
    have := hL j _ (List.getElem?_eq_getElem hjl)
    rw [hj] at this
    cases this
    exact List.getElem?_eq_getElem hjl
  rw [fr_new hP hj' hd hlt]
  exact hK j oj S (hD j hdep) hj' hM (by rw [← wanted_later hP hR hL hj' (Nat.le_of_lt hlt)]; exact hw)

/-- Two paths agree on what has been carried out. -/
theorem agree (hP : persB H a0.tmps.size = true) (hR : readsB L H = true) (hL : ∀ (i : Nat) (o : Oper), H[i]? = some o → L[i]? = some o) {p p' : (i : Nat) → (S : Yld) → S.X} {u u' : Nat → Value}
    (h : PathP P L H M a0 w0 E p u) (h' : PathP P L H M a0 w0 E p' u') {D : Nat → Prop} {w : World} (hw : Below w0.heap.size w0 w) (hcl : ∀ i o, D i → H[i]? = some o → ∀ j, depB o j = true → D j)
    (hp : ∀ i S, D i → p i S = p' i S) (hK : Known L H M a0 u D w) : ∀ i o, D i → H[i]? = some o → u i = u' i ∧ Region.wanted o (yielded L.toArray (fr u H a0 i).tmps) = Region.wanted o (yielded L.toArray (fr u' H a0 i).tmps) := by
  intro i
  induction i using Nat.strongRecOn with
  | ind i ih =>
    intro o hi ho
    have hlooks : ∀ t ∈ o.looksAt L.toArray, (fr u H a0 i).eval (.tmp t) = (fr u' H a0 i).eval (.tmp t) := fun t ht => by
      rcases looks_fr hP hR ho ht with ⟨_, he⟩ | ⟨j, oj, hj, hd, hdep, hlt, he⟩
      · rw [he u, he u']
      · rw [he u, he u']
        exact (ih j hlt oj (hcl i o hi ho j hdep) hj).1
    obtain ⟨e1, e2⟩ := same_of_looks (L := L) (readsB_spec hR ho).1 (by rw [fr_size, fr_size]) hlooks
    refine ⟨?_, e2⟩
    have s1 := h.step i o ho
    have s2 := h'.step i o ho
    rw [← e2] at s2
    by_cases hwt : Region.wanted o (yielded L.toArray (fr u H a0 i).tmps) = true
    · rw [if_pos hwt] at s1 s2
      cases hM : madeAt M i with
      | some S =>
        simp only [hM] at s1 s2
        rw [s1.2, s2.2, hp i S hi]
      | none =>
        simp only [hM] at s1 s2
        have hd1 := deps_of hP hR hL hK ho fun j hj => hcl i o hi ho j hj
        have hd2 : Deps L M (fr u' H a0 i) o w := by
          intro j oj d S hj hd hdep hMj hwj
          have hlt := dep_lt hP ho hdep
          have hjl : j < H.length := by have := (List.getElem?_eq_some_iff.1 ho).1; omega
          have hj' : H[j]? = some oj := by
            have := hL j _ (List.getElem?_eq_getElem hjl)
            rw [hj] at this
            cases this
            exact List.getElem?_eq_getElem hjl
          have hDj := hcl i o hi ho j hdep
          obtain ⟨f1, f2⟩ := ih j hlt oj hDj hj'
          rw [fr_new hP hj' hd hlt, ← f1]
          refine hK j oj S hDj hj' hMj ?_
          rw [f2, ← wanted_later hP hR hL hj' (Nat.le_of_lt hlt)]
          exact hwj
        have r1 := s1 w hw hd1
        have r2 := s2 w hw hd2
        rw [e1, r2] at r1
        injection r1 with h1 _
        injection h1 with h2
        exact h2.symm
    · rw [if_neg hwt] at s1 s2
      rw [s1, s2]

/-- What holds while the head is run. -/
structure InvW (P : Program) (L H : List Oper) (M : List (Nat × Yld)) (a0 : Act) (w0 : World) (E : Act → Prop) (listed : Array Bool) (a : Act) (w : World) : Prop where
  lsize : listed.size = L.length
  tail : ∀ t, H.length ≤ t → t < L.length → listed.getD t true = false
  below : Below w0.heap.size w0 w
  size : a.tmps.size = a0.tmps.size
  defers : a.defers = a0.defers
  old : ∀ t, (∀ i o, H[i]? = some o → listed.getD i true = true → o.dst ≠ some t) → a.eval (.tmp t) = a0.eval (.tmp t)
  closed : ∀ i o, H[i]? = some o → listed.getD i true = true → ∀ j, depB o j = true → listed.getD j true = true
  path : ∃ p u, PathP P L H M a0 w0 E p u ∧ (∀ i o d, H[i]? = some o → listed.getD i true = true → o.dst = some d → a.eval (.tmp d) = u i) ∧ Known L H M a0 u (fun i => i < H.length ∧ listed.getD i true = true) w

theorem Known.mono {u : Nat → Value} {D : Nat → Prop} {w w' : World} (h : Known L H M a0 u D w) (hb : Below w.heap.size w w') : Known L H M a0 u D w' := fun j oj S hD hj hM hw => by
  obtain ⟨x, e, hr⟩ := h j oj S hD hj hM hw
  exact ⟨x, e, S.st x w w' hr hb⟩

theorem InvW.looks (hP : persB H a0.tmps.size = true) (hR : readsB L H = true) {listed : Array Bool} {a : Act} {w : World} (h : InvW P L H M a0 w0 E listed a w) {u : Nat → Value} (hu : ∀ i o d, H[i]? = some o → listed.getD i true = true → o.dst = some d → a.eval (.tmp d) = u i)
    {i : Nat} {o : Oper} (ho : H[i]? = some o) (hl : listed.getD i true = false) (hd : ∀ j, depB o j = true → listed.getD j true = true) : ∀ t ∈ o.looksAt L.toArray, a.eval (.tmp t) = (fr u H a0 i).eval (.tmp t) := by
  intro t ht
  rcases looks_fr hP hR ho ht with ⟨hold, he⟩ | ⟨j, oj, hj, hdj, hdep, hlt, he⟩
  · rw [he u]
    refine h.old t fun k ok hk hlk e => ?_
    unfold oldB at hold
    rw [List.all_eq_true] at hold
    have := hold (ok, k) (by rw [List.mem_zipIdx_iff_getElem?]; exact hk)
    simp only [Bool.or_eq_true, bne_iff_ne, ne_eq, beq_iff_eq] at this
    rcases this with (h' | h') | h'
    · exact h' e
    · subst h'; rw [hl] at hlk; cases hlk
    · have := h.closed k ok hk hlk i h'
      rw [hl] at this; cases this
  · rw [he u]
    exact hu j oj t hj (hd j hdep) hdj

open Classical in
/-- One operation of the head. -/
theorem InvW.step (hP : persB H a0.tmps.size = true) (hR : readsB L H = true) (hL : ∀ (i : Nat) (o : Oper), H[i]? = some o → L[i]? = some o) (hW : walk P L M w0 E 0 H a0) {listed : Array Bool} {a : Act} {w : World} (h : InvW P L H M a0 w0 E listed a w)
    {i : Nat} {o : Oper} (ho : H[i]? = some o) (hl : listed.getD i true = false) (hd : ∀ j, depB o j = true → listed.getD j true = true) {K : Act → World → Prop}
    (hK : ∀ v w', InvW P L H M a0 w0 E (listed.setIfInBounds i true) (a.put o.dst v) w' → K (a.put o.dst v) w') :
    if Region.wanted o (yielded L.toArray a.tmps) = true then o.wp P a w K (fun _ _ _ => False) else K (a.put o.dst undef) w := by
  obtain ⟨⟨d, hod, hdn⟩, _, hun⟩ := persB_spec hP ho
  obtain ⟨p, u, hp, hu, hk⟩ := h.path
  have hil : i < H.length := (List.getElem?_eq_some_iff.1 ho).1
  have hiL : i < L.length := (List.getElem?_eq_some_iff.1 (hL i o ho)).1
  have hi : i < listed.size := by rw [h.lsize]; exact hiL
  obtain ⟨e1, e2⟩ := same_of_looks (L := L) (readsB_spec hR ho).1 (by rw [fr_size, h.size]) (h.looks hP hR hu ho hl hd)
  have hdeps : Deps L M (fr u H a0 i) o w := deps_of hP hR hL hk ho fun j hj => ⟨by have := dep_lt hP ho hj; omega, hd j hj⟩
  have hs := hp.step i o ho
  -- the new invariant, given a path whose value here is v
  have next : ∀ v w', Below w.heap.size w w' → (∃ p' u', PathP P L H M a0 w0 E p' u' ∧ u' i = v ∧ (∀ j oj, j < H.length → listed.getD j true = true → H[j]? = some oj → u' j = u j) ∧ Known L H M a0 u' (fun j => j < H.length ∧ (listed.setIfInBounds i true).getD j true = true) w') →
      InvW P L H M a0 w0 E (listed.setIfInBounds i true) (a.put o.dst v) w' := by
    rintro v w' hb ⟨p', u', hp', hv, hag, hk'⟩
    refine ⟨by simpa using h.lsize, fun t h1 h2 => by rw [getD_set_ne _ (by omega)]; exact h.tail t h1 h2, h.below.trans (hb.mono h.below.size), by rw [put_size]; exact h.size, by rw [put_defers]; exact h.defers, ?_, ?_, p', u', hp', ?_, hk'⟩
    · intro t ht
      rw [put_get_ne _ _ _ _ (ht i o ho (getD_set_self _ hi))]
      exact h.old t fun j oj hj hlj => ht j oj hj (getD_set_true' hlj)
    · intro j oj hj hlj k hdep
      by_cases hij : i = j
      · subst hij
        rw [ho] at hj
        cases hj
        exact getD_set_true' (hd k hdep)
      · rw [getD_set_ne _ hij] at hlj
        exact getD_set_true' (h.closed j oj hj hlj k hdep)
    · intro j oj dj hj hlj hdj
      by_cases hij : i = j
      · subst hij
        rw [ho] at hj
        cases hj
        rw [hod] at hdj
        cases hdj
        rw [hod, put_get_eq _ _ _ (by rw [h.size]; exact hdn), hv]
      · rw [getD_set_ne _ hij] at hlj
        rw [put_get_ne _ _ _ _ (fun e => hun j oj hj (Ne.symm hij) (hdj.trans e.symm)), hag j oj (List.getElem?_eq_some_iff.1 hj).1 hlj hj]
        exact hu j oj dj hj hlj hdj
  -- the path stays
  have stay : ∀ w', Below w.heap.size w w' → (∀ S, madeAt M i = some S → Region.wanted o (yielded L.toArray (fr u H a0 i).tmps) = true → S.R (u i) w') → InvW P L H M a0 w0 E (listed.setIfInBounds i true) (a.put o.dst (u i)) w' := by
    intro w' hb hmade
    refine next _ _ hb ⟨p, u, hp, rfl, fun _ _ _ _ _ => rfl, fun j oj S hj hoj hM hw => ?_⟩
    by_cases hij : i = j
    · subst hij
      rw [ho] at hoj
      cases hoj
      exact hmade S hM hw
    · obtain ⟨hj1, hj2⟩ := hj
      rw [getD_set_ne _ hij] at hj2
      exact hk.mono hb j oj S ⟨hj1, hj2⟩ hoj hM hw
  by_cases hw : Region.wanted o (yielded L.toArray (fr u H a0 i).tmps) = true
  · rw [if_pos hw] at hs
    rw [if_pos (e2.trans hw)]
    cases hM : madeAt M i with
    | none =>
      simp only [hM] at hs
      have hr := hs w h.below hdeps
      unfold Oper.wp Oper.upon
      rw [e1, hr]
      exact hK _ _ (stay w (Below.refl _ _) fun S hS => by rw [hM] at hS; cases hS)
    | some S =>
      simp only [hM] at hs
      have hwp := hs.1 w h.below hdeps
      have hwp' : o.wp P a w (fun a' w' => ∃ v, a' = a.put o.dst v ∧ S.R v w' ∧ Below w.heap.size w w') (fun _ _ _ => False) := by
        have hput : ∀ v, ∃ v', (fr u H a0 i).put o.dst v = (fr u H a0 i).put o.dst v' := fun v => ⟨v, rfl⟩
        unfold WpYld Oper.wp at hwp
        unfold Oper.wp
        rw [e1]
        generalize (execOp (fr u H a0 i).eval o).run P w = r at hwp ⊢
        have inj : ∀ {v v' : Value}, (fr u H a0 i).put o.dst v = (fr u H a0 i).put o.dst v' → v = v' := fun {v v'} e => by
          have h1 := put_get_eq (fr u H a0 i) d v (by rw [fr_size]; exact hdn)
          have h2 := put_get_eq (fr u H a0 i) d v' (by rw [fr_size]; exact hdn)
          rw [hod] at e
          rw [← h1, e, h2]
        have conv : ∀ (v : Value) (w' : World), (∃ v', (fr u H a0 i).put o.dst v = (fr u H a0 i).put o.dst v' ∧ S.R v' w' ∧ Below w.heap.size w w') → ∃ v', a.put o.dst v = a.put o.dst v' ∧ S.R v' w' ∧ Below w.heap.size w w' := by
          rintro v w' ⟨v', e, hR, hb⟩
          rw [inj e]
          exact ⟨v', rfl, hR, hb⟩
        cases r with
        | halt x w' => cases x <;> simp only [Oper.upon] at hwp ⊢
        | ok n w' =>
          cases n <;> simp only [Oper.upon] at hwp ⊢
          case value v => exact conv v w' hwp
          case skip => exact conv undef w' hwp
          case enter f args =>
            refine Calls.mono hwp fun e w'' he => ?_
            cases e with
            | returned v => exact conv v w'' he
            | panicked c => exact (he : False).elim
            | outgrown => obtain ⟨_, _, h0⟩ := (he : LetsOut _); exact (h0 : False).elim
          case row rw args =>
            exact hwp.mono fun v w'' he => conv v w'' he
          case defer dd =>
            obtain ⟨v', e, _⟩ := hwp
            have := congrArg Act.defers e
            rw [put_defers, put_defers] at this
            have := congrArg List.length this
            simp at this
      refine Oper.wp_mono (fun a' w' hq => ?_) hwp'
      obtain ⟨v, rfl, hRv, hb⟩ := hq
      obtain ⟨x, hx, hrel⟩ := hRv
      refine hK _ _ (next v w' hb ?_)
      obtain ⟨u', hp'⟩ := path_exists (a0 := a0) (fun k S' => if hh : k = i ∧ S' = S then hh.2 ▸ x else p k S') hW
      have hag := agree hP hR hL hp hp' (D := fun j => j < H.length ∧ listed.getD j true = true) (w := w) h.below (fun j oj hj hoj k hdep => ⟨by have := dep_lt hP hoj hdep; omega, h.closed j oj hoj hj.2 k hdep⟩)
        (fun j S' hj => by
          have hne : ¬ (j = i ∧ S' = S) := fun hh => by
            have := hj.2
            rw [hh.1, hl] at this
            cases this
          simp only [dif_neg hne]) hk
      have hlooks' : ∀ t ∈ o.looksAt L.toArray, (fr u H a0 i).eval (.tmp t) = (fr u' H a0 i).eval (.tmp t) := fun t ht => by
        rcases looks_fr hP hR ho ht with ⟨_, he⟩ | ⟨j, oj, hj, hdj, hdep, hlt, he⟩
        · rw [he u, he u']
        · rw [he u, he u']
          exact (hag j oj ⟨by omega, hd j hdep⟩ hj).1
      obtain ⟨-, e4⟩ := same_of_looks (L := L) (readsB_spec hR ho).1 (by rw [fr_size, fr_size]) hlooks'
      have hui : u' i = v := by
        have s := hp'.step i o ho
        rw [← e4, if_pos hw, hM] at s
        have := s.2
        rw [this, hx]
        simp
      refine ⟨_, u', hp', hui, fun j oj hj hlj hoj => ((hag j oj ⟨hj, hlj⟩ hoj).1).symm, fun j oj S' hj hoj hMj hwj => ?_⟩
      by_cases hij : i = j
      · subst hij
        rw [ho] at hoj
        cases hoj
        rw [hM] at hMj
        cases hMj
        rw [hui]
        exact ⟨x, hx, hrel⟩
      · obtain ⟨hj1, hj2⟩ := hj
        rw [getD_set_ne _ hij] at hj2
        obtain ⟨f1, f2⟩ := hag j oj ⟨hj1, hj2⟩ hoj
        rw [← f1]
        exact hk.mono hb j oj S' ⟨hj1, hj2⟩ hoj hMj (by rw [f2]; exact hwj)
  · rw [if_neg hw] at hs
    rw [if_neg (by rw [e2]; exact hw), ← hs]
    exact hK _ _ (stay w (Below.refl _ _) fun S _ hw' => absurd hw' hw)

theorem getD_tf {listed : Array Bool} {j : Nat} (h : listed.getD j false = true) : listed.getD j true = true := by
  by_cases hj : j < listed.size
  · rw [getD_lt hj]; exact h
  · simp [Array.getD_eq_getD_getElem?, Array.getElem?_eq_none (Nat.not_lt.1 hj)]

/-- What is known when the head is done. -/
def Facts (L H : List Oper) (M : List (Nat × Yld)) (a : Act) (w : World) : Prop :=
  ∀ i o d S, H[i]? = some o → o.dst = some d → madeAt M i = some S → Region.wanted o (yielded L.toArray a.tmps) = true → S.R (a.eval (.tmp d)) w

theorem InvW.done (hP : persB H a0.tmps.size = true) (hR : readsB L H = true) (hL : ∀ (i : Nat) (o : Oper), H[i]? = some o → L[i]? = some o) {listed : Array Bool} {a : Act} {w : World} (h : InvW P L H M a0 w0 E listed a w)
    (hall : ∀ i, i < H.length → listed.getD i true = true) : E a ∧ Facts L H M a w := by
  obtain ⟨p, u, hp, hu, hk⟩ := h.path
  have he : fr u H a0 H.length = a := by
    refine act_ext (by rw [fr_size, h.size]) (by rw [fr_defers, h.defers]) fun t => ?_
    by_cases ht : ∃ (i : Nat) (o : Oper), H[i]? = some o ∧ o.dst = some t
    · obtain ⟨i, o, ho, hod⟩ := ht
      have hi := (List.getElem?_eq_some_iff.1 ho).1
      rw [fr_new hP ho hod hi]
      exact (hu i o t ho (hall i hi) hod).symm
    · rw [fr_old fun j o _ ho e => ht ⟨j, o, ho, e⟩]
      exact (h.old t fun i o ho _ e => ht ⟨i, o, ho, e⟩).symm
  refine ⟨he ▸ hp.fin, fun i o d S ho hd hM hw => ?_⟩
  have hi := (List.getElem?_eq_some_iff.1 ho).1
  rw [hu i o d ho (hall i hi) hd]
  refine hk i o S ⟨hi, hall i hi⟩ ho hM ?_
  rw [← wanted_later hP hR hL ho (Nat.le_of_lt hi), he]
  exact hw

theorem seq_listed {n : Nat} {listed : Array Bool} (hn : n ≤ L.length) (hs : listed.size = L.length) (h1 : ∀ i, i < n → listed.getD i true = true) (h2 : ∀ t, n ≤ t → t < L.length → listed.getD t true = false) :
    listed = (List.replicate n true ++ List.replicate (L.length - n) false).toArray := by
  apply Array.ext
  · simp; omega
  · intro i hi1 hi2
    have e : listed.getD i true = listed[i] := by simp [Array.getD_eq_getD_getElem?, hi1]
    rw [← e]
    by_cases hin : i < n
    · rw [h1 i hin]
      simp [List.getElem_append, hin]
    · rw [h2 i (by omega) (by omega)]
      simp [List.getElem_append, hin]

theorem wpAny_walk {Q : Exit → Act → World → Prop} {n : Nat} (hH : H = L.take n) (hn : n ≤ L.length) (hP : persB H a0.tmps.size = true) (hR : readsB L H = true) (hT : n = L.length ∨ tailB L n = true) (hW : walk P L M w0 E 0 H a0)
    (hend : ∀ a w, E a → Below w0.heap.size w0 w → Facts L H M a w → wpList P L.toArray Q (L.drop n) a w) :
    ∀ (fuel : Nat) (U : List Nat) (listed : Array Bool) (a : Act) (w : World), U.Nodup → (∀ i, i ∈ U ↔ i < n ∧ listed.getD i true = false) → fuel = U.length + (L.length - n) → InvW P L H M a0 w0 E listed a w → wpAny P .any L.toArray Q fuel listed a w := by
  have hHl : H.length = n := by rw [hH]; simp; omega
  have hL : ∀ (i : Nat) (o : Oper), H[i]? = some o → L[i]? = some o := fun i o h => by
    rw [hH, List.getElem?_take] at h
    split at h
    · exact h
    · cases h
  have hLH : ∀ (i : Nat) (o : Oper), i < n → L[i]? = some o → H[i]? = some o := fun i o hi h => by
    rw [hH, List.getElem?_take, if_pos hi]; exact h
  intro fuel
  induction fuel with
  | zero =>
    intro U listed a w _ hU hf h
    have hU0 : U = [] := List.eq_nil_of_length_eq_zero (by omega)
    have hnl : n = L.length := by omega
    have hall : ∀ i, i < n → listed.getD i true = true := fun i hi => by
      cases hl : listed.getD i true with
      | true => rfl
      | false => have := (hU i).2 ⟨hi, hl⟩; rw [hU0] at this; cases this
    obtain ⟨hE, hF⟩ := h.done hP hR hL (fun i hi => hall i (by omega))
    have hq := hend a w hE h.below hF
    rw [hnl, List.drop_length] at hq
    exact ⟨ready_none fun i hi => hall i (by omega), hq⟩
  | succ fuel ih =>
    intro U listed a w hnd hU hf h
    by_cases hU0 : U = []
    · have hall : ∀ i, i < n → listed.getD i true = true := fun i hi => by
        cases hl : listed.getD i true with
        | true => rfl
        | false => have := (hU i).2 ⟨hi, hl⟩; rw [hU0] at this; cases this
      obtain ⟨hE, hF⟩ := h.done hP hR hL (fun i hi => hall i (by omega))
      have hq := hend a w hE h.below hF
      rw [hU0] at hf
      simp only [List.length_nil, Nat.zero_add] at hf
      have hT' : tailB L n = true := hT.resolve_left (by omega)
      unfold tailB at hT'
      simp only [Bool.and_eq_true] at hT'
      have hlist := seq_listed (L := L) hn h.lsize hall (fun t h1 h2 => h.tail t (by omega) h2)
      have := wpAny_of_seq (P := P) (md := .any) (ops := L.toArray) (Q' := Q) (L.drop n) n listed a w (fun j => by simp [List.getElem?_drop]) (by rw [List.length_drop, hlist]; exact hT'.2) hq
      rw [List.length_drop, ← hf] at this
      exact this
    · have hnotall : ¬ ∀ i, i < n → listed.getD i true = true := fun hall => by
        obtain ⟨x, hx⟩ := List.exists_mem_of_ne_nil _ hU0
        have := (hU x).1 hx
        rw [hall x this.1] at this
        exact absurd this.2 (by decide)
      refine ⟨fun hr => ?_, fun i hi => ?_⟩
      · exfalso
        refine hnotall fun i => ?_
        induction i using Nat.strongRecOn with
        | ind i ihi =>
          intro hi
          cases hl : listed.getD i true with
          | true => rfl
          | false =>
            have ho : H[i]? = some (H[i]'(by omega)) := List.getElem?_eq_getElem _
            obtain ⟨_, h2, _⟩ := persB_spec hP ho
            have : i ∈ Region.ready .any L.toArray listed := by
              rw [mem_ready]
              refine ⟨hl, _, by simpa using hL i _ ho, fun e he hb => ?_⟩
              have hlt := h2 e he hb
              rw [← getD_lt (by rw [h.lsize]; omega)]
              exact ihi e.on hlt (by omega)
            rw [hr] at this
            cases this
      rw [mem_ready] at hi
      obtain ⟨hl, o, ho, hdeps⟩ := hi
      have hoL : L[i]? = some o := by simpa using ho
      have hiL : i < L.length := (List.getElem?_eq_some_iff.1 hoL).1
      have hd : ∀ j, depB o j = true → listed.getD j true = true := fun j hj => by
        obtain ⟨e, he, hon, hb⟩ := depB_of hj
        have := hdeps e he hb
        rw [hon] at this
        exact getD_tf this
      by_cases hin : i < n
      · have ho' := hLH i o hin hoL
        have hs := h.step hP hR hL hW ho' hl hd (K := wpAny P .any L.toArray Q fuel (listed.setIfInBounds i true)) (fun v w' hinv => by
          refine ih (U.erase i) _ _ _ (hnd.erase i) (fun j => ?_) ?_ hinv
          · rw [hnd.mem_erase_iff, hU j]
            constructor
            · rintro ⟨h1, h2, h3⟩
              exact ⟨h2, by rw [getD_set_ne _ (Ne.symm h1)]; exact h3⟩
            · rintro ⟨h1, h2⟩
              have hne : j ≠ i := by
                rintro rfl
                rw [getD_set_self _ (by rw [h.lsize]; exact hiL)] at h2; cases h2
              rw [getD_set_ne _ (Ne.symm hne)] at h2
              exact ⟨hne, h1, h2⟩
          · have hm := (hU i).2 ⟨hin, hl⟩
            have := List.length_pos_of_mem hm
            rw [List.length_erase_of_mem hm]
            omega)
        unfold wpOp
        rw [ho]
        simp only
        split at hs
        · next hw => rw [if_pos hw]; exact .inl (oper_wp_any hs)
        · next hw => rw [if_neg hw]; exact hs
      · exfalso
        have hT' : tailB L n = true := hT.resolve_left (by omega)
        unfold tailB at hT'
        simp only [Bool.and_eq_true] at hT'
        obtain ⟨⟨hT1, hT2⟩, _⟩ := hT'
        by_cases hni : i = n
        · subst hni
          refine hnotall ?_
          have key : ∀ m k, i - k = m → k < i → listed.getD k true = true := by
            intro m
            induction m using Nat.strongRecOn with
            | ind m ihm =>
              intro k hm hk
              have := List.all_eq_true.1 hT1 k (List.mem_range.2 hk)
              rw [Bool.or_eq_true, hoL] at this
              rcases this with h1 | h1
              · exact hd k h1
              · obtain ⟨⟨o', k'⟩, hm', h2⟩ := List.any_eq_true.1 h1
                simp only [Bool.and_eq_true, decide_eq_true_eq] at h2
                rw [List.mem_zipIdx_iff_getElem?, ← hH] at hm'
                have hk' := (List.getElem?_eq_some_iff.1 hm').1
                exact h.closed k' o' hm' (ihm (i - k') (by omega) k' rfl (by omega)) k h2.2
          exact fun k hk => key _ k rfl hk
        · have := List.all_eq_true.1 hT2 (o, i) (by rw [List.mem_zipIdx_iff_getElem?]; exact hoL)
          simp only [Bool.or_eq_true, decide_eq_true_eq] at this
          rcases this with h1 | h1
          · omega
          · have h2 := hd _ h1
            rw [h.tail (i - 1) (by omega) (by omega)] at h2
            cases h2

/-- THE LAW: n operations in whatever order, walked in the list's order; the rest behind them. -/
theorem wp_region_walk {id : Nat} {Q : Exit → Act → World → Prop} (n : Nat) (M : List (Nat × Yld)) (hm : P.follows .mixedOrders = true) (hB : walkB L n a0.tmps.size = true)
    (h : walk P L M w0 (fun a => ∀ w, Below w0.heap.size w0 w → Facts L (L.take n) M a w → wpList P L.toArray Q (L.drop n) a w) 0 (L.take n) a0) : (Code.region id L.toArray true).wp P Q a0 w0 := by
  unfold walkB at hB
  simp only [Bool.and_eq_true, Bool.or_eq_true, decide_eq_true_eq] at hB
  obtain ⟨⟨⟨hn, hP⟩, hR⟩, hT⟩ := hB
  refine wp_region_any hm ?_
  have hf : ∀ i, i < L.length → (Array.replicate L.toArray.size false).getD i true = false := fun i hi => by
    rw [Array.getD_eq_getD_getElem?, Array.getElem?_eq_getElem (by simpa using hi)]
    simp
  have hHl : (L.take n).length = n := by simp; omega
  obtain ⟨u, hu⟩ := path_exists (a0 := a0) (fun _ S => S.inh) h
  refine wpAny_walk (w0 := w0) rfl hn hP hR hT h (fun a w hE hb hF => hE w hb hF) _ (List.range n) _ _ _ List.nodup_range (fun i => ?_) (by simp; omega) ?_
  · rw [List.mem_range]
    exact ⟨fun hi => ⟨hi, hf i (by omega)⟩, fun hi => hi.1⟩
  · refine ⟨by simp, fun t _ ht => hf t ht, ⟨rfl, rfl, rfl, Nat.le_refl _, fun _ _ => rfl⟩, rfl, rfl, fun t _ => rfl, fun i o ho hl => ?_, _, u, hu, fun i o d ho hl => ?_, fun j oj S hj => ?_⟩
    · have := (List.getElem?_eq_some_iff.1 ho).1
      rw [hf i (by omega)] at hl; cases hl
    · have := (List.getElem?_eq_some_iff.1 ho).1
      rw [hf i (by omega)] at hl; cases hl
    · have := hj.2
      rw [hf j (by omega)] at this; cases this
end
end Go.Fd
