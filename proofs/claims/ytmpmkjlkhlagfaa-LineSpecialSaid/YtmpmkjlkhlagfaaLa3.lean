/-
  Part 3 of 4: laws and walks for line_all; no condition of its own.
-/
import Derived.Test.YtmpmkjlkhlagfaaLa2
import Derived.OrdersHeld
import Derived.Deep.DeepCutAuto
import Derived.Deep.MidRow
import Derived.Recover
import Derived.Laws.ResultCell
namespace Go.Fd
open Go.RowKit
/-- What is known of the worlds of a region: I t w when t of the writing operations C are done; T: what each step keeps; Up: what may go up. -/
structure Ph where
  I : Nat → World → Prop
  T : World → World → Prop
  C : List Nat
  Up : Exit → World → Prop
structure Ph.Ok (F : Ph) : Prop where
  iB : ∀ t w w', F.I t w → Below w.heap.size w w' → F.I t w'
  tB : ∀ w w', Below w.heap.size w w' → F.T w w'
structure YldT (F : Ph) where
  X : Type
  inh : X
  shape : X → Value
  rel : X → World → Prop
  st : ∀ x w w', rel x w → F.T w w' → rel x w'
def YldT.R {F : Ph} (S : YldT F) (v : Value) (w : World) : Prop := ∃ x, v = S.shape x ∧ S.rel x w
def YldT.is (F : Ph) (c : Value) : YldT F := ⟨Unit, (), fun _ => c, fun _ _ => True, fun _ _ _ _ _ => trivial⟩
def madeT {F : Ph} (M : List (Nat × YldT F)) (i : Nat) : Option (YldT F) := (M.find? (fun p => p.1 == i)).map (·.2)
def DepsT {F : Ph} (L : List Oper) (M : List (Nat × YldT F)) (a : Act) (o : Oper) (w : World) : Prop :=
  ∀ j oj d S, L[j]? = some oj → oj.dst = some d → depB o j = true → madeT M j = some S → Region.wanted oj (yielded L.toArray a.tmps) = true → S.R (a.eval (.tmp d)) w
def UpsT (F : Ph) (d : List Deferred) (x : Exit) (a : Act) (w' : World) : Prop := F.Up x w' ∧ a.defers = d
def WpT (P : Program) (F : Ph) (t' : Nat) (o : Oper) (a : Act) (S : YldT F) (w : World) : Prop :=
  o.wp P a w (fun a' w' => ∃ v, a' = a.put o.dst v ∧ S.R v w' ∧ F.T w w' ∧ F.I t' w') (UpsT F a.defers)
/-- May operation i be run when t are done? How many are done then? -/
def phI (C : List Nat) (i t : Nat) : Prop := i ∈ C → C[t]? = some i
def nxI (C : List Nat) (i t : Nat) : Nat := if i ∈ C then t + 1 else t
def walkT (P : Program) (F : Ph) (L : List Oper) (M : List (Nat × YldT F)) (E : Act → Prop) : Nat → List Oper → Act → Prop
  | _, [], a => E a
  | i, o :: r, a =>
    if Region.wanted o (yielded L.toArray a.tmps) = true then
      match madeT M i with
      | some S => (∀ t w, phI F.C i t → F.I t w → DepsT L M a o w → WpT P F (nxI F.C i t) o a S w) ∧ ∀ x, walkT P F L M E (i + 1) r (a.put o.dst (S.shape x))
      | none => i ∉ F.C ∧ ∃ v, (∀ t w, F.I t w → DepsT L M a o w → (execOp a.eval o).run P w = .ok (.value v) w) ∧ walkT P F L M E (i + 1) r (a.put o.dst v)
    else i ∉ F.C ∧ walkT P F L M E (i + 1) r (a.put o.dst undef)
/-- The writing operations lie in the head, each waits for the one ahead. -/
def chainB (L : List Oper) (n : Nat) : List Nat → Bool
  | [] => true
  | [c] => decide (c < n)
  | c :: d :: r => decide (c < d) && (match L[d]? with | some o => depB o c | none => false) && decide (c < n) && chainB L n (d :: r)
/-- How many are done. -/
def cntI (C : List Nat) (listed : Array Bool) : Nat := (C.filter fun c => listed.getD c true).length
theorem chain_spec {L : List Oper} {n : Nat} : ∀ {C : List Nat}, chainB L n C = true → (∀ (t c d : Nat), C[t]? = some c → C[t + 1]? = some d → c < d ∧ ∃ o, L[d]? = some o ∧ depB o c = true) ∧ ∀ (t c : Nat), C[t]? = some c → c < n
  | [], _ => ⟨(fun t c d h => by simp at h), (fun t c h => by simp at h)⟩
  | [c], h => ⟨(fun t x d h1 h2 => by simp at h2), (fun t x h1 => by
      have hc : c < n := by simpa [chainB] using h
      cases t with
      | zero => simp at h1; subst h1; exact hc
      | succ t => simp at h1)⟩
  | c :: d :: r, h => by
    rw [chainB] at h
    simp only [Bool.and_eq_true, decide_eq_true_eq] at h
    obtain ⟨⟨⟨h1, h2⟩, h3⟩, h4⟩ := h
    obtain ⟨i1, i2⟩ := chain_spec h4
    refine ⟨fun t x y hx hy => ?_, fun t x hx => ?_⟩
    · cases t with
      | zero =>
        simp at hx hy
        subst hx hy
        refine ⟨h1, ?_⟩
        cases hl : L[d]? with
        | none => rw [hl] at h2; cases h2
        | some o => rw [hl] at h2; exact ⟨o, rfl, h2⟩
      | succ t => exact i1 t x y (by simpa using hx) (by simpa using hy)
    · cases t with
      | zero => simp at hx; subst hx; exact h3
      | succ t => exact i2 t x (by simpa using hx)
theorem chain_lt {L : List Oper} {n : Nat} {C : List Nat} (h : chainB L n C = true) : ∀ (k s : Nat) {c d : Nat}, C[s]? = some c → C[s + k + 1]? = some d → c < d
  | 0, s, c, d, hc, hd => ((chain_spec h).1 s c d hc hd).1
  | k + 1, s, c, d, hc, hd => by
    have hlt : s + k + 1 + 1 < C.length := (List.getElem?_eq_some_iff.1 hd).1
    have he : C[s + k + 1]? = some (C[s + k + 1]'(by omega)) := List.getElem?_eq_getElem _
    exact Nat.lt_trans (chain_lt h k s hc he) (((chain_spec h).1 (s + k + 1) _ d he hd).1)
section
variable {P : Program} {F : Ph} {L H : List Oper} {M : List (Nat × YldT F)} {a0 : Act} {E : Act → Prop}
/-- What is listed is shut under what is waited for. -/
def ShutL (H : List Oper) (listed : Array Bool) : Prop := ∀ i o, H[i]? = some o → listed.getD i true = true → ∀ j, depB o j = true → listed.getD j true = true
theorem chain_down {C : List Nat} {listed : Array Bool} (hc : chainB H H.length C = true) (hs : ShutL H listed) : ∀ (k s : Nat) {c d : Nat}, C[s]? = some c → C[s + k]? = some d → listed.getD d true = true → listed.getD c true = true
  | 0, s, c, d, h1, h2, h => by
    rw [Nat.add_zero, h1] at h2
    cases h2
    exact h
  | k + 1, s, c, d, h1, h2, h => by
    have hlt : s + (k + 1) < C.length := (List.getElem?_eq_some_iff.1 h2).1
    have he : C[s + k]? = some (C[s + k]'(by omega)) := List.getElem?_eq_getElem _
    obtain ⟨_, o, ho, hd⟩ := (chain_spec hc).1 (s + k) _ d he (by rw [Nat.add_assoc]; exact h2)
    exact chain_down hc hs k s h1 he (hs d o ho h _ hd)
theorem cnt_at {C : List Nat} {listed : Array Bool} (hc : chainB H H.length C = true) (hs : ShutL H listed) {t i : Nat} {o : Oper} (ht : C[t]? = some i) (ho : H[i]? = some o) (hl : listed.getD i true = false) (hd : ∀ j, depB o j = true → listed.getD j true = true) :
    cntI C listed = t ∧ (∀ (s c : Nat), s < t → C[s]? = some c → listed.getD c true = true) ∧ ∀ (s c : Nat), t ≤ s → C[s]? = some c → listed.getD c true = false := by
  have h1 : ∀ (s c : Nat), s < t → C[s]? = some c → listed.getD c true = true := fun s c hst hsc => by
    obtain ⟨k, rfl⟩ : ∃ k, t = s + k + 1 := ⟨t - s - 1, by omega⟩
    have hlt : s + k + 1 < C.length := (List.getElem?_eq_some_iff.1 ht).1
    have he : C[s + k]? = some (C[s + k]'(by omega)) := List.getElem?_eq_getElem _
    obtain ⟨_, o', ho', hd'⟩ := (chain_spec hc).1 (s + k) _ i he ht
    rw [ho] at ho'
    cases ho'
    exact chain_down hc hs k s hsc he (hd _ hd')
  have h2 : ∀ (s c : Nat), t ≤ s → C[s]? = some c → listed.getD c true = false := fun s c hts hsc => by
    cases hlc : listed.getD c true with
    | false => rfl
    | true =>
      obtain ⟨k, rfl⟩ : ∃ k, s = t + k := ⟨s - t, by omega⟩
      rw [chain_down hc hs k t ht hsc hlc] at hl
      cases hl
  refine ⟨?_, h1, h2⟩
  have htl : t ≤ C.length := Nat.le_of_lt (List.getElem?_eq_some_iff.1 ht).1
  unfold cntI
  rw [← List.take_append_drop t C, List.filter_append, List.filter_eq_self.2 (fun x hx => ?_), List.filter_eq_nil_iff.2 (fun x hx => ?_), List.append_nil, List.length_take]
  · omega
  · obtain ⟨s, hs'⟩ := List.mem_iff_getElem?.1 hx
    rw [List.getElem?_drop] at hs'
    rw [h2 (t + s) x (by omega) hs']
    decide
  · obtain ⟨s, hs'⟩ := List.mem_iff_getElem?.1 hx
    rw [List.getElem?_take] at hs'
    split at hs'
    · next hst => exact h1 s x hst hs'
    · cases hs'
theorem cnt_next {C : List Nat} {listed : Array Bool} (hc : chainB H H.length C = true) (hs : ShutL H listed) {i : Nat} {o : Oper} (ho : H[i]? = some o) (hi : i < listed.size) (hl : listed.getD i true = false) (hd : ∀ j, depB o j = true → listed.getD j true = true) :
    phI C i (cntI C listed) ∧ cntI C (listed.setIfInBounds i true) = nxI C i (cntI C listed) := by
  by_cases hm : i ∈ C
  · obtain ⟨t, ht⟩ := List.mem_iff_getElem?.1 hm
    obtain ⟨e, h1, h2⟩ := cnt_at hc hs ht ho hl hd
    refine ⟨fun _ => by rw [e]; exact ht, ?_⟩
    unfold nxI
    rw [if_pos hm, e]
    have htl : t < C.length := (List.getElem?_eq_some_iff.1 ht).1
    unfold cntI
    rw [← List.take_append_drop (t + 1) C, List.filter_append, List.filter_eq_self.2 (fun x hx => ?_), List.filter_eq_nil_iff.2 (fun x hx => ?_), List.append_nil, List.length_take]
    · omega
    · obtain ⟨s, hs'⟩ := List.mem_iff_getElem?.1 hx
      rw [List.getElem?_drop] at hs'
      have hne : i ≠ x := fun h => by
        have := chain_lt hc s t ht (by rw [show t + s + 1 = t + 1 + s by omega]; exact hs')
        omega
      rw [getD_set_ne _ hne, h2 (t + 1 + s) x (by omega) hs']
      decide
    · obtain ⟨s, hs'⟩ := List.mem_iff_getElem?.1 hx
      rw [List.getElem?_take] at hs'
      split at hs'
      · next hst =>
        by_cases hsx : s = t
        · subst hsx
          rw [ht] at hs'
          cases hs'
          exact getD_set_self _ hi
        · exact getD_set_true' (h1 s x (by omega) hs')
      · cases hs'
  · refine ⟨fun h => absurd h hm, ?_⟩
    unfold nxI cntI
    rw [if_neg hm]
    congr 1
    refine List.filter_congr fun x hx => ?_
    rw [getD_set_ne _ (by intro h; exact hm (by rw [h]; exact hx))]
structure PathT (P : Program) (F : Ph) (L H : List Oper) (M : List (Nat × YldT F)) (a0 : Act) (E : Act → Prop) (p : (i : Nat) → (S : YldT F) → S.X) (u : Nat → Value) : Prop where
  step : ∀ i o, H[i]? = some o →
    if Region.wanted o (yielded L.toArray (fr u H a0 i).tmps) = true then
      match madeT M i with
      | some S => (∀ t w, phI F.C i t → F.I t w → DepsT L M (fr u H a0 i) o w → WpT P F (nxI F.C i t) o (fr u H a0 i) S w) ∧ u i = S.shape (p i S)
      | none => i ∉ F.C ∧ ∀ t w, F.I t w → DepsT L M (fr u H a0 i) o w → (execOp (fr u H a0 i).eval o).run P w = .ok (.value (u i)) w
    else i ∉ F.C ∧ u i = undef
  fin : E (fr u H a0 H.length)
theorem pathT_aux (p : (i : Nat) → (S : YldT F) → S.X) : ∀ (r : List Oper) (k : Nat) (u0 : Nat → Value), H.drop k = r → k ≤ H.length → walkT P F L M E k r (fr u0 H a0 k) →
    ∃ u, (∀ j, j < k → u j = u0 j) ∧ (∀ i o, k ≤ i → H[i]? = some o →
      if Region.wanted o (yielded L.toArray (fr u H a0 i).tmps) = true then
        match madeT M i with
        | some S => (∀ t w, phI F.C i t → F.I t w → DepsT L M (fr u H a0 i) o w → WpT P F (nxI F.C i t) o (fr u H a0 i) S w) ∧ u i = S.shape (p i S)
        | none => i ∉ F.C ∧ ∀ t w, F.I t w → DepsT L M (fr u H a0 i) o w → (execOp (fr u H a0 i).eval o).run P w = .ok (.value (u i)) w
      else i ∉ F.C ∧ u i = undef) ∧ E (fr u H a0 H.length)
  | [], k, u0, hr, hk, h => by
    have : H.length ≤ k := by simpa using hr
    obtain rfl : k = H.length := by omega
    exact ⟨u0, fun _ _ => rfl, fun i o hi ho => by have := (List.getElem?_eq_some_iff.1 ho).1; omega, h⟩
  | o :: r, k, u0, hr, hk, h => by
    have ho : H[k]? = some o := by
      have : (H.drop k)[0]? = some o := by rw [hr]; rfl
      simpa using this
    have hr' : H.drop (k + 1) = r := by
      rw [← List.drop_drop, hr]; rfl
    have hk' : k + 1 ≤ H.length := (List.getElem?_eq_some_iff.1 ho).1
    have key : ∀ v, walkT P F L M E (k + 1) r ((fr u0 H a0 k).put o.dst v) → ∃ u, (∀ j, j < k → u j = u0 j) ∧ u k = v ∧ (∀ i o, k + 1 ≤ i → H[i]? = some o →
      if Region.wanted o (yielded L.toArray (fr u H a0 i).tmps) = true then
        match madeT M i with
        | some S => (∀ t w, phI F.C i t → F.I t w → DepsT L M (fr u H a0 i) o w → WpT P F (nxI F.C i t) o (fr u H a0 i) S w) ∧ u i = S.shape (p i S)
        | none => i ∉ F.C ∧ ∀ t w, F.I t w → DepsT L M (fr u H a0 i) o w → (execOp (fr u H a0 i).eval o).run P w = .ok (.value (u i)) w
      else i ∉ F.C ∧ u i = undef) ∧ E (fr u H a0 H.length) := by
      intro v hv
      have e1 : fr (fun j => if j = k then v else u0 j) H a0 k = fr u0 H a0 k := fr_congr fun j hj => by
        show (if j = k then v else u0 j) = u0 j
        rw [if_neg (by omega)]
      have e2 : fr (fun j => if j = k then v else u0 j) H a0 (k + 1) = (fr u0 H a0 k).put o.dst v := by
        rw [fr_succ ho, e1]
        simp
      obtain ⟨u, h1, h2, h3⟩ := pathT_aux p r (k + 1) (fun j => if j = k then v else u0 j) hr' hk' (by rw [e2]; exact hv)
      refine ⟨u, fun j hj => ?_, ?_, h2, h3⟩
      · rw [h1 j (by omega), if_neg (by omega)]
      · rw [h1 k (by omega), if_pos rfl]
    have fin : ∀ v, (∃ u, (∀ j, j < k → u j = u0 j) ∧ u k = v ∧ (∀ i o, k + 1 ≤ i → H[i]? = some o →
      if Region.wanted o (yielded L.toArray (fr u H a0 i).tmps) = true then
        match madeT M i with
        | some S => (∀ t w, phI F.C i t → F.I t w → DepsT L M (fr u H a0 i) o w → WpT P F (nxI F.C i t) o (fr u H a0 i) S w) ∧ u i = S.shape (p i S)
        | none => i ∉ F.C ∧ ∀ t w, F.I t w → DepsT L M (fr u H a0 i) o w → (execOp (fr u H a0 i).eval o).run P w = .ok (.value (u i)) w
      else i ∉ F.C ∧ u i = undef) ∧ E (fr u H a0 H.length)) → (if Region.wanted o (yielded L.toArray (fr u0 H a0 k).tmps) = true then
        match madeT M k with
        | some S => (∀ t w, phI F.C k t → F.I t w → DepsT L M (fr u0 H a0 k) o w → WpT P F (nxI F.C k t) o (fr u0 H a0 k) S w) ∧ v = S.shape (p k S)
        | none => k ∉ F.C ∧ ∀ t w, F.I t w → DepsT L M (fr u0 H a0 k) o w → (execOp (fr u0 H a0 k).eval o).run P w = .ok (.value v) w
      else k ∉ F.C ∧ v = undef) → ∃ u, (∀ j, j < k → u j = u0 j) ∧ (∀ i o, k ≤ i → H[i]? = some o →
      if Region.wanted o (yielded L.toArray (fr u H a0 i).tmps) = true then
        match madeT M i with
        | some S => (∀ t w, phI F.C i t → F.I t w → DepsT L M (fr u H a0 i) o w → WpT P F (nxI F.C i t) o (fr u H a0 i) S w) ∧ u i = S.shape (p i S)
        | none => i ∉ F.C ∧ ∀ t w, F.I t w → DepsT L M (fr u H a0 i) o w → (execOp (fr u H a0 i).eval o).run P w = .ok (.value (u i)) w
      else i ∉ F.C ∧ u i = undef) ∧ E (fr u H a0 H.length) := by
      rintro v ⟨u, h1, h2, h3, h4⟩ hstep
      refine ⟨u, h1, fun i o' hi ho' => ?_, h4⟩
      by_cases hik : i = k
      · subst hik
        rw [ho] at ho'
        cases ho'
        rw [fr_congr (u' := u0) h1, h2]
        exact hstep
      · exact h3 i o' (by omega) ho'
    rw [walkT] at h
    by_cases hw : Region.wanted o (yielded L.toArray (fr u0 H a0 k).tmps) = true
    · rw [if_pos hw] at h
      cases hM : madeT M k with
      | some S =>
        simp only [hM] at h
        refine fin (S.shape (p k S)) (key _ (h.2 (p k S))) ?_
        rw [if_pos hw, hM]
        exact ⟨h.1, rfl⟩
      | none =>
        simp only [hM] at h
        obtain ⟨hc, v, h1, h2⟩ := h
        refine fin v (key _ h2) ?_
        rw [if_pos hw, hM]
        exact ⟨hc, h1⟩
    · rw [if_neg hw] at h
      refine fin undef (key _ h.2) ?_
      rw [if_neg hw]
      exact ⟨h.1, rfl⟩
theorem pathT_exists (p : (i : Nat) → (S : YldT F) → S.X) (h : walkT P F L M E 0 H a0) : ∃ u, PathT P F L H M a0 E p u := by
  obtain ⟨u, _, h2, h3⟩ := pathT_aux (a0 := a0) p H 0 (fun _ => undef) rfl (Nat.zero_le _) (by unfold fr; rw [List.take_zero]; exact h)
  exact ⟨u, fun i o ho => h2 i o (Nat.zero_le _) ho, h3⟩
/-- What is known of the operations that have been carried out. -/
def KnownT {F : Ph} (L H : List Oper) (M : List (Nat × YldT F)) (a0 : Act) (u : Nat → Value) (D : Nat → Prop) (w : World) : Prop :=
  ∀ j oj S, D j → H[j]? = some oj → madeT M j = some S → Region.wanted oj (yielded L.toArray (fr u H a0 j).tmps) = true → S.R (u j) w
theorem depsT_of (hP : persB H a0.tmps.size = true) (hR : readsB L H = true) (hL : ∀ (i : Nat) (o : Oper), H[i]? = some o → L[i]? = some o) {u : Nat → Value} {D : Nat → Prop} {w : World} (hK : KnownT L H M a0 u D w) {i : Nat} {o : Oper} (ho : H[i]? = some o)
    (hD : ∀ j, depB o j = true → D j) : DepsT L M (fr u H a0 i) o w := by
  intro j oj d S hj hd hdep hM hw
  have hlt := dep_lt hP ho hdep
  have hjl : j < H.length := by have := (List.getElem?_eq_some_iff.1 ho).1; omega
  have hj' : H[j]? = some oj := by
    have := hL j _ (List.getElem?_eq_getElem hjl)
    rw [hj] at this
    cases this
    exact List.getElem?_eq_getElem hjl
  rw [fr_new hP hj' hd hlt]
  exact hK j oj S (hD j hdep) hj' hM (by rw [← wanted_later hP hR hL hj' (Nat.le_of_lt hlt)]; exact hw)
/-- Two paths agree on what has been carried out. -/
theorem agreeT (hP : persB H a0.tmps.size = true) (hR : readsB L H = true) (hL : ∀ (i : Nat) (o : Oper), H[i]? = some o → L[i]? = some o) {p p' : (i : Nat) → (S : YldT F) → S.X} {u u' : Nat → Value}
    (h : PathT P F L H M a0 E p u) (h' : PathT P F L H M a0 E p' u') {D : Nat → Prop} {w : World} {ph : Nat} (hw : F.I ph w) (hcl : ∀ i o, D i → H[i]? = some o → ∀ j, depB o j = true → D j)
    (hp : ∀ i S, D i → p i S = p' i S) (hK : KnownT L H M a0 u D w) : ∀ i o, D i → H[i]? = some o → u i = u' i ∧ Region.wanted o (yielded L.toArray (fr u H a0 i).tmps) = Region.wanted o (yielded L.toArray (fr u' H a0 i).tmps) := by
  intro i
  induction i using Nat.strongRecOn with
  | ind i ih =>
    intro o hi ho
    have hlooks : ∀ t ∈ o.looksAt L.toArray, (fr u H a0 i).eval (.tmp t) = (fr u' H a0 i).eval (.tmp t) := fun t ht => by
      rcases looks_fr hP hR ho ht with ⟨_, he⟩ | ⟨j, oj, hj, hd, hdep, hlt, he⟩
      · rw [he u, he u']
      · rw [he u, he u']
        exact (ih j hlt oj (hcl i o hi ho j hdep) hj).1
    obtain ⟨e1, e2⟩ := same_of_looks (L := L) (readsB_spec hR ho).1 (by rw [fr_size, fr_size]) hlooks
    refine ⟨?_, e2⟩
    have s1 := h.step i o ho
    have s2 := h'.step i o ho
    rw [← e2] at s2
    by_cases hwt : Region.wanted o (yielded L.toArray (fr u H a0 i).tmps) = true
    · rw [if_pos hwt] at s1 s2
      cases hM : madeT M i with
      | some S =>
        simp only [hM] at s1 s2
        rw [s1.2, s2.2, hp i S hi]
      | none =>
        simp only [hM] at s1 s2
        have hd1 := depsT_of hP hR hL hK ho fun j hj => hcl i o hi ho j hj
        have hd2 : DepsT L M (fr u' H a0 i) o w := by
          intro j oj d S hj hd hdep hMj hwj
          have hlt := dep_lt hP ho hdep
          have hjl : j < H.length := by have := (List.getElem?_eq_some_iff.1 ho).1; omega
          have hj' : H[j]? = some oj := by
            have := hL j _ (List.getElem?_eq_getElem hjl)
            rw [hj] at this
            cases this
            exact List.getElem?_eq_getElem hjl
          have hDj := hcl i o hi ho j hdep
          obtain ⟨f1, f2⟩ := ih j hlt oj hDj hj'
          rw [fr_new hP hj' hd hlt, ← f1]
          refine hK j oj S hDj hj' hMj ?_
          rw [f2, ← wanted_later hP hR hL hj' (Nat.le_of_lt hlt)]
          exact hwj
        have r1 := s1.2 ph w hw hd1
        have r2 := s2.2 ph w hw hd2
        rw [e1, r2] at r1
        injection r1 with h1 _
        injection h1 with h2
        exact h2.symm
    · rw [if_neg hwt] at s1 s2
      rw [s1.2, s2.2]
/-- What holds while the head is run. -/
structure InvT (P : Program) (F : Ph) (L H : List Oper) (M : List (Nat × YldT F)) (a0 : Act) (E : Act → Prop) (listed : Array Bool) (a : Act) (w : World) : Prop where
  lsize : listed.size = L.length
  tail : ∀ t, H.length ≤ t → t < L.length → listed.getD t true = false
  inv : F.I (cntI F.C listed) w
  size : a.tmps.size = a0.tmps.size
  defers : a.defers = a0.defers
  old : ∀ t, (∀ i o, H[i]? = some o → listed.getD i true = true → o.dst ≠ some t) → a.eval (.tmp t) = a0.eval (.tmp t)
  closed : ∀ i o, H[i]? = some o → listed.getD i true = true → ∀ j, depB o j = true → listed.getD j true = true
  path : ∃ p u, PathT P F L H M a0 E p u ∧ (∀ i o d, H[i]? = some o → listed.getD i true = true → o.dst = some d → a.eval (.tmp d) = u i) ∧ KnownT L H M a0 u (fun i => i < H.length ∧ listed.getD i true = true) w
theorem KnownT.mono {u : Nat → Value} {D : Nat → Prop} {w w' : World} (h : KnownT L H M a0 u D w) (hb : F.T w w') : KnownT L H M a0 u D w' := fun j oj S hD hj hM hw => by
  obtain ⟨x, e, hr⟩ := h j oj S hD hj hM hw
  exact ⟨x, e, S.st x w w' hr hb⟩
theorem InvT.looks (hP : persB H a0.tmps.size = true) (hR : readsB L H = true) {listed : Array Bool} {a : Act} {w : World} (h : InvT P F L H M a0 E listed a w) {u : Nat → Value} (hu : ∀ i o d, H[i]? = some o → listed.getD i true = true → o.dst = some d → a.eval (.tmp d) = u i)
    {i : Nat} {o : Oper} (ho : H[i]? = some o) (hl : listed.getD i true = false) (hd : ∀ j, depB o j = true → listed.getD j true = true) : ∀ t ∈ o.looksAt L.toArray, a.eval (.tmp t) = (fr u H a0 i).eval (.tmp t) := by
  intro t ht
  rcases looks_fr hP hR ho ht with ⟨hold, he⟩ | ⟨j, oj, hj, hdj, hdep, hlt, he⟩
  · rw [he u]
    refine h.old t fun k ok hk hlk e => ?_
    unfold oldB at hold
    rw [List.all_eq_true] at hold
    have := hold (ok, k) (by rw [List.mem_zipIdx_iff_getElem?]; exact hk)
    simp only [Bool.or_eq_true, bne_iff_ne, ne_eq, beq_iff_eq] at this
    rcases this with (h' | h') | h'
    · exact h' e
    · subst h'; rw [hl] at hlk; cases hlk
    · have := h.closed k ok hk hlk i h'
      rw [hl] at this; cases this
  · rw [he u]
    exact hu j oj t hj (hd j hdep) hdj
open Classical in
/-- One operation of the head. -/
theorem InvT.step (hF : F.Ok) (hC : chainB H H.length F.C = true) (hP : persB H a0.tmps.size = true) (hR : readsB L H = true) (hL : ∀ (i : Nat) (o : Oper), H[i]? = some o → L[i]? = some o) (hW : walkT P F L M E 0 H a0) {listed : Array Bool} {a : Act} {w : World} (h : InvT P F L H M a0 E listed a w)
    {i : Nat} {o : Oper} (ho : H[i]? = some o) (hl : listed.getD i true = false) (hd : ∀ j, depB o j = true → listed.getD j true = true) {K : Act → World → Prop}
    (hK : ∀ v w', InvT P F L H M a0 E (listed.setIfInBounds i true) (a.put o.dst v) w' → K (a.put o.dst v) w') :
    if Region.wanted o (yielded L.toArray a.tmps) = true then o.wp P a w K (UpsT F a0.defers) else K (a.put o.dst undef) w := by
  obtain ⟨⟨d, hod, hdn⟩, _, hun⟩ := persB_spec hP ho
  obtain ⟨p, u, hp, hu, hk⟩ := h.path
  have hil : i < H.length := (List.getElem?_eq_some_iff.1 ho).1
  have hiL : i < L.length := (List.getElem?_eq_some_iff.1 (hL i o ho)).1
  have hi : i < listed.size := by rw [h.lsize]; exact hiL
  obtain ⟨e1, e2⟩ := same_of_looks (L := L) (readsB_spec hR ho).1 (by rw [fr_size, h.size]) (h.looks hP hR hu ho hl hd)
  have hdeps : DepsT L M (fr u H a0 i) o w := depsT_of hP hR hL hk ho fun j hj => ⟨by have := dep_lt hP ho hj; omega, hd j hj⟩
  have hs := hp.step i o ho
  obtain ⟨hph, hnx⟩ := cnt_next hC h.closed ho hi hl hd
  -- the new invariant, given a path whose value here is v
  have next : ∀ v w', F.I (cntI F.C (listed.setIfInBounds i true)) w' → (∃ p' u', PathT P F L H M a0 E p' u' ∧ u' i = v ∧ (∀ j oj, j < H.length → listed.getD j true = true → H[j]? = some oj → u' j = u j) ∧ KnownT L H M a0 u' (fun j => j < H.length ∧ (listed.setIfInBounds i true).getD j true = true) w') →
      InvT P F L H M a0 E (listed.setIfInBounds i true) (a.put o.dst v) w' := by
    rintro v w' hb ⟨p', u', hp', hv, hag, hk'⟩
    refine ⟨by simpa using h.lsize, fun t h1 h2 => by rw [getD_set_ne _ (by omega)]; exact h.tail t h1 h2, hb, by rw [put_size]; exact h.size, by rw [put_defers]; exact h.defers, ?_, ?_, p', u', hp', ?_, hk'⟩
    · intro t ht
      rw [put_get_ne _ _ _ _ (ht i o ho (getD_set_self _ hi))]
      exact h.old t fun j oj hj hlj => ht j oj hj (getD_set_true' hlj)
    · intro j oj hj hlj k hdep
      by_cases hij : i = j
      · subst hij
        rw [ho] at hj
        cases hj
        exact getD_set_true' (hd k hdep)
      · rw [getD_set_ne _ hij] at hlj
        exact getD_set_true' (h.closed j oj hj hlj k hdep)
    · intro j oj dj hj hlj hdj
      by_cases hij : i = j
      · subst hij
        rw [ho] at hj
        cases hj
        rw [hod] at hdj
        cases hdj
        rw [hod, put_get_eq _ _ _ (by rw [h.size]; exact hdn), hv]
      · rw [getD_set_ne _ hij] at hlj
        rw [put_get_ne _ _ _ _ (fun e => hun j oj hj (Ne.symm hij) (hdj.trans e.symm)), hag j oj (List.getElem?_eq_some_iff.1 hj).1 hlj hj]
        exact hu j oj dj hj hlj hdj
  -- the path stays
  have stay : ∀ w', F.T w w' → F.I (cntI F.C (listed.setIfInBounds i true)) w' → (∀ S, madeT M i = some S → Region.wanted o (yielded L.toArray (fr u H a0 i).tmps) = true → S.R (u i) w') → InvT P F L H M a0 E (listed.setIfInBounds i true) (a.put o.dst (u i)) w' := by
    intro w' hb hin hmade
    refine next _ _ hin ⟨p, u, hp, rfl, fun _ _ _ _ _ => rfl, fun j oj S hj hoj hM hw => ?_⟩
    by_cases hij : i = j
    · subst hij
      rw [ho] at hoj
      cases hoj
      exact hmade S hM hw
    · obtain ⟨hj1, hj2⟩ := hj
      rw [getD_set_ne _ hij] at hj2
      exact hk.mono hb j oj S ⟨hj1, hj2⟩ hoj hM hw
  by_cases hw : Region.wanted o (yielded L.toArray (fr u H a0 i).tmps) = true
  · rw [if_pos hw] at hs
    rw [if_pos (e2.trans hw)]
    cases hM : madeT M i with
    | none =>
      simp only [hM] at hs
      have hr := hs.2 _ w h.inv hdeps
      unfold Oper.wp Oper.upon
      rw [e1, hr]
      exact hK _ _ (stay w (hF.tB _ _ (Below.refl _ _)) (by rw [hnx]; unfold nxI; rw [if_neg hs.1]; exact h.inv) fun S hS => by rw [hM] at hS; cases hS)
    | some S =>
      simp only [hM] at hs
      have hwp := hs.1 _ w hph h.inv hdeps
      rw [← hnx] at hwp
      have hups : ∀ x a1 w1, UpsT F (fr u H a0 i).defers x a1 w1 → UpsT F a0.defers x a1 w1 := fun x a1 w1 hq => ⟨hq.1, hq.2.trans (fr_defers _ _ _ _)⟩
      have hwp' : o.wp P a w (fun a' w' => ∃ v, a' = a.put o.dst v ∧ S.R v w' ∧ F.T w w' ∧ F.I (cntI F.C (listed.setIfInBounds i true)) w') (UpsT F a0.defers) := by
        have hput : ∀ v, ∃ v', (fr u H a0 i).put o.dst v = (fr u H a0 i).put o.dst v' := fun v => ⟨v, rfl⟩
        unfold WpT Oper.wp at hwp
        unfold Oper.wp
        rw [e1]
        generalize (execOp (fr u H a0 i).eval o).run P w = r at hwp ⊢
        have inj : ∀ {v v' : Value}, (fr u H a0 i).put o.dst v = (fr u H a0 i).put o.dst v' → v = v' := fun {v v'} e => by
          have h1 := put_get_eq (fr u H a0 i) d v (by rw [fr_size]; exact hdn)
          have h2 := put_get_eq (fr u H a0 i) d v' (by rw [fr_size]; exact hdn)
          rw [hod] at e
          rw [← h1, e, h2]
        have conv : ∀ (v : Value) (w' : World), (∃ v', (fr u H a0 i).put o.dst v = (fr u H a0 i).put o.dst v' ∧ S.R v' w' ∧ F.T w w' ∧ F.I (cntI F.C (listed.setIfInBounds i true)) w') → ∃ v', a.put o.dst v = a.put o.dst v' ∧ S.R v' w' ∧ F.T w w' ∧ F.I (cntI F.C (listed.setIfInBounds i true)) w' := by
          rintro v w' ⟨v', e, hR, hb⟩
          rw [inj e]
          exact ⟨v', rfl, hR, hb⟩
        cases r with
        | halt x w' =>
          cases x <;> simp only [Oper.upon] at hwp ⊢
          case panic v => exact ⟨(hwp : UpsT _ _ _ _ _).1, h.defers⟩
        | ok n w' =>
          cases n <;> simp only [Oper.upon] at hwp ⊢
          case value v => exact conv v w' hwp
          case skip => exact conv undef w' hwp
          case enter f args =>
            refine Calls.mono hwp fun e w'' he => ?_
            cases e with
            | returned v => exact conv v w'' he
            | panicked c => exact ⟨(he : UpsT _ _ _ _ _).1, h.defers⟩
            | outgrown => obtain ⟨a1, w1, h0⟩ := (he : LetsOut _); exact ⟨a1, w1, hups _ _ _ h0⟩
          case row rw args =>
            exact hwp.mono fun v w'' he => conv v w'' he
          case defer dd =>
            obtain ⟨v', e, _⟩ := hwp
            have := congrArg Act.defers e
            rw [put_defers, put_defers] at this
            have := congrArg List.length this
            simp at this
      refine Oper.wp_mono (fun a' w' hq => ?_) hwp'
      obtain ⟨v, rfl, hRv, hb, hin⟩ := hq
      obtain ⟨x, hx, hrel⟩ := hRv
      refine hK _ _ (next v w' hin ?_)
      obtain ⟨u', hp'⟩ := pathT_exists (a0 := a0) (fun k (S' : YldT F) => if hh : k = i ∧ S' = S then hh.2 ▸ x else p k S') hW
      have hag := agreeT hP hR hL hp hp' (D := fun j => j < H.length ∧ listed.getD j true = true) (w := w) h.inv (fun j oj hj hoj k hdep => ⟨by have := dep_lt hP hoj hdep; omega, h.closed j oj hoj hj.2 k hdep⟩)
        (fun j S' hj => by
          have hne : ¬ (j = i ∧ S' = S) := fun hh => by
            have := hj.2
            rw [hh.1, hl] at this
            cases this
          simp only [dif_neg hne]) hk
      have hlooks' : ∀ t ∈ o.looksAt L.toArray, (fr u H a0 i).eval (.tmp t) = (fr u' H a0 i).eval (.tmp t) := fun t ht => by
        rcases looks_fr hP hR ho ht with ⟨_, he⟩ | ⟨j, oj, hj, hdj, hdep, hlt, he⟩
        · rw [he u, he u']
        · rw [he u, he u']
          exact (hag j oj ⟨by omega, hd j hdep⟩ hj).1
      obtain ⟨-, e4⟩ := same_of_looks (L := L) (readsB_spec hR ho).1 (by rw [fr_size, fr_size]) hlooks'
      have hui : u' i = v := by
        have s := hp'.step i o ho
        rw [← e4, if_pos hw, hM] at s
        have := s.2
        rw [this, hx]
        simp
      refine ⟨_, u', hp', hui, fun j oj hj hlj hoj => ((hag j oj ⟨hj, hlj⟩ hoj).1).symm, fun j oj S' hj hoj hMj hwj => ?_⟩
      by_cases hij : i = j
      · subst hij
        rw [ho] at hoj
        cases hoj
        rw [hM] at hMj
        cases hMj
        rw [hui]
        exact ⟨x, hx, hrel⟩
      · obtain ⟨hj1, hj2⟩ := hj
        rw [getD_set_ne _ hij] at hj2
        obtain ⟨f1, f2⟩ := hag j oj ⟨hj1, hj2⟩ hoj
        rw [← f1]
        exact hk.mono hb j oj S' ⟨hj1, hj2⟩ hoj hMj (by rw [f2]; exact hwj)
  · rw [if_neg hw] at hs
    rw [if_neg (by rw [e2]; exact hw), ← hs.2]
    exact hK _ _ (stay w (hF.tB _ _ (Below.refl _ _)) (by rw [hnx]; unfold nxI; rw [if_neg hs.1]; exact h.inv) fun S _ hw' => absurd hw' hw)
/-- What is known when the head is done. -/
def FactsT {F : Ph} (L H : List Oper) (M : List (Nat × YldT F)) (a : Act) (w : World) : Prop :=
  ∀ i o d S, H[i]? = some o → o.dst = some d → madeT M i = some S → Region.wanted o (yielded L.toArray a.tmps) = true → S.R (a.eval (.tmp d)) w
theorem InvT.done (hP : persB H a0.tmps.size = true) (hR : readsB L H = true) (hL : ∀ (i : Nat) (o : Oper), H[i]? = some o → L[i]? = some o) {listed : Array Bool} {a : Act} {w : World} (h : InvT P F L H M a0 E listed a w)
    (hall : ∀ i, i < H.length → listed.getD i true = true) : E a ∧ FactsT L H M a w := by
  obtain ⟨p, u, hp, hu, hk⟩ := h.path
  have he : fr u H a0 H.length = a := by
    refine act_ext (by rw [fr_size, h.size]) (by rw [fr_defers, h.defers]) fun t => ?_
    by_cases ht : ∃ (i : Nat) (o : Oper), H[i]? = some o ∧ o.dst = some t
    · obtain ⟨i, o, ho, hod⟩ := ht
      have hi := (List.getElem?_eq_some_iff.1 ho).1
      rw [fr_new hP ho hod hi]
      exact (hu i o t ho (hall i hi) hod).symm
    · rw [fr_old fun j o _ ho e => ht ⟨j, o, ho, e⟩]
      exact (h.old t fun i o ho _ e => ht ⟨i, o, ho, e⟩).symm
  refine ⟨he ▸ hp.fin, fun i o d S ho hd hM hw => ?_⟩
  have hi := (List.getElem?_eq_some_iff.1 ho).1
  rw [hu i o d ho (hall i hi) hd]
  refine hk i o S ⟨hi, hall i hi⟩ ho hM ?_
  rw [← wanted_later hP hR hL ho (Nat.le_of_lt hi), he]
  exact hw
theorem wpAny_walkT (hF : F.Ok) {Q : Exit → Act → World → Prop} {n : Nat} (hH : H = L.take n) (hC : chainB H H.length F.C = true) (hn : n ≤ L.length) (hP : persB H a0.tmps.size = true) (hR : readsB L H = true) (hT : n = L.length ∨ tailB L n = true) (hW : walkT P F L M E 0 H a0)
    (hup : ∀ x a w, UpsT F a0.defers x a w → Q x a w) (hend : ∀ a w, E a → F.I F.C.length w → FactsT L H M a w → wpList P L.toArray Q (L.drop n) a w) :
    ∀ (fuel : Nat) (U : List Nat) (listed : Array Bool) (a : Act) (w : World), U.Nodup → (∀ i, i ∈ U ↔ i < n ∧ listed.getD i true = false) → fuel = U.length + (L.length - n) → InvT P F L H M a0 E listed a w → wpAny P .any L.toArray Q fuel listed a w := by
  have hHl : H.length = n := by rw [hH]; simp; omega
  have hL : ∀ (i : Nat) (o : Oper), H[i]? = some o → L[i]? = some o := fun i o h => by
    rw [hH, List.getElem?_take] at h
    split at h
    · exact h
    · cases h
  have hLH : ∀ (i : Nat) (o : Oper), i < n → L[i]? = some o → H[i]? = some o := fun i o hi h => by
    rw [hH, List.getElem?_take, if_pos hi]; exact h
  have hcnt : ∀ {listed : Array Bool} {w : World}, (∀ i, i < n → listed.getD i true = true) → F.I (cntI F.C listed) w → F.I F.C.length w := fun {listed w} hall hi => by
    have : cntI F.C listed = F.C.length := by
      unfold cntI
      rw [List.filter_eq_self.2 (fun x hx => ?_)]
      obtain ⟨s, hs⟩ := List.mem_iff_getElem?.1 hx
      have := (chain_spec hC).2 s x hs
      exact hall x (by omega)
    rwa [this] at hi
  intro fuel
  induction fuel with
  | zero =>
    intro U listed a w _ hU hf h
    have hU0 : U = [] := List.eq_nil_of_length_eq_zero (by omega)
    have hnl : n = L.length := by omega
    have hall : ∀ i, i < n → listed.getD i true = true := fun i hi => by
      cases hl : listed.getD i true with
      | true => rfl
      | false => have := (hU i).2 ⟨hi, hl⟩; rw [hU0] at this; cases this
    obtain ⟨hE, hF'⟩ := h.done hP hR hL (fun i hi => hall i (by omega))
    have hq := hend a w hE (hcnt hall h.inv) hF'
    rw [hnl, List.drop_length] at hq
    exact ⟨ready_none fun i hi => hall i (by omega), hq⟩
  | succ fuel ih =>
    intro U listed a w hnd hU hf h
    by_cases hU0 : U = []
    · have hall : ∀ i, i < n → listed.getD i true = true := fun i hi => by
        cases hl : listed.getD i true with
        | true => rfl
        | false => have := (hU i).2 ⟨hi, hl⟩; rw [hU0] at this; cases this
      obtain ⟨hE, hF'⟩ := h.done hP hR hL (fun i hi => hall i (by omega))
      have hq := hend a w hE (hcnt hall h.inv) hF'
      rw [hU0] at hf
      simp only [List.length_nil, Nat.zero_add] at hf
      have hT' : tailB L n = true := hT.resolve_left (by omega)
      unfold tailB at hT'
      simp only [Bool.and_eq_true] at hT'
      have hlist := seq_listed (L := L) hn h.lsize hall (fun t h1 h2 => h.tail t (by omega) h2)
      have := wpAny_of_seq (P := P) (md := .any) (ops := L.toArray) (Q' := Q) (L.drop n) n listed a w (fun j => by simp [List.getElem?_drop]) (by rw [List.length_drop, hlist]; exact hT'.2) hq
      rw [List.length_drop, ← hf] at this
      exact this
    · have hnotall : ¬ ∀ i, i < n → listed.getD i true = true := fun hall => by
        obtain ⟨x, hx⟩ := List.exists_mem_of_ne_nil _ hU0
        have := (hU x).1 hx
        rw [hall x this.1] at this
        exact absurd this.2 (by decide)
      refine ⟨fun hr => ?_, fun i hi => ?_⟩
      · exfalso
        refine hnotall fun i => ?_
        induction i using Nat.strongRecOn with
        | ind i ihi =>
          intro hi
          cases hl : listed.getD i true with
          | true => rfl
          | false =>
            have ho : H[i]? = some (H[i]'(by omega)) := List.getElem?_eq_getElem _
            obtain ⟨_, h2, _⟩ := persB_spec hP ho
            have : i ∈ Region.ready .any L.toArray listed := by
              rw [mem_ready]
              refine ⟨hl, _, by simpa using hL i _ ho, fun e he hb => ?_⟩
              have hlt := h2 e he hb
              rw [← getD_lt (by rw [h.lsize]; omega)]
              exact ihi e.on hlt (by omega)
            rw [hr] at this
            cases this
      rw [mem_ready] at hi
      obtain ⟨hl, o, ho, hdeps⟩ := hi
      have hoL : L[i]? = some o := by simpa using ho
      have hiL : i < L.length := (List.getElem?_eq_some_iff.1 hoL).1
      have hd : ∀ j, depB o j = true → listed.getD j true = true := fun j hj => by
        obtain ⟨e, he, hon, hb⟩ := depB_of hj
        have := hdeps e he hb
        rw [hon] at this
        exact getD_tf this
      by_cases hin : i < n
      · have ho' := hLH i o hin hoL
        have hs := h.step hF hC hP hR hL hW ho' hl hd (K := wpAny P .any L.toArray Q fuel (listed.setIfInBounds i true)) (fun v w' hinv => by
          refine ih (U.erase i) _ _ _ (hnd.erase i) (fun j => ?_) ?_ hinv
          · rw [hnd.mem_erase_iff, hU j]
            constructor
            · rintro ⟨h1, h2, h3⟩
              exact ⟨h2, by rw [getD_set_ne _ (Ne.symm h1)]; exact h3⟩
            · rintro ⟨h1, h2⟩
              have hne : j ≠ i := by
                rintro rfl
                rw [getD_set_self _ (by rw [h.lsize]; exact hiL)] at h2; cases h2
              rw [getD_set_ne _ (Ne.symm hne)] at h2
              exact ⟨hne, h1, h2⟩
          · have hm := (hU i).2 ⟨hin, hl⟩
            have := List.length_pos_of_mem hm
            rw [List.length_erase_of_mem hm]
            omega)
        unfold wpOp
        rw [ho]
        simp only
        split at hs
        · next hw => rw [if_pos hw]; exact .inl (oper_wp_to hup hs)
        · next hw => rw [if_neg hw]; exact hs
      · exfalso
        have hT' : tailB L n = true := hT.resolve_left (by omega)
        unfold tailB at hT'
        simp only [Bool.and_eq_true] at hT'
        obtain ⟨⟨hT1, hT2⟩, _⟩ := hT'
        by_cases hni : i = n
        · subst hni
          refine hnotall ?_
          have key : ∀ m k, i - k = m → k < i → listed.getD k true = true := by
            intro m
            induction m using Nat.strongRecOn with
            | ind m ihm =>
              intro k hm hk
              have := List.all_eq_true.1 hT1 k (List.mem_range.2 hk)
              rw [Bool.or_eq_true, hoL] at this
              rcases this with h1 | h1
              · exact hd k h1
              · obtain ⟨⟨o', k'⟩, hm', h2⟩ := List.any_eq_true.1 h1
                simp only [Bool.and_eq_true, decide_eq_true_eq] at h2
                rw [List.mem_zipIdx_iff_getElem?, ← hH] at hm'
                have hk' := (List.getElem?_eq_some_iff.1 hm').1
                exact h.closed k' o' hm' (ihm (i - k') (by omega) k' rfl (by omega)) k h2.2
          exact fun k hk => key _ k rfl hk
        · have := List.all_eq_true.1 hT2 (o, i) (by rw [List.mem_zipIdx_iff_getElem?]; exact hoL)
          simp only [Bool.or_eq_true, decide_eq_true_eq] at this
          rcases this with h1 | h1
          · omega
          · have h2 := hd _ h1
            rw [h.tail (i - 1) (by omega) (by omega)] at h2
            cases h2
/-- THE LAW: as in XWalk, with operations that write. -/
theorem wp_region_walkT {id : Nat} {w0 : World} {Q : Exit → Act → World → Prop} (F : Ph) (hF : F.Ok) (n : Nat) (M : List (Nat × YldT F)) (hm : P.follows .mixedOrders = true) (hB : walkB L n a0.tmps.size = true) (hC : chainB (L.take n) (L.take n).length F.C = true) (h0 : F.I 0 w0) (hup : ∀ x a w, F.Up x w → a.defers = a0.defers → Q x a w)
    (h : walkT P F L M (fun a => ∀ w, F.I F.C.length w → FactsT L (L.take n) M a w → wpList P L.toArray Q (L.drop n) a w) 0 (L.take n) a0) : (Code.region id L.toArray true).wp P Q a0 w0 := by
  unfold walkB at hB
  simp only [Bool.and_eq_true, Bool.or_eq_true, decide_eq_true_eq] at hB
  obtain ⟨⟨⟨hn, hP⟩, hR⟩, hT⟩ := hB
  refine wp_region_any hm ?_
  have hf : ∀ i, i < L.length → (Array.replicate L.toArray.size false).getD i true = false := fun i hi => by
    rw [Array.getD_eq_getD_getElem?, Array.getElem?_eq_getElem (by simpa using hi)]
    simp
  have hHl : (L.take n).length = n := by simp; omega
  have hz : cntI F.C (Array.replicate L.toArray.size false) = 0 := by
    unfold cntI
    rw [List.filter_eq_nil_iff.2 (fun x hx => ?_)]
    · rfl
    · obtain ⟨s, hs⟩ := List.mem_iff_getElem?.1 hx
      have := (chain_spec hC).2 s x hs
      rw [hf x (by omega)]
      decide
  obtain ⟨u, hu⟩ := pathT_exists (a0 := a0) (fun _ S => S.inh) h
  refine wpAny_walkT hF rfl hC hn hP hR hT h (fun x a w hq => hup x a w hq.1 hq.2) (fun a w hE hb hF => hE w hb hF) _ (List.range n) _ _ _ List.nodup_range (fun i => ?_) (by simp; omega) ?_
  · rw [List.mem_range]
    exact ⟨fun hi => ⟨hi, hf i (by omega)⟩, fun hi => hi.1⟩
  · refine ⟨by simp, fun t _ ht => hf t ht, by rw [hz]; exact hF.iB _ _ _ h0 ⟨rfl, rfl, rfl, Nat.le_refl _, fun _ _ => rfl⟩, rfl, rfl, fun t _ => rfl, fun i o ho hl => ?_, _, u, hu, fun i o d ho hl => ?_, fun j oj S hj => ?_⟩
    · have := (List.getElem?_eq_some_iff.1 ho).1
      rw [hf i (by omega)] at hl; cases hl
    · have := (List.getElem?_eq_some_iff.1 ho).1
      rw [hf i (by omega)] at hl; cases hl
    · have := hj.2
      rw [hf j (by omega)] at this; cases this
end
section
variable {P : Program} {F : Ph} {L r : List Oper} {M : List (Nat × YldT F)} {a : Act} {E : Act → Prop} {i : Nat} {o : Oper}
/-- A world of the region. -/
structure In (F : Ph) where
  w : World
  t : Nat
  h : F.I t w
theorem walkT_val {v : Value} (hw : Region.wanted o (yielded L.toArray a.tmps) = true) (hM : madeT M i = none) (hc : i ∉ F.C) (h : ∀ t w, F.I t w → DepsT L M a o w → (execOp a.eval o).run P w = .ok (.value v) w) (hn : walkT P F L M E (i + 1) r (a.put o.dst v)) : walkT P F L M E i (o :: r) a := by
  rw [walkT, if_pos hw, hM]
  exact ⟨hc, v, h, hn⟩
theorem walkT_made {S : YldT F} (hw : Region.wanted o (yielded L.toArray a.tmps) = true) (hM : madeT M i = some S) (h : ∀ t w, phI F.C i t → F.I t w → DepsT L M a o w → WpT P F (nxI F.C i t) o a S w) (hn : ∀ x, walkT P F L M E (i + 1) r (a.put o.dst (S.shape x))) : walkT P F L M E i (o :: r) a := by
  rw [walkT, if_pos hw, hM]
  exact ⟨h, hn⟩
theorem walkT_quiet (hw : Region.wanted o (yielded L.toArray a.tmps) = true) (hM : madeT M i = none) (hc : F.C.contains i = false) (hv : valB o = true) (h : ∀ K : Act → Prop, (∀ a, walkT P F L M E (i + 1) r a → K a) → o.quiet P a (fun w => ∃ x : In F, w = x.w) K) : walkT P F L M E i (o :: r) a := by
  obtain ⟨v, h1, h2⟩ := h (walkT P F L M E (i + 1) r) (fun _ h => h)
  refine walkT_val hw hM (by intro hm; rw [List.contains_iff_mem.2 hm] at hc; cases hc) (fun t w hb _ => ?_) h2
  have := h1 w ⟨⟨w, t, hb⟩, rfl⟩
  unfold Oper.quietAt at this
  generalize hr : (execOp a.eval o).run P w = res at this
  cases res with
  | halt x w' => exact this.elim
  | ok n w' =>
    obtain ⟨u, rfl⟩ := valB_spec hv hr
    obtain ⟨rfl, rfl⟩ := (this : w' = w ∧ u = v)
    rfl
theorem walkT_nil (h : E a) : walkT P F L M E i [] a := h
theorem walkT_is {c : Value} (hw : Region.wanted o (yielded L.toArray a.tmps) = true) (hM : madeT M i = some (YldT.is F c)) (h : ∀ t w, phI F.C i t → F.I t w → DepsT L M a o w → WpT P F (nxI F.C i t) o a (YldT.is F c) w) (hn : walkT P F L M E (i + 1) r (a.put o.dst c)) : walkT P F L M E i (o :: r) a :=
  walkT_made hw hM h fun _ => hn
theorem YldT.is_mk {c : Value} {w : World} : (YldT.is F c).R c w := ⟨(), rfl, trivial⟩
theorem WpT.call {S : YldT F} {t' : Nat} {f : FuncId} {args : Array Value} {w : World} (hr : (execOp a.eval o).run P w = .ok (.enter f args) w) (h : Calls P f args w fun e w' => (∃ v, e = .returned v ∧ S.R v w' ∧ F.T w w' ∧ F.I t' w') ∨ (∃ c, e = .panicked c ∧ F.Up (.panic c) w')) : WpT P F t' o a S w := by
  unfold WpT Oper.wp Oper.upon
  rw [hr]
  refine h.mono fun e w' he => ?_
  rcases he with ⟨v, he, hv, hT, hI⟩ | ⟨c, he, hv⟩
  · subst he
    exact ⟨v, rfl, hv, hT, hI⟩
  · subst he
    exact ⟨hv, rfl⟩
end
end Go.Fd
namespace Go.Proofs.Ytmpmkjlkhlagfaa
open Go.RowKit Go.Fd
/-- The machine behind a pointer. -/
def MacAt (w : World) (g : Nat) (h : HeadM) (lv : Value) (gc : Nat) (s : StM) (go : Nat) : Prop :=
  w.heap[g]? = some (.cells #[.int .u64 (h.step : Int), .int .i64 h.base, .int .u64 (h.span : Int), .int .i64 (h.ops : Int), lv, .pointer (some ⟨gc, 0, none⟩), .int .u64 (s.addr : Int), .int .u64 (s.file : Int), .int .i64 s.line, .pointer (some ⟨go, 0, none⟩)] 73 (0, 0))
structure MacCells (w : World) (g : Nat) (h : HeadM) (lv : Value) (gc : Nat) (s : StM) (go : Nat) : Prop where
  c0 : w.cell? ⟨g, 0, none⟩ = some (.int .u64 (h.step : Int))
  c1 : w.cell? ⟨g, 1, none⟩ = some (.int .i64 h.base)
  c2 : w.cell? ⟨g, 2, none⟩ = some (.int .u64 (h.span : Int))
  c3 : w.cell? ⟨g, 3, none⟩ = some (.int .i64 (h.ops : Int))
  c4 : w.cell? ⟨g, 4, none⟩ = some lv
  c5 : w.cell? ⟨g, 5, none⟩ = some (.pointer (some ⟨gc, 0, none⟩))
  c6 : w.cell? ⟨g, 6, none⟩ = some (.int .u64 (s.addr : Int))
  c7 : w.cell? ⟨g, 7, none⟩ = some (.int .u64 (s.file : Int))
  c8 : w.cell? ⟨g, 8, none⟩ = some (.int .i64 s.line)
  c9 : w.cell? ⟨g, 9, none⟩ = some (.pointer (some ⟨go, 0, none⟩))
theorem MacAt.cells {w : World} {g gc go : Nat} {h : HeadM} {lv : Value} {s : StM} (hm : MacAt w g h lv gc s go) : MacCells w g h lv gc s go :=
  ⟨cell_rec hm 0, cell_rec hm 1, cell_rec hm 2, cell_rec hm 3, cell_rec hm 4, cell_rec hm 5, cell_rec hm 6, cell_rec hm 7, cell_rec hm 8, cell_rec hm 9⟩
theorem MacAt.stirs {w w' : World} {g gc go : Nat} {h : HeadM} {lv : Value} {s : StM} {S : Nat → Prop} (hm : MacAt w g h lv gc s go) (hs : Stirs S w w') (hn : ¬ S g) : MacAt w' g h lv gc s go := hs.kept hm hn
theorem MacAt.mono {w w' : World} {g gc go : Nat} {h : HeadM} {lv : Value} {s : StM} (hm : MacAt w g h lv gc s go) (hb : Below w.heap.size w w') : MacAt w' g h lv gc s go := heap_below hb hm
/-- What bounds the state. -/
structure StM.ok (s : StM) : Prop where
  addr : s.addr < 18446744073709551616
  file : s.file < 18446744073709551616
  lo : -9223372036854775808 ≤ s.line
  hi : s.line < 9223372036854775808
theorem u64wrap_m64 (x : Nat) : IntKind.u64.wrap (x : Int) = ((m64 x : Nat) : Int) := by rw [IntKind.wrap_u64]; unfold m64; omega
set_option maxRecDepth 100000 in
theorem begin_any (g gc go : Nat) (h : HeadM) (lv : Value) (s : StM) (w : World) (hm : MacAt w g h lv gc s go) :
    Calls Try.prog 42 #[.pointer (some ⟨g, 0, none⟩)] w fun e w' => e = .returned (.tuple #[]) ∧ MacAt w' g h lv gc st0 go ∧ Stirs (fun k => k = g) w w' := by
  have HM := Lib.hid hm
  clear hm
  go_enter Try.func42, Try.ntmps42
  go_wp2_with (first
    | ((with_reducible show wpList _ _ _ (⟨none, .store 36 _ (.const (.int .u64 0)), _, _, _, _⟩ :: _) _ _); go_must (refine wpList_setI HM.out (show 6 < 10 by decide) rfl rfl (fun w => by kernel_rfl) ?_; intro w1 hh1 hs1; have H1 := Lib.hid hh1; have S1 := Lib.hid hs1; clear hh1 hs1))
    | ((with_reducible show wpList _ _ _ (⟨none, .store 36 _ (.const (.int .u64 1)), _, _, _, _⟩ :: _) _ _); go_must (refine wpList_setI H1.out (show 7 < 10 by decide) rfl rfl (fun w => by kernel_rfl) ?_; intro w2 hh2 hs2; have H2 := Lib.hid hh2; have S2 := Lib.hid (S1.out.trans hs2 fun _ _ h => h); clear hh2 hs2))
    | ((with_reducible show wpList _ _ _ (⟨none, .store 2 _ _, _, _, _, _⟩ :: _) _ _); go_must (refine wpList_setI H2.out (show 8 < 10 by decide) rfl rfl (fun w => by kernel_rfl) ?_; intro w3 hh3 hs3; have H3 := Lib.hid hh3; have S3 := Lib.hid (S2.out.trans hs3 fun _ _ h => h); clear hh3 hs3)))
  go_end0
  exact ⟨rfl, by have := H3.out; simpa [MacAt, st0] using this, S3.out⟩
/-- What has been told. -/
def OutAt (w : World) (base g : Nat) (T : List EntM) : Prop := ∃ v, w.heap[g]? = some (.cells #[v] 33 (0, 0)) ∧ OwR 4 encEnt 43 w base v T
theorem TE : SliceT Try.prog 33 43 4 32 := SliceT.mk' (z := .agg #[.int .u64 0, .int .i64 0, .int .i64 0, .bool false]) (by kernel_rfl) (by kernel_rfl) rfl (by omega)
end Go.Proofs.Ytmpmkjlkhlagfaa
namespace Go.Fd
open Go.RowKit
section
variable {P : Program} {L : List Oper} {Q : Exit → Act → World → Prop} {w0 : World} {fuel i : Nat} {listed : Array Bool} {a : Act} {w : World} {o : Oper}
theorem wpOp_of_list {ops : Array Oper} {K : Act → World → Prop} (hi : ops[i]? = some o) (h : wpList P ops (Exit.then K Q) [o] a w) : wpOp P ops Q i K a w := by
  unfold wpOp
  rw [hi]
  simp only [wpList] at h
  split at h
  · next hw =>
    simp only [hw, if_true]
    rcases h with h | ⟨h1, a1, w1, h2⟩
    · left
      unfold Oper.wp at *
      generalize (execOp a.eval o).run P w = r at *
      cases r with
      | ok n w' =>
        cases n <;> simp only [Oper.upon] at h ⊢ <;>
          first
            | exact h
            | exact Calls.mono h (fun e w'' he => by
                cases e with
                | returned v => exact he
                | panicked c => exact he
                | outgrown => obtain ⟨a0, w0, h0⟩ := (he : LetsOut _); exact ⟨a0, w0, h0⟩)
      | halt x w' => cases x <;> simp only [Oper.upon] at h ⊢ <;> exact h
    · right
      exact ⟨h1, a1, w1, h2⟩
  · next hw =>
    simp only [hw]
    exact h
end
end Go.Fd
namespace Go.Fd
open Go.RowKit
section
variable {P : Program} {L : List Oper} {Q : Exit → Act → World → Prop} {S : World → Prop} {fuel i : Nat} {listed : Array Bool} {a : Act} {w : World} {o : Oper}
structure Of (S : World → Prop) where
  w : World
  h : S w
theorem heldS_quiet (hi : L[i]? = some o) (hB : (Region.noSelect L.toArray && Region.free .any L.toArray listed i && (Region.ready .any L.toArray listed).contains i) = true) (hw : Region.wanted o (yielded L.toArray a.tmps) = true) (hv : valB o = true) [_hne : Nonempty (Of S)]
    (hQ : ∀ v c a w, Q (.panic c) (a.put o.dst v) w → Q (.panic c) a w) (hb : S w)
    (h : ∀ K : Act → Prop, (∀ a, wpAnyH P .any L.toArray Q S fuel (listed.setIfInBounds i true) a w → K a) → o.quiet P a (fun w => ∃ x : Of S, w = x.w) K) : wpAnyH P .any L.toArray Q S (fuel + 1) listed a w := by
  simp only [Bool.and_eq_true] at hB
  obtain ⟨⟨h1, h2⟩, h3⟩ := hB
  obtain ⟨v, k1, k2⟩ := h (fun a => wpAnyH P .any L.toArray Q S fuel (listed.setIfInBounds i true) a w) (fun _ h => h)
  refine wpAnyH_take (i := i) (oi := o) (v := v) (by simpa using hi) h1 h2 h3 (hQ v) (.inl ⟨hw, fun w' hw' => ?_⟩) hb k2
  have := k1 w' ⟨⟨w', hw'⟩, rfl⟩
  unfold Oper.quietAt at this
  generalize hr : (execOp a.eval o).run P w' = res at this
  cases res with
  | halt x w2 => exact this.elim
  | ok n w2 =>
    obtain ⟨u, rfl⟩ := valB_spec hv hr
    obtain ⟨rfl, rfl⟩ := (this : w2 = w' ∧ u = v)
    rfl
theorem heldS_check {x : Operand} {p : Addr} (hi : L[i]? = some o) (hB : (Region.noSelect L.toArray && Region.free .any L.toArray listed i && (Region.ready .any L.toArray listed).contains i) = true) (hw : Region.wanted o (yielded L.toArray a.tmps) = true) (ho : o.op = .nilCheck x) (hp : a.eval x = .pointer (some p))
    (hQ : ∀ v c a w, Q (.panic c) (a.put o.dst v) w → Q (.panic c) a w) (hb : S w)
    (h : wpAnyH P .any L.toArray Q S fuel (listed.setIfInBounds i true) (a.put o.dst (.pointer (some p))) w) : wpAnyH P .any L.toArray Q S (fuel + 1) listed a w := by
  simp only [Bool.and_eq_true] at hB
  obtain ⟨⟨h1, h2⟩, h3⟩ := hB
  exact wpAnyH_take (i := i) (oi := o) (v := .pointer (some p)) (by simpa using hi) h1 h2 h3 (hQ _) (.inl ⟨hw, fun w' _ => by simp only [execOp, ho, hp]; rfl⟩) hb h
/-- One operation alone may come up. -/
theorem heldS_one (hr : Region.ready .any L.toArray listed = [i]) (hi : L[i]? = some o)
    (h : wpList P L.toArray (Exit.then (fun a' w' => S w' ∧ wpAnyH P .any L.toArray Q S fuel (listed.setIfInBounds i true) a' w') Q) [o] a w) : wpAnyH P .any L.toArray Q S (fuel + 1) listed a w := by
  refine wpAnyH_all hr (by simp) ?_
  intro j hj
  rw [List.mem_singleton] at hj
  subst hj
  exact wpOp_of_list (by simpa using hi) h
end
end Go.Fd
namespace Go.Proofs.Ytmpmkjlkhlagfaa
open Go.RowKit Go.Fd
theorem ob_ne {w : World} {base e size n g : Nat} {v : Value} {xs : List Value} {cs : Array Value} {t : TypeId} {fr : Nat × Nat} (ho : w.ownsRow base e size v n xs) (hg : w.heap[g]? = some (.cells cs t fr)) (he : t ≠ e) : ∀ k, v.ownBlock = some k → k ≠ g := by
  rintro k hk rfl
  obtain ⟨cs1, fz1, h1⟩ := own_kind ho k hk
  rw [hg] at h1
  cases h1
  exact he rfl
/-- A slice into a block that was there. -/
theorem wpList_setSl {P : Program} {ops : Array Oper} {rest : List Oper} {Q : Exit → Act → World → Prop} {a : Act} {w : World} {d : Option Tmp} {ty t tb : TypeId} {pos : String} {aft : Array Edge} {p x : Operand} {c : Array Value} {g j m q : Nat} {ad : Option Addr} (hg : w.heap[g]? = some (.cells c tb (0, 0))) (hj : j < c.size) (hp : a.eval p = .pointer (some ⟨g, j, none⟩)) (hx : a.eval x = .slice ad m q) (hs : ∀ w, (sizeOf t).run P w = .ok 1 w)
    (h : ∀ w1, w1.heap[g]? = some (.cells (c.setIfInBounds j (.slice ad m q)) tb (0, 0)) → Stirs (fun k => k = g) w w1 → wpList P ops Q rest (a.put d undef) w1) :
    wpList P ops Q (⟨d, .store t p x, ty, pos, aft, none⟩ :: rest) a w := by
  have hc : w.cell? ⟨g, j, none⟩ = some c[j] := (cell_rec hg j).trans (Array.getElem?_eq_getElem hj)
  have hfz := free_rec' hg j
  have hst : Stirs (fun k => k = g) w (w.setCell ⟨g, j, none⟩ (.slice ad m q)) := stirs_setCell (S := fun k => k = g) _ g j _ rfl
  refine wpList_did (w' := w.setCell ⟨g, j, none⟩ (.slice ad m q)) rfl ?_ (h _ ?_ hst)
  · simp only [execOp, hp, hx]
    simp [go_sem, hs, hc, hfz]
  · simp [World.setCell, Array.getElem?_modify, hg]
set_option maxHeartbeats 4000000 in
set_option maxRecDepth 100000 in
theorem tell_any (g gc go base : Nat) (h : HeadM) (lv : Value) (s : StM) (fin : Bool) (T : List EntM) (w : World) (hm : MacAt w g h lv gc s go) (ho : OutAt w base go T) (hs : s.ok) (hT : T.length < 60000) (hbase : base ≤ w.heap.size) :
    Calls Try.prog 50 #[.pointer (some ⟨g, 0, none⟩), .bool fin] w fun e w' => e = .returned (.tuple #[]) ∧ OutAt w' base go (T ++ [s.tell fin]) ∧ MacAt w' g h lv gc s go ∧ (∃ v, w.heap[go]? = some (.cells #[v] 33 (0, 0)) ∧ Stirs (fun k => k = go ∨ v.ownBlock = some k) w w') := by
  obtain ⟨v, hgo, hov⟩ := ho
  have HM := Lib.hid hm
  have HO := Lib.hid hov
  have HG := Lib.hid hgo
  obtain ⟨c0, c1, c2, c3, c4, c5, c6, c7, c8, c9⟩ := hm.cells
  have d0 := cell_rec hgo 0
  simp only [List.getElem?_toArray, List.getElem?_cons_zero] at d0
  have l1 := block_lt c0
  have l2 := block_lt d0
  obtain ⟨hs1, hs2, hs3, hs4⟩ := hs
  have HAP := Lib.hid (show ∀ k, v.ownBlock = some k → k ≠ g ∧ k ≠ go from fun k hk => ⟨ob_ne hov hm (by decide) k hk, ob_ne hov hgo (by decide) k hk⟩)
  have HNE := Lib.hid (show g ≠ go from fun e => by subst e; rw [hm] at hgo; cases hgo)
  have hcv : IntKind.i64.wrap (s.file : Int) = wrap64 s.file := by rw [wrapEq]
  obtain ⟨mv, va, vc, hmv, rfl, _, _⟩ := hov.shape
  have HMV := Lib.hid hmv.out
  clear hm hgo hov hmv
  go_enter Try.func50, Try.ntmps50
  go_wp2
  have hAB := fun (x : Of (fun wx => Stirs (fun k => k = go ∨ (Value.slice va mv vc).ownBlock = some k) w wx)) (b k : Nat) (h : b < w.heap.size) (hn : ¬ (b = go ∨ (Value.slice va mv vc).ownBlock = some b)) => (show x.w.cell? ⟨b, k, none⟩ = w.cell? ⟨b, k, none⟩ from by
    unfold World.cell?
    rw [x.h.block b h hn])
  have n1 : ¬ (g = go ∨ (Value.slice va mv vc).ownBlock = some g) := fun e => e.elim (fun e => HNE.out e) (fun e => (HAP.out g e).1 rfl)
  have n2 : ¬ (Value.slice va mv vc).ownBlock = some go := fun e => (HAP.out go e).2 rfl
  have hb0 : Stirs (fun k => k = go ∨ (Value.slice va mv vc).ownBlock = some k) w { w with drawn := w.drawn + 1 } := Stirs.of_below (Below.refl _ _).drew
  have hne : Nonempty (Of (fun wx => Stirs (fun k => k = go ∨ (Value.slice va mv vc).ownBlock = some k) w wx)) := ⟨⟨_, hb0⟩⟩
  refine wp_region_held (S := fun wx => Stirs (fun k => k = go ∨ (Value.slice va mv vc).ownBlock = some k) w wx) (by kernel_rfl) ?_
  change wpAnyH _ _ _ _ _ 29 _ _ _
  refine heldS_quiet (i := 0) rfl (by kernel_rfl) rfl rfl (fun _ _ _ _ h => h) hb0 ?_
  intro K hK
  go_big_quiet_op
  go_big_quiet_on
  refine heldS_check (i := 1) rfl (by kernel_rfl) rfl rfl rfl (fun _ _ _ _ h => h) hb0 ?_
  go_frame
  refine heldS_quiet (i := 2) rfl (by kernel_rfl) rfl rfl (fun _ _ _ _ h => h) hb0 ?_
  intro K hK
  go_big_quiet_op
  go_big_quiet_on
  refine heldS_quiet (i := 3) rfl (by kernel_rfl) rfl rfl (fun _ _ _ _ h => h) hb0 ?_
  intro K hK
  go_big_quiet_op
  go_big_quiet_on
  refine heldS_quiet (i := 4) rfl (by kernel_rfl) rfl rfl (fun _ _ _ _ h => h) hb0 ?_
  intro K hK
  go_big_quiet_op
  go_big_quiet_on
  refine heldS_check (i := 5) rfl (by kernel_rfl) rfl rfl rfl (fun _ _ _ _ h => h) hb0 ?_
  go_frame
  refine heldS_quiet (i := 6) rfl (by kernel_rfl) rfl rfl (fun _ _ _ _ h => h) hb0 ?_
  intro K hK
  go_big_quiet_op
  go_big_quiet_on
  refine heldS_quiet (i := 7) rfl (by kernel_rfl) rfl rfl (fun _ _ _ _ h => h) hb0 ?_
  intro K hK
  go_big_quiet_op
  go_big_quiet_on
  refine heldS_check (i := 8) rfl (by kernel_rfl) rfl rfl rfl (fun _ _ _ _ h => h) hb0 ?_
  go_frame
  refine heldS_quiet (i := 10) rfl (by kernel_rfl) rfl rfl (fun _ _ _ _ h => h) hb0 ?_
  intro K hK
  go_big_quiet_op
  go_big_quiet_on
  refine heldS_check (i := 11) rfl (by kernel_rfl) rfl rfl rfl (fun _ _ _ _ h => h) hb0 ?_
  go_frame
  refine heldS_quiet (i := 12) rfl (by kernel_rfl) rfl rfl (fun _ _ _ _ h => h) hb0 ?_
  intro K hK
  go_big_quiet_op
  go_big_quiet_on
  refine heldS_quiet (i := 13) rfl (by kernel_rfl) rfl rfl (fun _ _ _ _ h => h) hb0 ?_
  intro K hK
  go_big_quiet_op
  go_big_quiet_on
  refine heldS_quiet (i := 14) rfl (by kernel_rfl) rfl rfl (fun _ _ _ _ h => h) hb0 ?_
  intro K hK
  go_big_quiet_op
  go_big_quiet_on
  refine heldS_check (i := 15) rfl (by kernel_rfl) rfl rfl rfl (fun _ _ _ _ h => h) hb0 ?_
  go_frame
  refine heldS_quiet (i := 16) rfl (by kernel_rfl) rfl rfl (fun _ _ _ _ h => h) hb0 ?_
  intro K hK
  go_big_quiet_op
  go_big_quiet_on
  refine heldS_quiet (i := 17) rfl (by kernel_rfl) rfl rfl (fun _ _ _ _ h => h) hb0 ?_
  intro K hK
  go_big_quiet_op
  go_big_quiet_on
  refine heldS_quiet (i := 18) rfl (by kernel_rfl) rfl rfl (fun _ _ _ _ h => h) hb0 ?_
  intro K hK
  go_big_quiet_op
  go_big_quiet_on
  refine heldS_quiet (i := 19) rfl (by kernel_rfl) rfl rfl (fun _ _ _ _ h => h) hb0 ?_
  intro K hK
  go_big_quiet_op
  go_big_quiet_on
  refine heldS_check (i := 20) rfl (by kernel_rfl) rfl rfl rfl (fun _ _ _ _ h => h) hb0 ?_
  go_frame
  refine heldS_quiet (i := 21) rfl (by kernel_rfl) rfl rfl (fun _ _ _ _ h => h) hb0 ?_
  intro K hK
  go_big_quiet_op
  go_big_quiet_on
  refine heldS_quiet (i := 22) rfl (by kernel_rfl) rfl rfl (fun _ _ _ _ h => h) hb0 ?_
  intro K hK
  go_big_quiet_op
  go_big_quiet_on
  refine heldS_quiet (i := 23) rfl (by kernel_rfl) rfl rfl (fun _ _ _ _ h => h) hb0 ?_
  intro K hK
  go_big_quiet_op
  go_big_quiet_on
  refine heldS_quiet (i := 24) rfl (by kernel_rfl) rfl rfl (fun _ _ _ _ h => h) hb0 ?_
  intro K hK
  go_big_quiet_op
  go_big_quiet_on
  clear hAB
  have n2 : ¬ (Value.slice va mv vc).ownBlock = some go := fun e => (HAP.out go e).2 rfl
  refine wpAnyH_all (rs := [9, 25]) (by kernel_rfl) (by simp) ?_
  intro i hi
  simp only [List.mem_cons, List.not_mem_nil, or_false] at hi
  rcases hi with hi | hi
  · subst hi
    refine wpOp_of_list (i := 9) rfl ?_
    go_wp2
    refine ⟨hb0, ?_⟩
    refine heldS_one (i := 25) (by kernel_rfl) rfl ?_
    go_wp2
    refine ⟨(hb0.thenBelow (below_alloc w.drew (.cells #[.int .u64 (s.addr : Int), .int .i64 (wrap64 s.file), .int .i64 s.line, .bool fin] 43)) : Stirs _ w _), ?_⟩
    refine heldS_one (i := 26) (by kernel_rfl) rfl ?_
    show wpList _ _ _ _ _ (World.alloc w.drew (.cells #[.int .u64 (s.addr : Int), .int .i64 (wrap64 s.file), .int .i64 s.line, .bool fin] 43))
    have HOD := Lib.hid (show OwR 4 encEnt 43 w.drew base (.slice va mv vc) T from HO.out)
    refine wpList_pushR TE HOD.out rfl rfl (s.tell fin) rfl rfl rfl (by omega) (by omega) hbase ?_
    intro v1 w1 hv1 hg1 hb1
    have hst0 : Stirs (fun k => (Value.slice va mv vc).ownBlock = some k) w w1 := (Stirs.of_below (S := fun k => (Value.slice va mv vc).ownBlock = some k) (Below.refl _ _).drew).trans (Stirs.of_grown (S := fun k => (Value.slice va mv vc).ownBlock = some k) hg1 fun k hk => hk) fun _ _ h => h
    have hst1 : Stirs (fun k => k = go ∨ (Value.slice va mv vc).ownBlock = some k) w w1 := hst0.sub fun _ _ h => .inr h
    refine ⟨hst1, ?_⟩
    have HG1 := Lib.hid (hst0.kept HG.out n2)
    have HM1 := Lib.hid (HM.out.stirs hst0 (fun e => n1 (.inr e)))
    have HV1 := Lib.hid hv1
    have HS1 := Lib.hid hst1
    obtain ⟨m1, a1, q1, hm1, rfl, _, _⟩ := hv1.shape
    clear hst0 hv1 hg1 hb1 hm1
    refine heldS_one (i := 27) (by kernel_rfl) rfl ?_
    go_wp2
    refine ⟨hst1, ?_⟩
    clear hst1
    refine heldS_one (i := 28) (by kernel_rfl) rfl ?_
    refine wpList_setSl HG1.out (show 0 < 1 by decide) rfl rfl (fun w => by kernel_rfl) ?_
    intro w2 hh2 hs2
    have HS2 := Lib.hid (HS1.out.trans hs2 fun k _ e => .inl e)
    refine ⟨HS2.out, ?_⟩
    have HO2 := Lib.hid (show OwR 4 encEnt 43 w2 base (.slice a1 m1 q1) (T ++ [s.tell fin]) from owns_stirs HV1.out hs2 (ob_ne HV1.out HG1.out (by decide)))
    have HM2 := Lib.hid (HM1.out.stirs hs2 HNE.out)
    have HG2 := Lib.hid (show w2.heap[go]? = some (.cells #[.slice a1 m1 q1] 33 (0, 0)) by simpa using hh2)
    clear hh2 hs2
    refine wpAnyH_done (by kernel_rfl) ?_ _
    obtain ⟨c0, c1, c2, c3, c4, c5, c6, c7, c8, c9⟩ := HM2.out.cells
    have d0 : w2.cell? ⟨go, 0, none⟩ = some (.slice a1 m1 q1) := cell_rec HG2.out 0
    have hlen : m1 = T.length + 1 := by have := (HO2.out.shape); obtain ⟨m', a', c', h1, h2, _, _⟩ := this; cases h2; have := h1.out; simpa using this
    have hd : decide ((65536 : Int) < (m1 : Int)) = false := by simp; omega
    clear hlen
    go_wp2
    go_end0
    exact ⟨rfl, ⟨_, HG2.out, HO2.out⟩, HM2.out, _, HG.out, HS2.out⟩
  · subst hi
    refine wpOp_of_list (i := 25) rfl ?_
    go_wp2
    refine ⟨(hb0.thenBelow (below_alloc w.drew (.cells #[.int .u64 (s.addr : Int), .int .i64 (wrap64 s.file), .int .i64 s.line, .bool fin] 43)) : Stirs _ w _), ?_⟩
    have d1 : (World.alloc w.drew (.cells #[.int .u64 (s.addr : Int), .int .i64 (wrap64 s.file), .int .i64 s.line, .bool fin] 43)).cell? ⟨go, 0, none⟩ = some (.slice va mv vc) := cell_rec (heap_below (below_alloc w.drew (.cells #[.int .u64 (s.addr : Int), .int .i64 (wrap64 s.file), .int .i64 s.line, .bool fin] 43)) HG.out) 0
    refine heldS_one (i := 9) (by kernel_rfl) rfl ?_
    go_wp2
    refine ⟨(hb0.thenBelow (below_alloc w.drew (.cells #[.int .u64 (s.addr : Int), .int .i64 (wrap64 s.file), .int .i64 s.line, .bool fin] 43)) : Stirs _ w _), ?_⟩
    clear d1
    refine heldS_one (i := 26) (by kernel_rfl) rfl ?_
    show wpList _ _ _ _ _ (World.alloc w.drew (.cells #[.int .u64 (s.addr : Int), .int .i64 (wrap64 s.file), .int .i64 s.line, .bool fin] 43))
    have HOD := Lib.hid (show OwR 4 encEnt 43 w.drew base (.slice va mv vc) T from HO.out)
    refine wpList_pushR TE HOD.out rfl rfl (s.tell fin) rfl rfl rfl (by omega) (by omega) hbase ?_
    intro v1 w1 hv1 hg1 hb1
    have hst0 : Stirs (fun k => (Value.slice va mv vc).ownBlock = some k) w w1 := (Stirs.of_below (S := fun k => (Value.slice va mv vc).ownBlock = some k) (Below.refl _ _).drew).trans (Stirs.of_grown (S := fun k => (Value.slice va mv vc).ownBlock = some k) hg1 fun k hk => hk) fun _ _ h => h
    have hst1 : Stirs (fun k => k = go ∨ (Value.slice va mv vc).ownBlock = some k) w w1 := hst0.sub fun _ _ h => .inr h
    refine ⟨hst1, ?_⟩
    have HG1 := Lib.hid (hst0.kept HG.out n2)
    have HM1 := Lib.hid (HM.out.stirs hst0 (fun e => n1 (.inr e)))
    have HV1 := Lib.hid hv1
    have HS1 := Lib.hid hst1
    obtain ⟨m1, a1, q1, hm1, rfl, _, _⟩ := hv1.shape
    clear hst0 hv1 hg1 hb1 hm1
    refine heldS_one (i := 27) (by kernel_rfl) rfl ?_
    go_wp2
    refine ⟨hst1, ?_⟩
    clear hst1
    refine heldS_one (i := 28) (by kernel_rfl) rfl ?_
    refine wpList_setSl HG1.out (show 0 < 1 by decide) rfl rfl (fun w => by kernel_rfl) ?_
    intro w2 hh2 hs2
    have HS2 := Lib.hid (HS1.out.trans hs2 fun k _ e => .inl e)
    refine ⟨HS2.out, ?_⟩
    have HO2 := Lib.hid (show OwR 4 encEnt 43 w2 base (.slice a1 m1 q1) (T ++ [s.tell fin]) from owns_stirs HV1.out hs2 (ob_ne HV1.out HG1.out (by decide)))
    have HM2 := Lib.hid (HM1.out.stirs hs2 HNE.out)
    have HG2 := Lib.hid (show w2.heap[go]? = some (.cells #[.slice a1 m1 q1] 33 (0, 0)) by simpa using hh2)
    clear hh2 hs2
    refine wpAnyH_done (by kernel_rfl) ?_ _
    obtain ⟨c0, c1, c2, c3, c4, c5, c6, c7, c8, c9⟩ := HM2.out.cells
    have d0 : w2.cell? ⟨go, 0, none⟩ = some (.slice a1 m1 q1) := cell_rec HG2.out 0
    have hlen : m1 = T.length + 1 := by have := (HO2.out.shape); obtain ⟨m', a', c', h1, h2, _, _⟩ := this; cases h2; have := h1.out; simpa using this
    have hd : decide ((65536 : Int) < (m1 : Int)) = false := by simp; omega
    clear hlen
    go_wp2
    go_end0
    exact ⟨rfl, ⟨_, HG2.out, HO2.out⟩, HM2.out, _, HG.out, HS2.out⟩
end Go.Proofs.Ytmpmkjlkhlagfaa
namespace Go.Proofs.Ytmpmkjlkhlagfaa
open Go.RowKit Go.Fd
/-- Blocks but two, and but rows of entries, stay as they are. -/
def MK (g go : Nat) (w w' : World) : Prop := ∀ (b : Nat) cs e fr, b ≠ g → b ≠ go → e ≠ 43 → w.heap[b]? = some (.cells cs e fr) → w'.heap[b]? = some (.cells cs e fr)
theorem MK.trans {g go : Nat} {w w' w'' : World} (h : MK g go w w') (k : MK g go w' w'') : MK g go w w'' := fun b cs e fr h1 h2 h3 h4 => k b cs e fr h1 h2 h3 (h b cs e fr h1 h2 h3 h4)
theorem MK.below {g go : Nat} {w w' : World} (h : Below w.heap.size w w') : MK g go w w' := fun _ _ _ _ _ _ _ h4 => heap_below h h4
theorem MK.stirs {g go : Nat} {w w' : World} (h : Stirs (fun k => k = g) w w') : MK g go w w' := fun _b _ _ _ h1 _ _ h4 => h.kept h4 h1
theorem tell2 {g gc go base B : Nat} {h : HeadM} {lv : Value} {s : StM} {T : List EntM} {w : World} (fin : Bool) (hm : MacAt w g h lv gc s go) (ho : OutAt w base go T) (hs : s.ok) (hT : T.length < 60000) (hB : B ≤ go ∧ B ≤ base) (hbase : base ≤ w.heap.size) :
    Calls Try.prog 50 #[.pointer (some ⟨g, 0, none⟩), .bool fin] w fun e w' => e = .returned (.tuple #[]) ∧ OutAt w' base go (T ++ [s.tell fin]) ∧ MacAt w' g h lv gc s go ∧ MK g go w w' ∧ Below B w w' := by
  obtain ⟨v, h1, h2⟩ := id ho
  refine (tell_any g gc go base h lv s fin T w hm ho hs hT hbase).mono ?_
  rintro e w' ⟨he, hout, hmac, v', hv', hst⟩
  rw [h1] at hv'
  cases hv'
  refine ⟨he, hout, hmac, fun b cs e fr hb1 hb2 hne hb => hst.kept hb ?_, hst.below (Nat.le_trans hB.2 hbase) ?_⟩
  · rintro (rfl | hk)
    · exact hb2 rfl
    · exact ob_ne h2 hb hne b hk rfl
  · rintro k (rfl | hk)
    · exact hB.1
    · exact Nat.le_trans hB.2 (World.ownsRow.lt h2 k hk).1
theorem special_ok {h : HeadM} {s : StM} (hs : s.ok) (op : Nat) : (h.special s op).ok := ⟨Nat.mod_lt _ (by decide), hs.file, (by show -9223372036854775808 ≤ wrap64 _; rw [wrap64]; omega), (by show wrap64 _ < 9223372036854775808; rw [wrap64]; omega)⟩
attribute [local irreducible] gN okB readLebR readSlebR
set_option maxHeartbeats 4000000 in
set_option maxRecDepth 100000 in
theorem special_any (g gc go base B op : Nat) (h : HeadM) (lv : Value) (s : StM) (T : List EntM) (w : World) (hm : MacAt w g h lv gc s go) (ho : OutAt w base go T) (hs : s.ok) (hT : T.length < 60000) (hB : B ≤ go ∧ B ≤ base) (hBg : B ≤ g) (hBw : B ≤ w.heap.size) (hbase : base ≤ w.heap.size) (hop : h.ops ≤ op) (hop9 : op < 256) (hsp : 0 < h.span) (_hst9 : h.step < 256) :
    Calls Try.prog 43 #[.pointer (some ⟨g, 0, none⟩), .int .i64 (op : Int)] w fun e w' => e = .returned (.tuple #[]) ∧ OutAt w' base go (T ++ [(h.special s op).tell false]) ∧ MacAt w' g h lv gc (h.special s op) go ∧ MK g go w w' ∧ Below B w w' := by
  have HM := Lib.hid hm
  have HO := Lib.hid ho
  have hgo : g ≠ go := by
    rintro rfl
    obtain ⟨v, h1, -⟩ := ho
    rw [hm] at h1
    cases h1
  have HGO := Lib.hid hgo
  obtain ⟨c0, c1, c2, c3, c4, c5, c6, c7, c8, c9⟩ := hm.cells
  have l1 := block_lt c0
  have HS := Lib.hid hs
  obtain ⟨hs1, hs2, hs3, hs4⟩ := hs
  obtain ⟨n, hn⟩ : ∃ n, n = op - h.ops := ⟨_, rfl⟩
  have hn9 : n < 256 := by omega
  have hno : IntKind.u64.wrap ((op : Int) - (h.ops : Int)) = (n : Int) := by rw [IntKind.wrap_u64]; omega
  have hno2 : (op : Int) - (h.ops : Int) = (n : Int) := by omega
  have HN := Lib.hid hn
  have hz : ((h.span : Int) == 0) = false := by simp; omega
  clear hm ho hgo hn
  go_enter Try.func43, Try.ntmps43
  go_wp2
  have hAB := fun (x : Above w) (b k : Nat) (h : b < w.heap.size) => Above.cell x b k h
  refine wp_region_walk 20 [] (by kernel_rfl) (by kernel_rfl) ?_
  simp only [List.take_succ_cons, List.take_zero, List.drop_succ_cons, List.drop_zero]
  try go_frame
  iterate 1 (refine walk_quiet (by kernel_rfl) rfl rfl ?_; intro K hK; go_big_quiet_op; go_big_quiet_on)
  refine walk_check (by kernel_rfl) rfl rfl ?_
  go_frame
  iterate 4 (refine walk_quiet (by kernel_rfl) rfl rfl ?_; intro K hK; go_big_quiet_op; go_big_quiet_on)
  refine walk_check (by kernel_rfl) rfl rfl ?_
  go_frame
  iterate 5 (refine walk_quiet (by kernel_rfl) rfl rfl ?_; intro K hK; go_big_quiet_op; go_big_quiet_on)
  refine walk_check (by kernel_rfl) rfl rfl ?_
  go_frame
  iterate 5 (refine walk_quiet (by kernel_rfl) rfl rfl ?_; intro K hK; go_big_quiet_op; go_big_quiet_on)
  refine walk_check (by kernel_rfl) rfl rfl ?_
  go_frame
  iterate 1 (refine walk_quiet (by kernel_rfl) rfl rfl ?_; intro K hK; go_big_quiet_op; go_big_quiet_on)
  refine walk_nil ?_
  intro wz hbz hF
  have HMZ := Lib.hid (HM.out.mono hbz)
  have HBZ := Lib.hid hbz
  clear hF hAB hbz
  refine wpList_setI HMZ.out (show 6 < 10 by decide) rfl rfl (fun w => by kernel_rfl) ?_
  intro w1 hh1 hs1
  have HM1 := Lib.hid (show MacAt w1 g h lv gc ⟨m64 (s.addr + m64 (n / h.span * h.step)), s.file, s.line⟩ go by
    have e0 : IntKind.u64.wrap ((n : Int) / (h.span : Int)) = ((n / h.span : Nat) : Int) := by
      rw [← Int.natCast_ediv, u64wrap_m64]
      have := Nat.div_le_self n h.span
      rw [show m64 (n / h.span) = n / h.span from Nat.mod_eq_of_lt (by omega)]
    unfold MacAt
    rw [hh1, e0, ← Int.natCast_mul, u64wrap_m64, ← Int.natCast_add, u64wrap_m64]
    rfl)
  have HO1 := Lib.hid (show OutAt w1 base go T from by
    obtain ⟨v, a, b⟩ := HO.out
    exact ⟨v, hs1.kept (heap_below HBZ.out a) (fun e => HGO.out e.symm), owns_stirs (b.mono HBZ.out) hs1 (ob_ne (b.mono HBZ.out) HMZ.out (by decide))⟩)
  have HK1 := Lib.hid ((MK.below HBZ.out).trans (MK.stirs (go := go) hs1))
  have HB1 := Lib.hid ((HBZ.out.mono (Nat.le_trans hBw (Nat.le_refl _))).trans (hs1.below (Nat.le_trans hBw HBZ.out.size) (fun k e => by rw [e]; exact hBg)))
  have hsz1 := Nat.le_trans HBZ.out.size hs1.size
  clear hh1 hs1 c0 c1 c2 c3 c4 c5 c6 c7 c8 c9 l1
  obtain ⟨c0, c1, c2, c3, c4, c5, c6, c7, c8, c9⟩ := HM1.out.cells
  have l1 := block_lt c0
  clear HM HO
  go_wp2
  have hAB := fun (x : Above w1) (b k : Nat) (h : b < w1.heap.size) => Above.cell x b k h
  refine wp_region_walk 21 [] (by kernel_rfl) (by kernel_rfl) ?_
  simp only [List.take_succ_cons, List.take_zero, List.drop_succ_cons, List.drop_zero]
  try go_frame
  iterate 1 (refine walk_quiet (by kernel_rfl) rfl rfl ?_; intro K hK; go_big_quiet_op; go_big_quiet_on)
  refine walk_check (by kernel_rfl) rfl rfl ?_
  go_frame
  iterate 3 (refine walk_quiet (by kernel_rfl) rfl rfl ?_; intro K hK; go_big_quiet_op; go_big_quiet_on)
  refine walk_check (by kernel_rfl) rfl rfl ?_
  go_frame
  iterate 5 (refine walk_quiet (by kernel_rfl) rfl rfl ?_; intro K hK; go_big_quiet_op; go_big_quiet_on)
  refine walk_check (by kernel_rfl) rfl rfl ?_
  go_frame
  iterate 7 (refine walk_quiet (by kernel_rfl) rfl rfl ?_; intro K hK; go_big_quiet_op; go_big_quiet_on)
  refine walk_check (by kernel_rfl) rfl rfl ?_
  go_frame
  iterate 1 (refine walk_quiet (by kernel_rfl) rfl rfl ?_; intro K hK; go_big_quiet_op; go_big_quiet_on)
  refine walk_nil ?_
  intro wz hbz hF
  have HMZ2 := Lib.hid (HM1.out.mono hbz)
  have HBZ2 := Lib.hid hbz
  clear hF hAB hbz
  refine wpList_setI HMZ2.out (show 8 < 10 by decide) rfl rfl (fun w => by kernel_rfl) ?_
  intro w2 hh2 hs2
  have HM2 := Lib.hid (show MacAt w2 g h lv gc ⟨m64 (s.addr + m64 (n / h.span * h.step)), s.file, wrap64 (s.line + wrap64 (h.base + (n % h.span : Nat)))⟩ go by
    unfold MacAt
    have e1 : wrap64 ((n : Int) % (h.span : Int)) = ((n % h.span : Nat) : Int) := by
      rw [← Int.natCast_emod]
      have := Nat.mod_le n h.span
      exact wrap_id (by omega) (by omega)
    rw [hh2, e1]
    rfl)
  have HO2 := Lib.hid (show OutAt w2 base go T from by
    obtain ⟨v, a, b⟩ := HO1.out
    exact ⟨v, hs2.kept (heap_below HBZ2.out a) (fun e => HGO.out e.symm), owns_stirs (b.mono HBZ2.out) hs2 (ob_ne (b.mono HBZ2.out) HMZ2.out (by decide))⟩)
  have HK2 := Lib.hid (HK1.out.trans ((MK.below HBZ2.out).trans (MK.stirs (go := go) hs2)))
  have HB2 := Lib.hid (HB1.out.trans ((HBZ2.out.mono (Nat.le_trans hBw hsz1)).trans (hs2.below (Nat.le_trans (Nat.le_trans hBw hsz1) HBZ2.out.size) (fun k e => by rw [e]; exact hBg))))
  have hsz2 := Nat.le_trans hsz1 (Nat.le_trans HBZ2.out.size hs2.size)
  have HSP := Lib.hid (show h.special s op = ⟨m64 (s.addr + m64 (n / h.span * h.step)), s.file, wrap64 (s.line + wrap64 (h.base + (n % h.span : Nat)))⟩ by rw [HN.out]; rfl)
  rw [← HSP.out] at HM2
  have HTL := Lib.hid (tell2 false HM2.out HO2.out (special_ok HS.out op) hT hB (Nat.le_trans hbase hsz2))
  clear hh2 hs2 c0 c1 c2 c3 c4 c5 c6 c7 c8 c9 l1
  go_wp2_with (go_at_call 50; go_must (refine HTL.out.mono ?_; rintro e w3 ⟨rfl, ho3, hm3, hk3, hb3⟩))
  go_end0
  exact ⟨rfl, ho3, hm3, HK2.out.trans hk3, HB2.out.trans hb3⟩
end Go.Proofs.Ytmpmkjlkhlagfaa
namespace Go.Proofs.Ytmpmkjlkhlagfaa
open Go.RowKit Go.Fd
/-- Blocks that are no machine, no cursor, no entries, and not the result's, stay. -/
def MR (go : Nat) (w w' : World) : Prop := ∀ (b : Nat) cs e fr, b ≠ go → e ≠ 73 → e ≠ 65 → e ≠ 43 → w.heap[b]? = some (.cells cs e fr) → w'.heap[b]? = some (.cells cs e fr)
theorem MR.refl (go : Nat) (w : World) : MR go w w := fun _ _ _ _ _ _ _ _ h => h
theorem MR.trans {go : Nat} {w w' w'' : World} (h : MR go w w') (k : MR go w' w'') : MR go w w'' := fun b cs e fr h1 h2 h3 h4 h5 => k b cs e fr h1 h2 h3 h4 (h b cs e fr h1 h2 h3 h4 h5)
theorem MR.below {go : Nat} {w w' : World} (h : Below w.heap.size w w') : MR go w w' := fun _ _ _ _ _ _ _ _ h5 => heap_below h h5
/-- What stays while a unit is read. -/
structure MaS (B base : Nat) (wS : World) (l : List UInt8) (bv : Value) (g gc go : Nat) (h : HeadM) : Prop where
  hg : B ≤ g
  hgc : B ≤ gc
  hgo : B ≤ go
  hb : B ≤ base
  hw : B ≤ wS.heap.size
  vs : ∀ wx, Below B wS wx → Bs wx bv l
  len : l.length ≤ 1000000
  ops : h.ops < 256
  span : 0 < h.span
  step : h.step < 256
/-- The machine, its cursor, and what has been told. -/
structure Ma (B base : Nat) (wS : World) (bv : Value) (g gc go : Nat) (h : HeadM) (lv : Value) (w : World) (s : StM) (a bl : Nat) (T : List EntM) : Prop where
  mac : MacAt w g h lv gc s go
  cur : CurAt w gc bv a bl
  out : OutAt w base go T
  below : Below B wS w
  hb : base ≤ w.heap.size
  ok : s.ok
section
variable {B base : Nat} {wS w w' : World} {l : List UInt8} {bv : Value} {g gc go : Nat} {h : HeadM} {lv : Value} {s s' : StM} {a a' bl bl' : Nat} {T T' : List EntM}
theorem Ma.ne (m : Ma B base wS bv g gc go h lv w s a bl T) : g ≠ gc ∧ g ≠ go ∧ gc ≠ go := by
  refine ⟨?_, ?_, ?_⟩
  · rintro rfl
    have h1 := m.mac
    have h2 := m.cur
    unfold MacAt at h1
    unfold CurAt at h2
    rw [h1] at h2
    simp only [Option.some.injEq, Obj.cells.injEq] at h2
    exact absurd h2.2.1 (by decide)
  · rintro rfl
    have h1 := m.mac
    obtain ⟨v, h2, -⟩ := m.out
    unfold MacAt at h1
    rw [h1] at h2
    cases h2
  · rintro rfl
    have h1 := m.cur
    obtain ⟨v, h2, -⟩ := m.out
    unfold CurAt at h1
    rw [h1] at h2
    cases h2
theorem Ma.mono (m : Ma B base wS bv g gc go h lv w s a bl T) (S : MaS B base wS l bv g gc go h) (hb : Below w.heap.size w w') : Ma B base wS bv g gc go h lv w' s a bl T := by
  obtain ⟨v, o1, o2⟩ := m.out
  exact ⟨m.mac.mono hb, m.cur.mono hb, ⟨v, heap_below hb o1, o2.mono hb⟩, m.below.trans (hb.mono (Nat.le_trans S.hw m.below.size)), Nat.le_trans m.hb hb.size, m.ok⟩
theorem Ma.curs (m : Ma B base wS bv g gc go h lv w s a bl T) (S : MaS B base wS l bv g gc go h) (hs : Stirs (fun k => k = gc) w w') (hc : CurAt w' gc bv a' bl') : Ma B base wS bv g gc go h lv w' s a' bl' T ∧ MR go w w' := by
  obtain ⟨n1, n2, n3⟩ := m.ne
  obtain ⟨v, o1, o2⟩ := m.out
  refine ⟨⟨m.mac.stirs hs n1, hc, ⟨v, hs.kept o1 (fun e => n3 e.symm), owns_stirs o2 hs (ob_ne o2 m.cur (by decide))⟩, m.below.trans (hs.below (Nat.le_trans S.hw m.below.size) (fun k e => by rw [e]; exact S.hgc)), Nat.le_trans m.hb hs.size, m.ok⟩, fun b cs e fr h1 h2 h3 h4 h5 => hs.kept h5 ?_⟩
  rintro rfl
  have h6 := m.cur
  unfold CurAt at h6
  rw [h5] at h6
  cases h6
  exact h3 rfl
theorem Ma.macs (m : Ma B base wS bv g gc go h lv w s a bl T) (S : MaS B base wS l bv g gc go h) (hs : Stirs (fun k => k = g) w w') (hm : MacAt w' g h lv gc s' go) (hok : s'.ok) : Ma B base wS bv g gc go h lv w' s' a bl T ∧ MR go w w' := by
  obtain ⟨n1, n2, n3⟩ := m.ne
  obtain ⟨v, o1, o2⟩ := m.out
  refine ⟨⟨hm, m.cur.stirs hs (fun e => n1 e.symm), ⟨v, hs.kept o1 (fun e => n2 e.symm), owns_stirs o2 hs (ob_ne o2 m.mac (by decide))⟩, m.below.trans (hs.below (Nat.le_trans S.hw m.below.size) (fun k e => by rw [e]; exact S.hg)), Nat.le_trans m.hb hs.size, hok⟩, fun b cs e fr h1 h2 h3 h4 h5 => hs.kept h5 ?_⟩
  rintro rfl
  have h6 := m.mac
  unfold MacAt at h6
  rw [h5] at h6
  cases h6
  exact h2 rfl
theorem Ma.outs (m : Ma B base wS bv g gc go h lv w s a bl T) (ho : OutAt w' base go T') (hm : MacAt w' g h lv gc s' go) (hok : s'.ok) (hk : MK g go w w') (hb : Below B w w') : Ma B base wS bv g gc go h lv w' s' a bl T' ∧ MR go w w' := by
  obtain ⟨n1, n2, n3⟩ := m.ne
  refine ⟨⟨hm, hk _ _ _ _ (fun e => n1 e.symm) n3 (by decide) m.cur, ho, m.below.trans hb, Nat.le_trans m.hb hb.size, hok⟩, fun b cs e fr h1 h2 h3 h4 h5 => hk b cs e fr ?_ h1 h4 h5⟩
  rintro rfl
  have h6 := m.mac
  unfold MacAt at h6
  rw [h5] at h6
  cases h6
  exact h2 rfl
end
theorem okB_le8 {l : List UInt8} {a : Nat} (h : okB l a 8 = true) : a + 8 ≤ l.length := by
  rw [show okB l a 8 = _ from okB_iff sz8] at h
  exact of_decide_eq_true h
theorem st0_ok : st0.ok := ⟨by decide, by decide, by decide, by decide⟩
attribute [local irreducible] gN okB readLebR readSlebR
set_option maxHeartbeats 4000000 in
set_option maxRecDepth 100000 in
theorem extFin_any {B base : Nat} {wS w : World} {l : List UInt8} {bv : Value} {g gc go : Nat} {h : HeadM} {lv : Value} {s : StM} {a bl : Nat} {T : List EntM} (m : Ma B base wS bv g gc go h lv w s (a + 1) bl T) (S : MaS B base wS l bv g gc go h) (hT : T.length < 60000)
    (r : readLebR l ((a : Int) + 1) = (1, 1, 0)) (ok2 : okB l (a + 2) 1 = true) (op2 : gN l (a + 2) 1 = 1) :
    Calls Try.prog 44 #[.pointer (some ⟨g, 0, none⟩)] w fun e w' => e = .returned (.tuple #[]) ∧ Ma B base wS bv g gc go h lv w' st0 (a + 3) bl (T ++ [s.tell true]) ∧ MR go w w' := by
  have HM := Lib.hid m
  have HMS := Lib.hid S
  have HR := Lib.hid (MR.refl go w)
  obtain ⟨mb, ad, cap, hmb, rfl, _, _⟩ := (S.vs w m.below).shape
  have hle := okB_le ok2
  have hmb9 : mb ≤ 1000000 := by have := hmb.out; have := S.len; omega
  have hma : a + 3 ≤ mb := by have := hmb.out; omega
  have r' : readLebR l ((a + 1 : Nat) : Int) = (1, 1, 0) := by rw [Int.natCast_add]; exact r
  have HL := Lib.hid (fun (wx : World) (bx : Nat) (hc : CurAt wx gc (.slice ad mb cap) (a + 1) bx) (hb : Below B wS wx) => curLeb_any l gc (a + 1) bx 1 1 _ wx hc (S.vs wx hb) (by have := S.len; omega) (by omega) (by omega) r')
  have HU := Lib.hid (fun (wx : World) (bx : Nat) (hc : CurAt wx gc (.slice ad mb cap) (a + 1 + 1) bx) (hb : Below B wS wx) => curU1 (N := 1) hc (S.vs wx hb) (by have := S.len; omega) (by omega) (show okB l (a + 1 + 1) 1 = true ∧ gN l (a + 1 + 1) 1 = 1 from ⟨ok2, op2⟩))
  have hd1 : decide ((1 : Int) ≤ (mb : Int) - ((a : Int) + 2)) = true := by simp; omega
  obtain ⟨c0, c1, c2, c3, c4, c5, c6, c7, c8, c9⟩ := m.mac.cells
  clear m S r r' ok2 op2 hmb
  go_enter Try.func44, Try.ntmps44
  go_wp2_with (go_at_call 48; go_must (refine (HL.out _ _ HM.out.cur HM.out.below).mono ?_; rintro e w1 ⟨rfl, hc1, hs1⟩; obtain ⟨hm1, hr1⟩ := HM.out.curs HMS.out hs1 hc1; have HM1 := Lib.hid hm1; have HR1 := Lib.hid (HR.out.trans hr1); clear hc1 hs1 hm1 hr1 c0 c1 c2 c3 c4 c5 c6 c7 c8 c9))
  clear HM HR
  obtain ⟨c0, c1, c2, c3, c4, c5, c6, c7, c8, c9⟩ := HM1.out.mac.cells
  obtain ⟨k0, k1, k2⟩ := HM1.out.cur.cells
  rw [show a + 1 + 1 = a + 2 from rfl] at k1
  have HMM := Lib.hid (fun n => (must_any (.pointer (some ⟨gc, 0, none⟩)) (w1.drewN n)).mono fun e w' ⟨h1, h2⟩ => (⟨h1, h2.symm⟩ : e = _ ∧ w' = w1.drewN n))
  go_quiet (((with_reducible show Calls _ 29 #[_, .bool true] _ _); exact Calls.quiet_of_same (HMM.out _)))
  have HBd := Lib.hid (below_drewN (Below.refl w1.heap.size w1) nq)
  generalize w1.drewN nq = wd at *
  have HM2 := Lib.hid (HM1.out.mono HMS.out HBd.out)
  have HR2 := Lib.hid (HR1.out.trans (MR.below HBd.out))
  clear HM1 HR1 HBd HMM c0 c1 c2 c3 c4 c5 c6 c7 c8 c9 k0 k1 k2
  obtain ⟨c0, c1, c2, c3, c4, c5, c6, c7, c8, c9⟩ := HM2.out.mac.cells
  obtain ⟨k0, k1, k2⟩ := HM2.out.cur.cells
  rw [show a + 1 + 1 = a + 2 from rfl] at k1
  go_wp2_with (first
    | (go_at_call 28; go_must (refine (HU.out _ _ HM2.out.cur HM2.out.below).mono ?_; rintro e w3 ⟨rfl, hc3, hs3⟩; obtain ⟨hm3, hr3⟩ := HM2.out.curs HMS.out hs3 hc3; have HM3 := Lib.hid hm3; have HR3 := Lib.hid (HR2.out.trans hr3); clear hc3 hs3 hm3 hr3 k0 k1 k2; clear c0 c1 c2 c3 c4 c5 c6 c7 c8 c9; obtain ⟨c0, c1, c2, c3, c4, c5, c6, c7, c8, c9⟩ := HM3.out.mac.cells))
    | ((with_reducible show Calls _ 29 #[_, .bool true] _ _); refine (must_any _ _).mono ?_; rintro e w8 ⟨rfl, rfl⟩)
    | (go_at_call 50; go_must (refine (tell2 true HM3.out.mac HM3.out.out HM3.out.ok hT ⟨HMS.out.hgo, HMS.out.hb⟩ HM3.out.hb).mono ?_; rintro e w4 ⟨rfl, ho4, hm4, hk4, hb4⟩; obtain ⟨hx4, hr4⟩ := HM3.out.outs ho4 hm4 HM3.out.ok hk4 hb4; have HM4 := Lib.hid hx4; have HR4 := Lib.hid (HR3.out.trans hr4); clear ho4 hm4 hk4 hb4 hx4 hr4; clear c0 c1 c2 c3 c4 c5 c6 c7 c8 c9; obtain ⟨c0, c1, c2, c3, c4, c5, c6, c7, c8, c9⟩ := HM4.out.mac.cells))
    | (go_at_call 42; go_must (refine (begin_any _ _ _ _ _ _ _ HM4.out.mac).mono ?_; rintro e w5 ⟨rfl, hm5, hs5⟩; obtain ⟨hx5, hr5⟩ := HM4.out.macs HMS.out hs5 hm5 st0_ok; have HM5 := Lib.hid hx5; have HR5 := Lib.hid (HR4.out.trans hr5); clear hm5 hs5 hx5 hr5; clear c0 c1 c2 c3 c4 c5 c6 c7 c8 c9; obtain ⟨c0, c1, c2, c3, c4, c5, c6, c7, c8, c9⟩ := HM5.out.mac.cells))
    | ((with_reducible show wpList _ _ _ (⟨none, .store _ _ _, _, _, _, _⟩ :: _) _ _); go_must (refine wpList_setI HM5.out.cur (show 1 < 3 by decide) rfl rfl (fun w => by kernel_rfl) ?_; intro w6 hh6 hs6; have HC6 := Lib.hid (show CurAt w6 gc (.slice ad mb cap) (a + 3) bl from (by unfold CurAt; rw [hh6]; simp; omega)); obtain ⟨hx6, hr6⟩ := HM5.out.curs HMS.out hs6 HC6.out; have HM6 := Lib.hid hx6; have HR6 := Lib.hid (HR5.out.trans hr6); clear hh6 hs6 hx6 hr6)))
  go_end0
  exact ⟨rfl, HM6.out, HR6.out⟩
set_option maxHeartbeats 4000000 in
set_option maxRecDepth 100000 in
theorem extSet_any {B base : Nat} {wS w : World} {l : List UInt8} {bv : Value} {g gc go : Nat} {h : HeadM} {lv : Value} {s : StM} {a bl : Nat} {T : List EntM} (m : Ma B base wS bv g gc go h lv w s (a + 1) bl T) (S : MaS B base wS l bv g gc go h) (r : readLebR l ((a : Int) + 1) = (9, 1, 0)) (ok2 : okB l (a + 2) 1 = true) (op2 : gN l (a + 2) 1 = 2) (ok3 : okB l (a + 3) 8 = true) :
    Calls Try.prog 44 #[.pointer (some ⟨g, 0, none⟩)] w fun e w' => e = .returned (.tuple #[]) ∧ Ma B base wS bv g gc go h lv w' ⟨gN l (a + 3) 8, s.file, s.line⟩ (a + 11) bl T ∧ MR go w w' := by
  have HM := Lib.hid m
  have HMS := Lib.hid S
  have HR := Lib.hid (MR.refl go w)
  obtain ⟨mb, ad, cap, hmb, rfl, _, _⟩ := (S.vs w m.below).shape
  have hle := okB_le8 ok3
  have hmb9 : mb ≤ 1000000 := by have := hmb.out; have := S.len; omega
  have hma : a + 11 ≤ mb := by have := hmb.out; omega
  have r' : readLebR l ((a + 1 : Nat) : Int) = (9, 1, 0) := by rw [Int.natCast_add]; exact r
  have HL := Lib.hid (fun (wx : World) (bx : Nat) (hc : CurAt wx gc (.slice ad mb cap) (a + 1) bx) (hb : Below B wS wx) => curLeb_any l gc (a + 1) bx 1 9 _ wx hc (S.vs wx hb) (by have := S.len; omega) (by omega) (by omega) r')
  have HU := Lib.hid (fun (wx : World) (bx : Nat) (hc : CurAt wx gc (.slice ad mb cap) (a + 1 + 1) bx) (hb : Below B wS wx) => curU1 (N := 2) hc (S.vs wx hb) (by have := S.len; omega) (by omega) (show okB l (a + 1 + 1) 1 = true ∧ gN l (a + 1 + 1) 1 = 2 from ⟨ok2, op2⟩))
  have HU8 := Lib.hid (fun (wx : World) (bx : Nat) (hc : CurAt wx gc (.slice ad mb cap) (a + 1 + 1 + 1) bx) (hb : Below B wS wx) => curU8 (N := gN l (a + 3) 8) hc (S.vs wx hb) (by have := S.len; omega) (by omega) (show okB l (a + 1 + 1 + 1) 8 = true ∧ gN l (a + 1 + 1 + 1) 8 = gN l (a + 3) 8 from ⟨ok3, rfl⟩))
  have hN8 := gN8 l (a + 3)
  have HNN := Lib.hid hN8
  generalize gN l (a + 3) 8 = N at *
  have hd1 : decide ((9 : Int) ≤ (mb : Int) - ((a : Int) + 2)) = true := by simp; omega
  obtain ⟨c0, c1, c2, c3, c4, c5, c6, c7, c8, c9⟩ := m.mac.cells
  clear m S r r' ok2 op2 ok3 hmb
  go_enter Try.func44, Try.ntmps44
  go_wp2_with (go_at_call 48; go_must (refine (HL.out _ _ HM.out.cur HM.out.below).mono ?_; rintro e w1 ⟨rfl, hc1, hs1⟩; obtain ⟨hm1, hr1⟩ := HM.out.curs HMS.out hs1 hc1; have HM1 := Lib.hid hm1; have HR1 := Lib.hid (HR.out.trans hr1); clear hc1 hs1 hm1 hr1 c0 c1 c2 c3 c4 c5 c6 c7 c8 c9))
  clear HM HR
  obtain ⟨c0, c1, c2, c3, c4, c5, c6, c7, c8, c9⟩ := HM1.out.mac.cells
  obtain ⟨k0, k1, k2⟩ := HM1.out.cur.cells
  rw [show a + 1 + 1 = a + 2 from rfl] at k1
  have HMM := Lib.hid (fun n => (must_any (.pointer (some ⟨gc, 0, none⟩)) (w1.drewN n)).mono fun e w' ⟨h1, h2⟩ => (⟨h1, h2.symm⟩ : e = _ ∧ w' = w1.drewN n))
  go_quiet (((with_reducible show Calls _ 29 #[_, .bool true] _ _); exact Calls.quiet_of_same (HMM.out _)))
  have HBd := Lib.hid (below_drewN (Below.refl w1.heap.size w1) nq)
  generalize w1.drewN nq = wd at *
  have HM2 := Lib.hid (HM1.out.mono HMS.out HBd.out)
  have HR2 := Lib.hid (HR1.out.trans (MR.below HBd.out))
  clear HM1 HR1 HBd HMM c0 c1 c2 c3 c4 c5 c6 c7 c8 c9 k0 k1 k2
  obtain ⟨c0, c1, c2, c3, c4, c5, c6, c7, c8, c9⟩ := HM2.out.mac.cells
  obtain ⟨k0, k1, k2⟩ := HM2.out.cur.cells
  rw [show a + 1 + 1 = a + 2 from rfl] at k1
  go_wp2_with (first
    | ((with_reducible show Calls _ 28 #[_, .int .i64 1] _ _); go_must (refine (HU.out _ _ HM2.out.cur HM2.out.below).mono ?_; rintro e w3 ⟨rfl, hc3, hs3⟩; obtain ⟨hm3, hr3⟩ := HM2.out.curs HMS.out hs3 hc3; have HM3 := Lib.hid hm3; have HR3 := Lib.hid (HR2.out.trans hr3); clear hc3 hs3 hm3 hr3 k0 k1 k2; clear c0 c1 c2 c3 c4 c5 c6 c7 c8 c9; obtain ⟨c0, c1, c2, c3, c4, c5, c6, c7, c8, c9⟩ := HM3.out.mac.cells))
    | ((with_reducible show Calls _ 28 #[_, .int .i64 8] _ _); go_must (refine (HU8.out _ _ HM3.out.cur HM3.out.below).mono ?_; rintro e w4 ⟨rfl, hc4, hs4⟩; obtain ⟨hm4, hr4⟩ := HM3.out.curs HMS.out hs4 hc4; have HM4 := Lib.hid hm4; have HR4 := Lib.hid (HR3.out.trans hr4); clear hc4 hs4 hm4 hr4; clear c0 c1 c2 c3 c4 c5 c6 c7 c8 c9; obtain ⟨c0, c1, c2, c3, c4, c5, c6, c7, c8, c9⟩ := HM4.out.mac.cells))
    | ((with_reducible show Calls _ 29 #[_, .bool true] _ _); refine (must_any _ _).mono ?_; rintro e w8 ⟨rfl, rfl⟩)
    | ((with_reducible show wpList _ _ _ (⟨none, .store 36 _ _, _, _, _, _⟩ :: _) _ _); go_must (refine wpList_setI HM4.out.mac (show 6 < 10 by decide) rfl rfl (fun w => by kernel_rfl) ?_; intro w5 hh5 hs5; obtain ⟨hx5, hr5⟩ := HM4.out.macs (s' := ⟨N, s.file, s.line⟩) HMS.out hs5 hh5 ⟨HNN.out, HM4.out.ok.file, HM4.out.ok.lo, HM4.out.ok.hi⟩; have HM5 := Lib.hid hx5; have HR5 := Lib.hid (HR4.out.trans hr5); clear hh5 hs5 hx5 hr5; clear c0 c1 c2 c3 c4 c5 c6 c7 c8 c9; obtain ⟨c0, c1, c2, c3, c4, c5, c6, c7, c8, c9⟩ := HM5.out.mac.cells))
    | ((with_reducible show wpList _ _ _ (⟨none, .store 3 _ _, _, _, _, _⟩ :: _) _ _); go_must (refine wpList_setI HM5.out.cur (show 1 < 3 by decide) rfl rfl (fun w => by kernel_rfl) ?_; intro w6 hh6 hs6; have HC6 := Lib.hid (show CurAt w6 gc (.slice ad mb cap) (a + 11) bl from (by unfold CurAt; rw [hh6]; simp; omega)); obtain ⟨hx6, hr6⟩ := HM5.out.curs HMS.out hs6 HC6.out; have HM6 := Lib.hid hx6; have HR6 := Lib.hid (HR5.out.trans hr6); clear hh6 hs6 hx6 hr6)))
  go_end0
  exact ⟨rfl, HM6.out, HR6.out⟩
end Go.Proofs.Ytmpmkjlkhlagfaa
namespace Go.Fd
open Go.RowKit
theorem walkT_check {P : Program} {F : Ph} {L r : List Oper} {M : List (Nat × YldT F)} {a : Act} {E : Act → Prop} {i : Nat} {d : Option Tmp} {ty : TypeId} {pos : String} {aft : Array Edge} {gd : Option (Nat × Bool)} {x : Operand} {p : Addr} (hw : Region.wanted ⟨d, .nilCheck x, ty, pos, aft, gd⟩ (yielded L.toArray a.tmps) = true) (hM : madeT M i = none) (hc : i ∉ F.C) (hp : a.eval x = .pointer (some p)) (hn : walkT P F L M E (i + 1) r (a.put d (.pointer (some p)))) : walkT P F L M E i (⟨d, .nilCheck x, ty, pos, aft, gd⟩ :: r) a :=
  walkT_val hw hM hc (fun _ w _ _ => by simp only [execOp, hp]; rfl) hn
end Go.Fd
namespace Go.Proofs.Ytmpmkjlkhlagfaa
open Go.RowKit Go.Fd
/-- A cursor that moves once. -/
def phCur (w : World) (gc : Nat) (bv : Value) (a1 a2 bl c : Nat) : Ph := ⟨fun t wx => CurAt wx gc bv (if t = 0 then a1 else a2) bl ∧ Stirs (fun k => k = gc) w wx, Stirs (fun k => k = gc), [c], fun _ _ => False⟩
theorem phCur_ok (w : World) (gc : Nat) (bv : Value) (a1 a2 bl c : Nat) : (phCur w gc bv a1 a2 bl c).Ok := ⟨fun _ _ _ h hb => ⟨h.1.mono hb, h.2.thenBelow hb⟩, fun _ _ hb => Stirs.of_below hb⟩
theorem ph_zero {c t : Nat} (h : phI [c] c t) : t = 0 := by
  have := h (by simp)
  cases t with
  | zero => rfl
  | succ n => simp at this
theorem nx_one {c : Nat} : nxI [c] c 0 = 1 := by simp [nxI]
attribute [local irreducible] gN okB readLebR readSlebR
set_option maxHeartbeats 4000000 in
set_option maxRecDepth 100000 in
theorem stdCopy_any {B base : Nat} {wS w : World} {l : List UInt8} {bv : Value} {g gc go : Nat} {h : HeadM} {lv : Value} {s : StM} {a bl : Nat} {T : List EntM} (m : Ma B base wS bv g gc go h lv w s (a + 1) bl T) (S : MaS B base wS l bv g gc go h) (hT : T.length < 60000) :
    Calls Try.prog 45 #[.pointer (some ⟨g, 0, none⟩), .int .i64 1] w fun e w' => e = .returned (.tuple #[]) ∧ Ma B base wS bv g gc go h lv w' s (a + 1) bl (T ++ [s.tell false]) ∧ MR go w w' := by
  have HM := Lib.hid m
  have HMS := Lib.hid S
  obtain ⟨c0, c1, c2, c3, c4, c5, c6, c7, c8, c9⟩ := m.mac.cells
  clear m S
  go_enter Try.func45, Try.ntmps45
  go_wp2_with (go_at_call 50; go_must (refine (tell2 false HM.out.mac HM.out.out HM.out.ok hT ⟨HMS.out.hgo, HMS.out.hb⟩ HM.out.hb).mono ?_; rintro e w4 ⟨rfl, ho4, hm4, hk4, hb4⟩; obtain ⟨hx4, hr4⟩ := HM.out.outs ho4 hm4 HM.out.ok hk4 hb4))
  go_end0
  exact ⟨rfl, hx4, hr4⟩
set_option maxHeartbeats 4000000 in
set_option maxRecDepth 100000 in
theorem stdFile_any {B base : Nat} {wS w : World} {l : List UInt8} {bv : Value} {g gc go : Nat} {h : HeadM} {lv : Value} {s : StM} {a bl : Nat} {T : List EntM} (m : Ma B base wS bv g gc go h lv w s (a + 1) bl T) (S : MaS B base wS l bv g gc go h) (n k : Nat) (hk : k ≤ 100) (hn : n < 18446744073709551616) (hle : a + 1 + k ≤ l.length) (r : readLebR l ((a : Int) + 1) = (n, k, 0)) :
    Calls Try.prog 45 #[.pointer (some ⟨g, 0, none⟩), .int .i64 4] w fun e w' => e = .returned (.tuple #[]) ∧ Ma B base wS bv g gc go h lv w' ⟨s.addr, n, s.line⟩ (a + 1 + k) bl T ∧ MR go w w' := by
  have HM := Lib.hid m
  have HMS := Lib.hid S
  obtain ⟨c0, c1, c2, c3, c4, c5, c6, c7, c8, c9⟩ := m.mac.cells
  have r' : readLebR l ((a + 1 : Nat) : Int) = (n, k, 0) := by rw [Int.natCast_add]; exact r
  have HL := Lib.hid (curLeb_any l gc (a + 1) bl k n _ w m.cur (S.vs w m.below) (by have := S.len; omega) (by have := S.len; omega) hk r')
  clear m S r r'
  go_enter Try.func45, Try.ntmps45
  go_wp2_with (first
    | (go_at_call 48; go_must (refine HL.out.mono ?_; rintro e w1 ⟨rfl, hc1, hs1⟩; obtain ⟨hm1, hr1⟩ := HM.out.curs HMS.out hs1 hc1; have HM1 := Lib.hid hm1; have HR1 := Lib.hid hr1; clear hc1 hs1 hm1 hr1 c0 c1 c2 c3 c4 c5 c6 c7 c8 c9))
    | ((with_reducible show wpList _ _ _ (⟨none, .store _ _ _, _, _, _, _⟩ :: _) _ _); go_must (refine wpList_setI HM1.out.mac (show 7 < 10 by decide) rfl rfl (fun w => by kernel_rfl) ?_; intro w5 hh5 hs5; obtain ⟨hx5, hr5⟩ := HM1.out.macs (s' := ⟨s.addr, n, s.line⟩) HMS.out hs5 hh5 ⟨HM1.out.ok.addr, hn, HM1.out.ok.lo, HM1.out.ok.hi⟩)))
  go_end0
  exact ⟨rfl, hx5, HR1.out.trans hr5⟩
set_option maxHeartbeats 4000000 in
set_option maxRecDepth 100000 in
theorem stdPc_any {B base : Nat} {wS w : World} {l : List UInt8} {bv : Value} {g gc go : Nat} {h : HeadM} {lv : Value} {s : StM} {a bl : Nat} {T : List EntM} (m : Ma B base wS bv g gc go h lv w s (a + 1) bl T) (S : MaS B base wS l bv g gc go h) (n k : Nat) (hk : k ≤ 100) (hle : a + 1 + k ≤ l.length) (r : readLebR l ((a : Int) + 1) = (n, k, 0)) :
    Calls Try.prog 45 #[.pointer (some ⟨g, 0, none⟩), .int .i64 2] w fun e w' => e = .returned (.tuple #[]) ∧ Ma B base wS bv g gc go h lv w' ⟨m64 (s.addr + m64 (n * h.step)), s.file, s.line⟩ (a + 1 + k) bl T ∧ MR go w w' := by
  have HM := Lib.hid m
  have HMS := Lib.hid S
  obtain ⟨c0, c1, c2, c3, c4, c5, c6, c7, c8, c9⟩ := m.mac.cells
  obtain ⟨n1, n2, n3⟩ := m.ne
  have r' : readLebR l ((a + 1 : Nat) : Int) = (n, k, 0) := by rw [Int.natCast_add]; exact r
  have HL := Lib.hid (fun (wx : World) (h1 : CurAt wx gc bv (a + 1) bl) (h2 : Stirs (fun k => k = gc) w wx) => curLeb_any l gc (a + 1) bl k n bv wx h1 (S.vs wx (m.below.trans (h2.below (Nat.le_trans S.hw m.below.size) (fun k e => by rw [e]; exact S.hgc)))) (by have := S.len; omega) (by have := S.len; omega) hk r')
  have l1 := block_lt c0
  obtain ⟨F, hF⟩ : ∃ F, F = phCur w gc bv (a + 1) (a + 1 + k) bl 8 := ⟨_, rfl⟩
  have HFO := Lib.hid (show F.Ok from hF ▸ phCur_ok _ _ _ _ _ _ _)
  have hFC : F.C = [8] := by rw [hF]; rfl
  have hbd : Below w.heap.size w w.drew := (Below.refl _ _).drew
  have h0 : F.I 0 w := by rw [hF]; exact ⟨m.cur, Stirs.refl _ _⟩
  have hne : Nonempty (In F) := ⟨⟨w, 0, h0⟩⟩
  have HAB := Lib.hid (show ∀ (x : In F) (b k : Nat), b < w.heap.size → b ≠ gc → x.w.cell? ⟨b, k, none⟩ = w.cell? ⟨b, k, none⟩ from fun x b k hb hn => by
    have key : ∀ t wx, F.I t wx → Stirs (fun k => k = gc) w wx := by rw [hF]; exact fun _ _ h => h.2
    unfold World.cell?
    rw [(key x.t x.w x.h).block b hb hn])
  have hph : ∀ (tz : Nat) (wz : World), phI F.C 8 tz → F.I tz wz → Calls Try.prog 48 #[.pointer (some ⟨gc, 0, none⟩)] wz fun e w' => (∃ v, e = .returned v ∧ (YldT.is F (.int .u64 (n : Int))).R v w' ∧ F.T wz w' ∧ F.I (nxI F.C 8 tz) w') ∨ (∃ c, e = .panicked c ∧ F.Up (.panic c) w') := fun tz wz hp hi => by
    rw [hFC] at hp
    obtain rfl := ph_zero hp
    rw [hF] at hi
    refine (HL.out wz hi.1 hi.2).mono ?_
    rintro e w' ⟨rfl, h1, h2⟩
    refine .inl ⟨_, rfl, YldT.is_mk, ?_, ?_⟩
    · rw [hF]; exact h2
    · rw [hFC, nx_one, hF]; exact ⟨h1, hi.2.trans h2 fun _ _ h => h⟩
  have HPH := Lib.hid hph
  have HFC := Lib.hid hFC
  have HF := Lib.hid hF
  have H0 := Lib.hid h0
  clear m S r r' hph hFC h0 hF
  go_enter Try.func45, Try.ntmps45
  go_wp2
  have hAB := HAB.out
  refine wp_region_walkT F HFO.out 18 [(8, .is F (.int .u64 (n : Int)))] (by kernel_rfl) (by kernel_rfl) (by rw [HFC.out]; kernel_rfl) H0.out (fun _ _ _ hu => by rw [HF.out] at hu; exact hu.elim) ?_
  simp only [List.take_succ_cons, List.take_zero, List.drop_succ_cons, List.drop_zero]
  try go_frame
  iterate 1 (refine walkT_quiet (by kernel_rfl) rfl (by rw [HFC.out]; rfl) rfl ?_; intro K hK; go_big_quiet_op; go_big_quiet_on)
  refine walkT_check (by kernel_rfl) rfl (by rw [HFC.out]; decide) rfl ?_
  go_frame
  iterate 3 (refine walkT_quiet (by kernel_rfl) rfl (by rw [HFC.out]; rfl) rfl ?_; intro K hK; go_big_quiet_op; go_big_quiet_on)
  refine walkT_check (by kernel_rfl) rfl (by rw [HFC.out]; decide) rfl ?_
  go_frame
  iterate 2 (refine walkT_quiet (by kernel_rfl) rfl (by rw [HFC.out]; rfl) rfl ?_; intro K hK; go_big_quiet_op; go_big_quiet_on)
  refine walkT_is (by kernel_rfl) rfl (fun tz wz hph hz _ => WpT.call (run_callL (vals := [_]) Try.func48 (by kernel_rfl) rfl rfl) (HPH.out tz wz hph hz)) ?_
  go_frame
  iterate 1 (refine walkT_quiet (by kernel_rfl) rfl (by rw [HFC.out]; rfl) rfl ?_; intro K hK; go_big_quiet_op; go_big_quiet_on)
  refine walkT_check (by kernel_rfl) rfl (by rw [HFC.out]; decide) rfl ?_
  go_frame
  iterate 5 (refine walkT_quiet (by kernel_rfl) rfl (by rw [HFC.out]; rfl) rfl ?_; intro K hK; go_big_quiet_op; go_big_quiet_on)
  refine walkT_check (by kernel_rfl) rfl (by rw [HFC.out]; decide) rfl ?_
  go_frame
  iterate 1 (refine walkT_quiet (by kernel_rfl) rfl (by rw [HFC.out]; rfl) rfl ?_; intro K hK; go_big_quiet_op; go_big_quiet_on)
  refine walkT_nil ?_
  intro wz hiz hFz
  have HIZ := Lib.hid (show CurAt wz gc bv (a + 1 + k) bl ∧ Stirs (fun k => k = gc) w wz by rw [HFC.out, HF.out] at hiz; exact hiz)
  clear hiz hFz hAB
  obtain ⟨hm1, hr1⟩ := HM.out.curs HMS.out HIZ.out.2 HIZ.out.1
  refine wpList_setI hm1.mac (show 6 < 10 by decide) rfl rfl (fun w => by kernel_rfl) ?_
  intro w5 hh5 hs5
  obtain ⟨hx5, hr5⟩ := hm1.macs (s' := ⟨m64 (s.addr + m64 (n * h.step)), s.file, s.line⟩) HMS.out hs5 (by
    unfold MacAt
    rw [hh5, ← Int.natCast_mul, u64wrap_m64, ← Int.natCast_add, u64wrap_m64]
    rfl) ⟨Nat.mod_lt _ (by decide), hm1.ok.file, hm1.ok.lo, hm1.ok.hi⟩
  clear hh5 hs5 hm1 c0 c1 c2 c3 c4 c5 c6 c7 c8 c9 HAB HPH HL
  go_wp2
  go_end0
  exact ⟨rfl, hx5, hr1.trans hr5⟩
set_option maxHeartbeats 4000000 in
set_option maxRecDepth 100000 in
theorem stdLine_any {B base : Nat} {wS w : World} {l : List UInt8} {bv : Value} {g gc go : Nat} {h : HeadM} {lv : Value} {s : StM} {a bl : Nat} {T : List EntM} (m : Ma B base wS bv g gc go h lv w s (a + 1) bl T) (S : MaS B base wS l bv g gc go h) (n : Int) (k : Nat) (hk : k ≤ 100) (hle : a + 1 + k ≤ l.length) (r : readSlebR l ((a : Int) + 1) = (n, k, 0)) :
    Calls Try.prog 45 #[.pointer (some ⟨g, 0, none⟩), .int .i64 3] w fun e w' => e = .returned (.tuple #[]) ∧ Ma B base wS bv g gc go h lv w' ⟨s.addr, s.file, wrap64 (s.line + n)⟩ (a + 1 + k) bl T ∧ MR go w w' := by
  have HM := Lib.hid m
  have HMS := Lib.hid S
  obtain ⟨c0, c1, c2, c3, c4, c5, c6, c7, c8, c9⟩ := m.mac.cells
  obtain ⟨n1, n2, n3⟩ := m.ne
  have r' : readSlebR l ((a + 1 : Nat) : Int) = (n, k, 0) := by rw [Int.natCast_add]; exact r
  have HL := Lib.hid (fun (wx : World) (h1 : CurAt wx gc bv (a + 1) bl) (h2 : Stirs (fun k => k = gc) w wx) => curSleb_any l gc (a + 1) bl k n bv wx h1 (S.vs wx (m.below.trans (h2.below (Nat.le_trans S.hw m.below.size) (fun k e => by rw [e]; exact S.hgc)))) (by have := S.len; omega) (by have := S.len; omega) hk r')
  have l1 := block_lt c0
  obtain ⟨F, hF⟩ : ∃ F, F = phCur w gc bv (a + 1) (a + 1 + k) bl 8 := ⟨_, rfl⟩
  have HFO := Lib.hid (show F.Ok from hF ▸ phCur_ok _ _ _ _ _ _ _)
  have hFC : F.C = [8] := by rw [hF]; rfl
  have hbd : Below w.heap.size w w.drew := (Below.refl _ _).drew
  have h0 : F.I 0 w := by rw [hF]; exact ⟨m.cur, Stirs.refl _ _⟩
  have hne : Nonempty (In F) := ⟨⟨w, 0, h0⟩⟩
  have HAB := Lib.hid (show ∀ (x : In F) (b k : Nat), b < w.heap.size → b ≠ gc → x.w.cell? ⟨b, k, none⟩ = w.cell? ⟨b, k, none⟩ from fun x b k hb hn => by
    have key : ∀ t wx, F.I t wx → Stirs (fun k => k = gc) w wx := by rw [hF]; exact fun _ _ h => h.2
    unfold World.cell?
    rw [(key x.t x.w x.h).block b hb hn])
  have hph : ∀ (tz : Nat) (wz : World), phI F.C 8 tz → F.I tz wz → Calls Try.prog 51 #[.pointer (some ⟨gc, 0, none⟩)] wz fun e w' => (∃ v, e = .returned v ∧ (YldT.is F (.int .i64 (n : Int))).R v w' ∧ F.T wz w' ∧ F.I (nxI F.C 8 tz) w') ∨ (∃ c, e = .panicked c ∧ F.Up (.panic c) w') := fun tz wz hp hi => by
    rw [hFC] at hp
    obtain rfl := ph_zero hp
    rw [hF] at hi
    refine (HL.out wz hi.1 hi.2).mono ?_
    rintro e w' ⟨rfl, h1, h2⟩
    refine .inl ⟨_, rfl, YldT.is_mk, ?_, ?_⟩
    · rw [hF]; exact h2
    · rw [hFC, nx_one, hF]; exact ⟨h1, hi.2.trans h2 fun _ _ h => h⟩
  have HPH := Lib.hid hph
  have HFC := Lib.hid hFC
  have HF := Lib.hid hF
  have H0 := Lib.hid h0
  clear m S r r' hph hFC h0 hF
  go_enter Try.func45, Try.ntmps45
  go_wp2
  have hAB := HAB.out
  refine wp_region_walkT F HFO.out 12 [(8, .is F (.int .i64 (n : Int)))] (by kernel_rfl) (by kernel_rfl) (by rw [HFC.out]; kernel_rfl) H0.out (fun _ _ _ hu => by rw [HF.out] at hu; exact hu.elim) ?_
  simp only [List.take_succ_cons, List.take_zero, List.drop_succ_cons, List.drop_zero]
  try go_frame
  iterate 1 (refine walkT_quiet (by kernel_rfl) rfl (by rw [HFC.out]; rfl) rfl ?_; intro K hK; go_big_quiet_op; go_big_quiet_on)
  refine walkT_check (by kernel_rfl) rfl (by rw [HFC.out]; decide) rfl ?_
  go_frame
  iterate 3 (refine walkT_quiet (by kernel_rfl) rfl (by rw [HFC.out]; rfl) rfl ?_; intro K hK; go_big_quiet_op; go_big_quiet_on)
  refine walkT_check (by kernel_rfl) rfl (by rw [HFC.out]; decide) rfl ?_
  go_frame
  iterate 2 (refine walkT_quiet (by kernel_rfl) rfl (by rw [HFC.out]; rfl) rfl ?_; intro K hK; go_big_quiet_op; go_big_quiet_on)
  refine walkT_is (by kernel_rfl) rfl (fun tz wz hph hz _ => WpT.call (run_callL (vals := [_]) Try.func51 (by kernel_rfl) rfl rfl) (HPH.out tz wz hph hz)) ?_
  go_frame
  iterate 1 (refine walkT_quiet (by kernel_rfl) rfl (by rw [HFC.out]; rfl) rfl ?_; intro K hK; go_big_quiet_op; go_big_quiet_on)
  refine walkT_check (by kernel_rfl) rfl (by rw [HFC.out]; decide) rfl ?_
  go_frame
  iterate 1 (refine walkT_quiet (by kernel_rfl) rfl (by rw [HFC.out]; rfl) rfl ?_; intro K hK; go_big_quiet_op; go_big_quiet_on)
  refine walkT_nil ?_
  intro wz hiz hFz
  have HIZ := Lib.hid (show CurAt wz gc bv (a + 1 + k) bl ∧ Stirs (fun k => k = gc) w wz by rw [HFC.out, HF.out] at hiz; exact hiz)
  clear hiz hFz hAB
  obtain ⟨hm1, hr1⟩ := HM.out.curs HMS.out HIZ.out.2 HIZ.out.1
  refine wpList_setI hm1.mac (show 8 < 10 by decide) rfl rfl (fun w => by kernel_rfl) ?_
  intro w5 hh5 hs5
  obtain ⟨hx5, hr5⟩ := hm1.macs (s' := ⟨s.addr, s.file, wrap64 (s.line + n)⟩) HMS.out hs5 (by
    unfold MacAt
    rw [hh5]
    rfl) ⟨hm1.ok.addr, hm1.ok.file, (by show -9223372036854775808 ≤ wrap64 _; rw [wrap64]; omega), (by show wrap64 _ < 9223372036854775808; rw [wrap64]; omega)⟩
  clear hh5 hs5 hm1 c0 c1 c2 c3 c4 c5 c6 c7 c8 c9 HAB HPH HL
  go_wp2
  go_end0
  exact ⟨rfl, hx5, hr1.trans hr5⟩
set_option maxHeartbeats 4000000 in
set_option maxRecDepth 100000 in
theorem stdConst_any {B base : Nat} {wS w : World} {l : List UInt8} {bv : Value} {g gc go : Nat} {h : HeadM} {lv : Value} {s : StM} {a bl : Nat} {T : List EntM} (m : Ma B base wS bv g gc go h lv w s (a + 1) bl T) (S : MaS B base wS l bv g gc go h)  :
    Calls Try.prog 45 #[.pointer (some ⟨g, 0, none⟩), .int .i64 8] w fun e w' => e = .returned (.tuple #[]) ∧ Ma B base wS bv g gc go h lv w' ⟨m64 (s.addr + m64 ((255 - h.ops) / h.span * h.step)), s.file, s.line⟩ (a + 1) bl T ∧ MR go w w' := by
  have HM := Lib.hid m
  have HMS := Lib.hid S
  obtain ⟨c0, c1, c2, c3, c4, c5, c6, c7, c8, c9⟩ := m.mac.cells
  have l1 := block_lt c0
  obtain ⟨n, hn⟩ : ∃ n, n = 255 - h.ops := ⟨_, rfl⟩
  have hn9 : n < 256 := by omega
  have ho9 := S.ops
  have hno : IntKind.u64.wrap (255 - (h.ops : Int)) = (n : Int) := by rw [IntKind.wrap_u64]; omega
  have hno2 : 255 - (h.ops : Int) = (n : Int) := by omega
  have hsp := S.span
  rw [← hn]
  clear m S hn ho9
  go_enter Try.func45, Try.ntmps45
  go_wp2
  have hAB := fun (x : Above w) (b k : Nat) (h : b < w.heap.size) => Above.cell x b k h
  refine wp_region_walk 26 [] (by kernel_rfl) (by kernel_rfl) ?_
  simp only [List.take_succ_cons, List.take_zero, List.drop_succ_cons, List.drop_zero]
  try go_frame
  iterate 1 (refine walk_quiet (by kernel_rfl) rfl rfl ?_; intro K hK; go_big_quiet_op; go_big_quiet_on)
  refine walk_check (by kernel_rfl) rfl rfl ?_
  go_frame
  iterate 3 (refine walk_quiet (by kernel_rfl) rfl rfl ?_; intro K hK; go_big_quiet_op; go_big_quiet_on)
  refine walk_check (by kernel_rfl) rfl rfl ?_
  go_frame
  iterate 6 (refine walk_quiet (by kernel_rfl) rfl rfl ?_; intro K hK; go_big_quiet_op; go_big_quiet_on)
  refine walk_check (by kernel_rfl) rfl rfl ?_
  go_frame
  iterate 5 (refine walk_quiet (by kernel_rfl) rfl rfl ?_; intro K hK; go_big_quiet_op; go_big_quiet_on)
  refine walk_check (by kernel_rfl) rfl rfl ?_
  go_frame
  iterate 5 (refine walk_quiet (by kernel_rfl) rfl rfl ?_; intro K hK; go_big_quiet_op; go_big_quiet_on)
  refine walk_check (by kernel_rfl) rfl rfl ?_
  go_frame
  iterate 1 (refine walk_quiet (by kernel_rfl) rfl rfl ?_; intro K hK; go_big_quiet_op; go_big_quiet_on)
  refine walk_nil ?_
  intro wz hbz hF
  have hm1 := HM.out.mono HMS.out hbz
  have HBZ := Lib.hid hbz
  clear hF hAB hbz
  refine wpList_setI hm1.mac (show 6 < 10 by decide) rfl rfl (fun w => by kernel_rfl) ?_
  intro w5 hh5 hs5
  obtain ⟨hx5, hr5⟩ := hm1.macs (s' := ⟨m64 (s.addr + m64 (n / h.span * h.step)), s.file, s.line⟩) HMS.out hs5 (by
    have e0 : IntKind.u64.wrap ((n : Int) / (h.span : Int)) = ((n / h.span : Nat) : Int) := by
      rw [← Int.natCast_ediv, u64wrap_m64]
      have := Nat.div_le_self n h.span
      rw [show m64 (n / h.span) = n / h.span from Nat.mod_eq_of_lt (by omega)]
    unfold MacAt
    rw [hh5, e0, ← Int.natCast_mul, u64wrap_m64, ← Int.natCast_add, u64wrap_m64]
    rfl) ⟨Nat.mod_lt _ (by decide), hm1.ok.file, hm1.ok.lo, hm1.ok.hi⟩
  clear hh5 hs5 hm1 c0 c1 c2 c3 c4 c5 c6 c7 c8 c9
  go_wp2
  go_end0
  exact ⟨rfl, hx5, (MR.below HBZ.out).trans hr5⟩
end Go.Proofs.Ytmpmkjlkhlagfaa
namespace Go.Proofs.Ytmpmkjlkhlagfaa
open Go.RowKit Go.Fd
theorem sevens_le {x g : List UInt8} (h : sevens x = some g) : g.length ≤ x.length := by
  induction x generalizing g with
  | nil => simp [sevens] at h
  | cons c r ih =>
    rw [sevens] at h
    split at h
    · cases h; simp
    · cases hr : sevens r with
      | none => rw [hr] at h; cases h
      | some q =>
        rw [hr] at h
        cases h
        have := ih hr
        simp
        omega
theorem sevenR_le {l : List UInt8} {a : Nat} (h : (sevenR l (a : Int)).2 = 0) : a + (sevenR l (a : Int)).1.length ≤ l.length := by
  rw [sevenR] at h ⊢
  split at h
  · simp at h
  · next h0 =>
    rw [if_neg h0]
    rw [Int.toNat_natCast] at h ⊢
    cases hs : sevens (l.drop a) with
    | none => rw [hs] at h; simp at h
    | some g =>
      rw [hs] at h
      have := sevens_le hs
      rw [List.length_drop] at this
      dsimp only at h ⊢
      split at h
      · simp at h
      · next h1 =>
        rw [if_neg h1]
        dsimp only
        omega
theorem readLeb_le {l : List UInt8} {a n k : Nat} (h : readLebR l (a : Int) = (n, k, 0)) : a + k ≤ l.length ∧ k ≤ 100 ∧ n < 18446744073709551616 := by
  refine ⟨?_, readLeb_k h, ?_⟩
  all_goals
    unfold readLebR at h
    split at h
    · next h1 =>
      simp only [Prod.mk.injEq] at h
      exact absurd h.2.2 h1
    · next h1 =>
      have h2 : (sevenR l ↑a).2 = 0 := Decidable.byContradiction h1
      split at h
      · simp only [Prod.mk.injEq] at h
        omega
      · next h3 =>
        simp only [Prod.mk.injEq] at h
        have h4 := sevenR_le h2
        have h5 := sevenR_len l a h2
        first
          | (rw [← h.2.1]; exact h4)
          | (rw [← h.1]
             have h6 := low7_lt (sevenR l ↑a).1
             generalize hg : (sevenR l ↑a).1 = g at *
             have hl7 : (low7 g).length = g.length := by simp [low7]
             by_cases h10 : g.length = 10
             · have h9 : ¬ 1 < (low7 g)[9]?.getD 0 := fun h => h3 ⟨h10, h⟩
               have hx : (low7 g)[9]? = some ((low7 g)[9]'(by omega)) := List.getElem?_eq_getElem _
               have ht : low7 g = (low7 g).take 9 ++ [(low7 g)[9]'(by omega)] := by
                 have := take_snoc' (low7 g) 9 _ hx
                 rw [List.take_of_length_le (by omega)] at this
                 exact this
               rw [hx, Option.getD_some] at h9
               rw [ht, lebVal_snoc]
               have hb := lebVal_lt ((low7 g).take 9) (fun d hd => h6 d (List.mem_of_mem_take hd))
               have hlt : ((low7 g).take 9).length = 9 := by rw [List.length_take]; omega
               rw [hlt] at hb ⊢
               have h11 : (low7 g)[9]'(by omega) * 128 ^ 9 ≤ 1 * 128 ^ 9 := Nat.mul_le_mul_right _ (by omega)
               have h12 : (128 : Nat) ^ 9 = 9223372036854775808 := by decide
               omega
             · have hb := lebVal_lt (low7 g) h6
               rw [hl7] at hb
               exact Nat.lt_of_lt_of_le hb (Nat.le_trans (Nat.pow_le_pow_right (by omega) (show g.length ≤ 9 by omega)) (by decide)))
theorem readSleb_le {l : List UInt8} {a k : Nat} {n : Int} (h : readSlebR l (a : Int) = (n, k, 0)) : a + k ≤ l.length ∧ k ≤ 100 := by
  unfold readSlebR at h
  split at h
  · next h1 =>
    simp only [Prod.mk.injEq] at h
    exact absurd h.2.2 h1
  · next h1 =>
    have h2 : (sevenR l ↑a).2 = 0 := Decidable.byContradiction h1
    split at h
    · simp only [Prod.mk.injEq] at h
      omega
    · simp only [Prod.mk.injEq] at h
      have h4 := sevenR_le h2
      have h5 := sevenR_len l a h2
      rw [← h.2.1]
      exact ⟨h4, by omega⟩
theorem run_step' {h : HeadM} {l : List UInt8} {a : Nat} {s : StM} {T : List EntM} (r : RunAt h l a s T) (lt : a < l.length) : ∃ a' s' t T', OpAt h l a s s' t a' ∧ RunAt h l a' s' T' ∧ T = t ++ T' := by
  cases r with
  | done => exact absurd lt (Nat.lt_irrefl _)
  | step _ o r => exact ⟨_, _, _, _, o, r, rfl⟩
theorem run_end {h : HeadM} {l : List UInt8} {a : Nat} {s : StM} {T : List EntM} (r : RunAt h l a s T) (ge : ¬ a < l.length) : T = [] ∧ a = l.length := by
  cases r with
  | done => exact ⟨rfl, rfl⟩
  | step lt _ _ => exact absurd lt ge
theorem run_le {h : HeadM} {l : List UInt8} {a : Nat} {s : StM} {T : List EntM} (r : RunAt h l a s T) : a ≤ l.length := by
  cases r with
  | done => exact Nat.le_refl _
  | step lt _ _ => exact Nat.le_of_lt lt
theorem op_lt {h : HeadM} {l : List UInt8} {a a' : Nat} {s s' : StM} {t : List EntM} (o : OpAt h l a s s' t a') : a < a' := by cases o <;> omega
/-- Where a cursor stands. -/
def atOf (g : Nat) (w : World) : Nat := match w.cell? ⟨g, 1, none⟩ with
  | some (.int _ n) => n.toNat
  | _ => 0
theorem atOf_cur {w : World} {g a bl : Nat} {bv : Value} (h : CurAt w g bv a bl) : atOf g w = a := by
  unfold atOf
  rw [h.cells.2.1]
  simp
attribute [local irreducible] gN okB readLebR readSlebR
set_option maxHeartbeats 8000000 in
set_option maxRecDepth 100000 in
theorem run_any {B base : Nat} {wS w : World} {l : List UInt8} {bv : Value} {g gc go : Nat} {h : HeadM} {lv : Value} {s : StM} {a bl : Nat} {T0 T : List EntM} (m : Ma B base wS bv g gc go h lv w s a bl T0) (S : MaS B base wS l bv g gc go h) (r : RunAt h l a st0 T) (hT : (T0 ++ T).length < 60000) :
    Calls Try.prog 31 #[.pointer (some ⟨g, 0, none⟩)] w fun e w' => e = .returned (.tuple #[]) ∧ (∃ s' bl', Ma B base wS bv g gc go h lv w' s' l.length bl' (T0 ++ T)) ∧ MR go w w' := by
  have HMS := Lib.hid S
  obtain ⟨mb, ad, cap, hmb, rfl, _, _⟩ := (S.vs w m.below).shape
  have HMB := Lib.hid hmb.out
  have hmb9 : mb ≤ 1000000 := by have := hmb.out; have := S.len; omega
  have HM := Lib.hid m
  have HRT := Lib.hid r
  have HT := Lib.hid hT
  have HOPS := Lib.hid S.ops
  clear m S r hmb hT
  go_enter Try.func31, Try.ntmps31
  go_wp2_with (go_at_call 42; go_must (refine (begin_any _ _ _ _ _ _ _ HM.out.mac).mono ?_; rintro e w5 ⟨rfl, hm5, hs5⟩; obtain ⟨hx5, hr5⟩ := HM.out.macs HMS.out hs5 hm5 st0_ok; have HM5 := Lib.hid hx5; have HR5 := Lib.hid hr5; clear hm5 hs5 hx5 hr5))
  go_loopw [2] (fun _ wr => ∃ (a bl : Nat) (s : StM) (T1 T2 : List EntM), Hid (Ma B base wS (.slice ad mb cap) g gc go h lv wr s a bl (T0 ++ T1)) ∧ Hid (RunAt h l a s T2) ∧ Hid (T = T1 ++ T2) ∧ Hid (MR go w wr) ∧ a ≤ l.length) (fun _ wr => l.length - atOf gc wr)
  case atStart => exact ⟨a, bl, st0, [], T, by rw [List.append_nil]; exact HM5.out, HRT.out, rfl, HR5.out, run_le HRT.out⟩
  case round =>
    obtain ⟨a, bl, s, T1, T2, HMr, HRr, HTr, HRw, hal⟩ := hrel
    obtain ⟨c0, c1, c2, c3, c4, c5, c6, c7, c8, c9⟩ := HMr.out.mac.cells
    obtain ⟨k0, k1, k2⟩ := HMr.out.cur.cells
    by_cases hlt : a < mb
    · have hd1 : decide ((a : Int) < (mb : Int)) = true := by simp; omega
      go_wp2
      go_quiet (fail)
      have HBd := Lib.hid (below_drewN (Below.refl wr.heap.size wr) nq)
      generalize wr.drewN nq = wd at *
      have HM1 := Lib.hid (HMr.out.mono HMS.out HBd.out)
      have HR1 := Lib.hid (HRw.out.trans (MR.below HBd.out))
      have hat := atOf_cur HMr.out.cur
      clear HMr HRw HBd c0 c1 c2 c3 c4 c5 c6 c7 c8 c9 k0 k1 k2
      obtain ⟨c0, c1, c2, c3, c4, c5, c6, c7, c8, c9⟩ := HM1.out.mac.cells
      obtain ⟨k0, k1, k2⟩ := HM1.out.cur.cells
      have l1 := block_lt c0
      have l2 := block_lt k0
      go_wp2
      have hAB := fun (x : Above wd) (b k : Nat) (h : b < wd.heap.size) => Above.cell x b k h
      refine wp_region_walk 13 [] (by kernel_rfl) (by kernel_rfl) ?_
      simp only [List.take_succ_cons, List.take_zero, List.drop_succ_cons, List.drop_zero]
      try go_frame
      iterate 1 (refine walk_quiet (by kernel_rfl) rfl rfl ?_; intro K hK; go_big_quiet_op; go_big_quiet_on)
      refine walk_check (by kernel_rfl) rfl rfl ?_
      go_frame
      iterate 3 (refine walk_quiet (by kernel_rfl) rfl rfl ?_; intro K hK; go_big_quiet_op; go_big_quiet_on)
      refine walk_check (by kernel_rfl) rfl rfl ?_
      go_frame
      iterate 2 (refine walk_quiet (by kernel_rfl) rfl rfl ?_; intro K hK; go_big_quiet_op; go_big_quiet_on)
      refine walk_check (by kernel_rfl) rfl rfl ?_
      go_frame
      iterate 2 (refine walk_quiet (by kernel_rfl) rfl rfl ?_; intro K hK; go_big_quiet_op; go_big_quiet_on)
      refine walk_check (by kernel_rfl) rfl rfl ?_
      go_frame
      iterate 1 (refine walk_quiet (by kernel_rfl) rfl rfl ?_; intro K hK; go_big_quiet_op; go_big_quiet_on)
      refine walk_nil ?_
      intro wz hbz hF
      have HM2 := Lib.hid (HM1.out.mono HMS.out hbz)
      have HR2 := Lib.hid (HR1.out.trans (MR.below hbz))
      clear hF hAB hbz HM1 HR1 c0 c1 c2 c3 c4 c5 c6 c7 c8 c9 k0 k1 k2 l1 l2
      refine wpList_setI HM2.out.cur (show 2 < 3 by decide) rfl rfl (fun w => by kernel_rfl) ?_
      intro w3 hh3 hs3
      have HC3 := Lib.hid (show CurAt w3 gc (.slice ad mb cap) a a from (by unfold CurAt; rw [hh3]; simp))
      obtain ⟨hx3, hr3⟩ := HM2.out.curs HMS.out hs3 HC3.out
      have HM3 := Lib.hid hx3
      have HR3 := Lib.hid (HR2.out.trans hr3)
      clear hh3 hs3 hx3 hr3 HM2 HR2 HC3
      obtain ⟨c0, c1, c2, c3, c4, c5, c6, c7, c8, c9⟩ := HM3.out.mac.cells
      obtain ⟨a', s', t, T3, o, rr, ht⟩ := run_step' HRr.out (by have := HMB.out; omega)
      have hok : okB l a 1 = true := by cases o <;> assumption
      have HOR := Lib.hid o
      have HRR := Lib.hid rr
      have HTT := Lib.hid ht
      have haa := op_lt o
      clear o rr ht
      obtain ⟨N, hN⟩ : ∃ N, gN l a 1 = N := ⟨_, rfl⟩
      have hN9 : N < 256 := by rw [← hN]; exact gN1 l a
      have HU := Lib.hid (curU1 (N := N) HM3.out.cur (HMS.out.vs _ HM3.out.below) (by have := HMS.out.len; omega) (by omega) ⟨hok, hN⟩)
      have HNN := Lib.hid hN
      clear hok hN
      go_upto_region 5 with (go_at_call 28; go_must (refine HU.out.mono ?_; rintro e w4 ⟨rfl, hc4, hs4⟩; obtain ⟨hm4, hr4⟩ := HM3.out.curs HMS.out hs4 hc4; have HM4 := Lib.hid hm4; have HR4 := Lib.hid (HR3.out.trans hr4); clear hc4 hs4 hm4 hr4 c0 c1 c2 c3 c4 c5 c6 c7 c8 c9))
      clear HM3 HR3 HU
      obtain ⟨c0, c1, c2, c3, c4, c5, c6, c7, c8, c9⟩ := HM4.out.mac.cells
      have ho9 := HOPS.out
      have HTB := Lib.hid (show (T0 ++ T1).length < 60000 by have := HT.out; rw [HTr.out] at this; simp only [List.length_append] at this ⊢; omega)
      have hle1 := HMB.out
      cases HOR.out with
      | special ok op =>
        have hd2 : h.ops ≤ N := by have := HNN.out; omega
        have hsp := HMS.out.span
        go_wp2_with (go_at_call 43; go_must (refine (special_any g gc go base B N h lv s (T0 ++ T1) w4 HM4.out.mac HM4.out.out HM4.out.ok HTB.out ⟨HMS.out.hgo, HMS.out.hb⟩ HMS.out.hg (Nat.le_trans HMS.out.hw HM4.out.below.size) HM4.out.hb hd2 hN9 HMS.out.span HMS.out.step).mono ?_; rintro e w6 ⟨rfl, ho6, hm6, hk6, hb6⟩; obtain ⟨hx6, hr6⟩ := HM4.out.outs ho6 hm6 (special_ok HM4.out.ok N) hk6 hb6; rw [← HNN.out] at hx6; have HM6 := Lib.hid hx6; have HR6 := Lib.hid (HR4.out.trans hr6); clear ho6 hm6 hk6 hb6 hx6 hr6 c0 c1 c2 c3 c4 c5 c6 c7 c8 c9))
        have hre := run_le HRR.out
        go_roundw
        case rel => exact ⟨_, _, _, T1 ++ [(h.special s (gN l a 1)).tell false], T3, Lib.hid (by rw [← List.append_assoc]; exact HM6.out), HRR, Lib.hid (by rw [List.append_assoc, ← HTT.out]; exact HTr.out), HR6, hre⟩
        case measure => rw [hat, atOf_cur HM6.out.cur]; omega
      | copy ok op lt =>
        obtain rfl : N = 1 := HNN.out.symm.trans op
        have hd2 : ¬ h.ops ≤ 1 := by omega
        go_wp2_with (go_at_call 45; go_must (refine (stdCopy_any HM4.out HMS.out HTB.out).mono ?_; rintro e w6 ⟨rfl, hm6, hr6⟩; have HM6 := Lib.hid hm6; have HR6 := Lib.hid (HR4.out.trans hr6); clear hm6 hr6 c0 c1 c2 c3 c4 c5 c6 c7 c8 c9))
        have hre := run_le HRR.out
        go_roundw
        case rel => exact ⟨_, _, _, T1 ++ [s.tell false], T3, Lib.hid (by rw [← List.append_assoc]; exact HM6.out), HRR, Lib.hid (by rw [List.append_assoc, ← HTT.out]; exact HTr.out), HR6, hre⟩
        case measure => rw [hat, atOf_cur HM6.out.cur]; omega
      | pc ok op lt n k r =>
        obtain rfl : N = 2 := HNN.out.symm.trans op
        have hd2 : ¬ h.ops ≤ 2 := by omega
        have hle2 := readLeb_le (show readLebR l ((a + 1 : Nat) : Int) = (n, k, 0) by rw [Int.natCast_add]; exact r)
        go_wp2_with (go_at_call 45; go_must (refine (stdPc_any HM4.out HMS.out n k hle2.2.1 hle2.1 r).mono ?_; rintro e w6 ⟨rfl, hm6, hr6⟩; have HM6 := Lib.hid hm6; have HR6 := Lib.hid (HR4.out.trans hr6); clear hm6 hr6 c0 c1 c2 c3 c4 c5 c6 c7 c8 c9))
        have hre := run_le HRR.out
        go_roundw
        case rel => exact ⟨_, _, _, T1 ++ [], T3, Lib.hid (by rw [List.append_nil]; exact HM6.out), HRR, Lib.hid (by rw [List.append_assoc, ← HTT.out]; exact HTr.out), HR6, hre⟩
        case measure => rw [hat, atOf_cur HM6.out.cur]; omega
      | line ok op lt n k r =>
        obtain rfl : N = 3 := HNN.out.symm.trans op
        have hd2 : ¬ h.ops ≤ 3 := by omega
        have hle2 := readSleb_le (show readSlebR l ((a + 1 : Nat) : Int) = (n, k, 0) by rw [Int.natCast_add]; exact r)
        go_wp2_with (go_at_call 45; go_must (refine (stdLine_any HM4.out HMS.out n k hle2.2 hle2.1 r).mono ?_; rintro e w6 ⟨rfl, hm6, hr6⟩; have HM6 := Lib.hid hm6; have HR6 := Lib.hid (HR4.out.trans hr6); clear hm6 hr6 c0 c1 c2 c3 c4 c5 c6 c7 c8 c9))
        have hre := run_le HRR.out
        go_roundw
        case rel => exact ⟨_, _, _, T1 ++ [], T3, Lib.hid (by rw [List.append_nil]; exact HM6.out), HRR, Lib.hid (by rw [List.append_assoc, ← HTT.out]; exact HTr.out), HR6, hre⟩
        case measure => rw [hat, atOf_cur HM6.out.cur]; omega
      | file ok op lt n k r =>
        obtain rfl : N = 4 := HNN.out.symm.trans op
        have hd2 : ¬ h.ops ≤ 4 := by omega
        have hle2 := readLeb_le (show readLebR l ((a + 1 : Nat) : Int) = (n, k, 0) by rw [Int.natCast_add]; exact r)
        go_wp2_with (go_at_call 45; go_must (refine (stdFile_any HM4.out HMS.out n k hle2.2.1 hle2.2.2 hle2.1 r).mono ?_; rintro e w6 ⟨rfl, hm6, hr6⟩; have HM6 := Lib.hid hm6; have HR6 := Lib.hid (HR4.out.trans hr6); clear hm6 hr6 c0 c1 c2 c3 c4 c5 c6 c7 c8 c9))
        have hre := run_le HRR.out
        go_roundw
        case rel => exact ⟨_, _, _, T1 ++ [], T3, Lib.hid (by rw [List.append_nil]; exact HM6.out), HRR, Lib.hid (by rw [List.append_assoc, ← HTT.out]; exact HTr.out), HR6, hre⟩
        case measure => rw [hat, atOf_cur HM6.out.cur]; omega
      | const ok op lt =>
        obtain rfl : N = 8 := HNN.out.symm.trans op
        have hd2 : ¬ h.ops ≤ 8 := by omega
        go_wp2_with (go_at_call 45; go_must (refine (stdConst_any HM4.out HMS.out).mono ?_; rintro e w6 ⟨rfl, hm6, hr6⟩; have HM6 := Lib.hid hm6; have HR6 := Lib.hid (HR4.out.trans hr6); clear hm6 hr6 c0 c1 c2 c3 c4 c5 c6 c7 c8 c9))
        have hre := run_le HRR.out
        go_roundw
        case rel => exact ⟨_, _, _, T1 ++ [], T3, Lib.hid (by rw [List.append_nil]; exact HM6.out), HRR, Lib.hid (by rw [List.append_assoc, ← HTT.out]; exact HTr.out), HR6, hre⟩
        case measure => rw [hat, atOf_cur HM6.out.cur]; omega
      | fin ok op lt r ok2 op2 =>
        obtain rfl : N = 0 := HNN.out.symm.trans op
        have hd2 : ¬ h.ops ≤ 0 := by omega
        go_wp2_with (go_at_call 44; go_must (refine (extFin_any HM4.out HMS.out HTB.out r ok2 op2).mono ?_; rintro e w6 ⟨rfl, hm6, hr6⟩; have HM6 := Lib.hid hm6; have HR6 := Lib.hid (HR4.out.trans hr6); clear hm6 hr6 c0 c1 c2 c3 c4 c5 c6 c7 c8 c9))
        have hre := run_le HRR.out
        go_roundw
        case rel => exact ⟨_, _, _, T1 ++ [s.tell true], T3, Lib.hid (by rw [← List.append_assoc]; exact HM6.out), HRR, Lib.hid (by rw [List.append_assoc, ← HTT.out]; exact HTr.out), HR6, hre⟩
        case measure => rw [hat, atOf_cur HM6.out.cur]; omega
      | set ok op lt r ok2 op2 ok3 =>
        obtain rfl : N = 0 := HNN.out.symm.trans op
        have hd2 : ¬ h.ops ≤ 0 := by omega
        go_wp2_with (go_at_call 44; go_must (refine (extSet_any HM4.out HMS.out r ok2 op2 ok3).mono ?_; rintro e w6 ⟨rfl, hm6, hr6⟩; have HM6 := Lib.hid hm6; have HR6 := Lib.hid (HR4.out.trans hr6); clear hm6 hr6 c0 c1 c2 c3 c4 c5 c6 c7 c8 c9))
        have hre := run_le HRR.out
        go_roundw
        case rel => exact ⟨_, _, _, T1 ++ [], T3, Lib.hid (by rw [List.append_nil]; exact HM6.out), HRR, Lib.hid (by rw [List.append_assoc, ← HTT.out]; exact HTr.out), HR6, hre⟩
        case measure => rw [hat, atOf_cur HM6.out.cur]; omega
    · obtain ⟨hT2, hae⟩ := run_end HRr.out (by have := HMB.out; omega)
      have hd1 : decide ((a : Int) < (mb : Int)) = false := by simp; omega
      go_wp2
      go_quiet (fail)
      have HBd := Lib.hid (below_drewN (Below.refl wr.heap.size wr) nq)
      generalize wr.drewN nq = wd at *
      have HM1 := Lib.hid (HMr.out.mono HMS.out HBd.out)
      have HR1 := Lib.hid (HRw.out.trans (MR.below HBd.out))
      go_wp2
      go_end0
      refine ⟨rfl, ⟨s, bl, ?_⟩, HR1.out⟩
      rw [HTr.out, hT2, List.append_nil]
      subst hae
      exact HM1.out
end Go.Proofs.Ytmpmkjlkhlagfaa
namespace Go.Proofs.Ytmpmkjlkhlagfaa
open Go.RowKit Go.Fd
set_option maxRecDepth 100000 in
theorem lnCatch_no (p1 p2 p3 : Value) (w : World) :
    CallsD Try.prog 27 #[p1, p2, p3] .returning w fun e u' w' => e = .returned (.tuple #[]) ∧ u' = .returning ∧ w' = w := by
  refine callsD_of_wpS Try.func27 rfl fun c₀ cs hu => ?_
  apply wpS_seq
  apply wpS_region
  simp [wpOpsS, go_sem, recoverD, hu, Try.ntmps27, Exit.thenS]
  refine wpS_of_wp ?_
  go_wp2
  refine ⟨rfl, .returning, by cases c₀; simp_all, .tuple #[], by simp [results, Try.results27, go_sem], rfl, rfl, rfl⟩
def setAll (c : Array Value) : Nat → List Value → Array Value
  | _, [] => c
  | o, v :: r => setAll (c.setIfInBounds o v) (o + 1) r
theorem setCells_heap {g : Nat} {t : TypeId} {fr : Nat × Nat} : ∀ (vs : List Value) (o : Nat) (w : World) (c : Array Value), w.heap[g]? = some (.cells c t fr) → (w.setCells g o vs).heap[g]? = some (.cells (setAll c o vs) t fr)
  | [], _, _, _, h => h
  | v :: r, o, w, c, h => setCells_heap r (o + 1) _ _ (by simp [World.setCell, Array.getElem?_modify, h])
theorem stirs_setCells (g : Nat) : ∀ (vs : List Value) (o : Nat) (w : World), Stirs (fun k => k = g) w (w.setCells g o vs)
  | [], _, w => Stirs.refl _ w
  | v :: r, o, w => (stirs_setCell (S := fun k => k = g) w g o v rfl).trans (stirs_setCells g r (o + 1) _) fun _ _ h => h
/-- The header's store into the machine. -/
theorem wpList_storeHd {ops : Array Oper} {rest : List Oper} {Q : Exit → Act → World → Prop} {a : Act} {w : World} {d : Option Tmp} {ty : TypeId} {pos : String} {aft : Array Edge} {p x : Operand} {g gc go : Nat} {h0 h : HeadM} {lv0 lv : Value} {s : StM} (hm : MacAt w g h0 lv0 gc s go) (hp : a.eval p = .pointer (some ⟨g, 0, none⟩)) (hx : a.eval x = .agg (encHead h lv).toArray) (h1 : lv.oneCell' = true)
    (hn : ∀ w1, MacAt w1 g h lv gc s go → Stirs (fun k => k = g) w w1 → wpList Try.prog ops Q rest (a.put d undef) w1) :
    wpList Try.prog ops Q (⟨d, .store 71 p x, ty, pos, aft, none⟩ :: rest) a w := by
  have ht : w.there g 0 (encHead h lv).toArray.size := by
    intro j hj
    rw [Nat.zero_add]
    have hj5 : j < 5 := hj
    refine ⟨?_, free_rec' hm j⟩
    rw [cell_rec hm j]
    match j, hj5 with
    | 0, _ | 1, _ | 2, _ | 3, _ | 4, _ => rfl
  have hag : (encHead h lv).toArray.all (·.oneCell') = true := by cases lv <;> simp_all [encHead, Value.oneCell']
  have hr : (execOp a.eval ⟨d, .store 71 p x, ty, pos, aft, none⟩).run Try.prog w = .ok .skip (w.setCells g 0 (encHead h lv)) := by
    simp only [execOp, hp, hx, Instr.storeAt, Instr.sureAddr, Sem.run_bind, Sem.run_pure, Result.andThen, run_storeVar_mid w g 0 71 (encHead h lv).toArray ht ((show (Try.prog.info? 71).map (·.size) = some 5 by kernel_rfl).trans rfl) hag]
  refine wpList_did rfl hr (hn _ ?_ (stirs_setCells g _ 0 w))
  have := setCells_heap (encHead h lv) 0 w _ hm
  exact this
theorem wpList_allocOut {ops : Array Oper} {rest : List Oper} {Q : Exit → Act → World → Prop} {a : Act} {w : World} {d : Option Tmp} {ty : TypeId} {pos : String} {aft : Array Edge}
    (h : ∀ w1, OutAt w1 w.heap.size w.heap.size [] → Below w.heap.size w w1 → w1.heap.size = w.heap.size + 1 → wpList Try.prog ops Q rest (a.put d (.pointer (some ⟨w.heap.size, 0, none⟩))) w1) :
    wpList Try.prog ops Q (⟨d, .alloc 33, ty, pos, aft, none⟩ :: rest) a w :=
  wpList_val rfl (by kernel_rfl) (h (w.alloc (.cells #[.slice none 0 0] 33)) ⟨_, heap_alloc_last w _, OwR.nil _ _ _ _ _⟩ (below_alloc w _) (by rw [World.size_alloc]))
theorem wpList_allocInt {ops : Array Oper} {rest : List Oper} {Q : Exit → Act → World → Prop} {a : Act} {w : World} {d : Option Tmp} {ty : TypeId} {pos : String} {aft : Array Edge}
    (h : ∀ w1, w1.heap[w.heap.size]? = some (.cells #[.int .i64 0] 3 (0, 0)) → Below w.heap.size w w1 → w1.heap.size = w.heap.size + 1 → wpList Try.prog ops Q rest (a.put d (.pointer (some ⟨w.heap.size, 0, none⟩))) w1) :
    wpList Try.prog ops Q (⟨d, .alloc 3, ty, pos, aft, none⟩ :: rest) a w :=
  wpList_val rfl (by kernel_rfl) (h (w.alloc (.cells #[.int .i64 0] 3)) (heap_alloc_last w _) (below_alloc w _) (by rw [World.size_alloc]))
theorem wpList_allocErrno {ops : Array Oper} {rest : List Oper} {Q : Exit → Act → World → Prop} {a : Act} {w : World} {d : Option Tmp} {ty : TypeId} {pos : String} {aft : Array Edge}
    (h : ∀ w1, w1.heap[w.heap.size]? = some (.cells #[.int .i64 0] 28 (0, 0)) → Below w.heap.size w w1 → w1.heap.size = w.heap.size + 1 → wpList Try.prog ops Q rest (a.put d (.pointer (some ⟨w.heap.size, 0, none⟩))) w1) :
    wpList Try.prog ops Q (⟨d, .alloc 28, ty, pos, aft, none⟩ :: rest) a w :=
  wpList_val rfl (by kernel_rfl) (h (w.alloc (.cells #[.int .i64 0] 28)) (heap_alloc_last w _) (below_alloc w _) (by rw [World.size_alloc]))
theorem OutAt.mono {w w' : World} {base g : Nat} {T : List EntM} (h : OutAt w base g T) (hb : Below w.heap.size w w') : OutAt w' base g T := by
  obtain ⟨v, h1, h2⟩ := h
  exact ⟨v, heap_below hb h1, h2.mono hb⟩
theorem units_step {l : List UInt8} {a : Nat} {T : List EntM} (u : UnitsAt l a T) (lt : a < l.length) : ∃ (p e : Nat) (h : HeadM) (t T' : List EntM), okB l a 4 = true ∧ e = a + 4 + gN l a 4 ∧ e ≤ l.length ∧ HeadAt (l.take e) (a + 4) h p ∧ RunAt h (l.take e) p st0 t ∧ UnitsAt l e T' ∧ T = t ++ T' := by
  cases u with
  | done => exact absurd lt (Nat.lt_irrefl _)
  | unit _ ok he le hd pr r => exact ⟨_, _, _, _, _, ok, he, le, hd, pr, r, rfl⟩
theorem units_end {l : List UInt8} {a : Nat} {T : List EntM} (u : UnitsAt l a T) (ge : ¬ a < l.length) : T = [] := by
  cases u with
  | done => rfl
  | unit lt => exact absurd lt ge
theorem units_le {l : List UInt8} {a : Nat} {T : List EntM} (u : UnitsAt l a T) : a ≤ l.length := by
  cases u with
  | done => exact Nat.le_refl _
  | unit lt => exact Nat.le_of_lt lt
theorem bs_take {w : World} {ad : Option Addr} {m cap k : Nat} {l : List UInt8} (h : Bs w (.slice ad m cap) l) (hk : k ≤ m) : Bs w (.slice ad k cap) (l.take k) := by
  obtain ⟨h1, a, c, h2, h3, h0, h4⟩ := h
  injection h2 with e1 e2 e3
  subst e1 e3
  refine ⟨by simp, ad, cap, by rw [List.length_take, Nat.min_eq_left (by omega)], by rw [List.length_take]; omega, h0, fun j hj => ?_⟩
  have hj' : j < k ∧ j < l.length := by rw [List.length_map, List.length_take] at hj; omega
  obtain ⟨b, off, e, hc⟩ := h4 j (by simpa using hj'.2)
  refine ⟨b, off, e, hc.trans ?_⟩
  rw [List.map_take, List.getElem?_take, if_pos hj'.1]
/-- What stands while units are read. -/
structure RS (w0 wx : World) (T : List EntM) : Prop where
  out : OutAt wx w0.heap.size w0.heap.size T
  x1 : wx.heap[w0.heap.size + 1]? = some (.cells #[.int .i64 0] 3 (0, 0))
  x2 : wx.heap[w0.heap.size + 1 + 1]? = some (.cells #[.int .i64 0] 28 (0, 0))
  below : Below w0.heap.size w0 wx
theorem RS.sz {w0 wx : World} {T : List EntM} (r : RS w0 wx T) : w0.heap.size + 3 ≤ wx.heap.size := (Array.getElem?_eq_some_iff.1 r.x2).1
theorem RS.mono {w0 wx wy : World} {T : List EntM} (r : RS w0 wx T) (hb : Below wx.heap.size wx wy) : RS w0 wy T := ⟨r.out.mono hb, heap_below hb r.x1, heap_below hb r.x2, r.below.trans (hb.mono (by have := r.sz; omega))⟩
theorem RS.cur {w0 wx wy : World} {T : List EntM} {gc a bl : Nat} {bv : Value} (r : RS w0 wx T) (hs : Stirs (fun k => k = gc) wx wy) (hc : CurAt wx gc bv a bl) (hg : w0.heap.size + 3 ≤ gc) : RS w0 wy T := by
  obtain ⟨v, o1, o2⟩ := r.out
  exact ⟨⟨v, hs.kept o1 (by omega), owns_stirs o2 hs (ob_ne o2 hc (by decide))⟩, hs.kept r.x1 (by omega), hs.kept r.x2 (by omega), r.below.trans (hs.below (by have := r.sz; omega) (fun k e => by omega))⟩
theorem RS.mac {w0 wx wy : World} {T : List EntM} {g gc go : Nat} {h : HeadM} {lv : Value} {s : StM} (r : RS w0 wx T) (hs : Stirs (fun k => k = g) wx wy) (hm : MacAt wx g h lv gc s go) (hg : w0.heap.size + 3 ≤ g) : RS w0 wy T := by
  obtain ⟨v, o1, o2⟩ := r.out
  exact ⟨⟨v, hs.kept o1 (by omega), owns_stirs o2 hs (ob_ne o2 hm (by decide))⟩, hs.kept r.x1 (by omega), hs.kept r.x2 (by omega), r.below.trans (hs.below (by have := r.sz; omega) (fun k e => by omega))⟩
theorem RS.ran {w0 wx wy : World} {T T' : List EntM} {g gc : Nat} {bv : Value} {h : HeadM} {lv : Value} {s : StM} {a bl : Nat} (r : RS w0 wx T) (m : Ma w0.heap.size w0.heap.size w0 bv g gc w0.heap.size h lv wy s a bl T') (k : MR w0.heap.size wx wy) : RS w0 wy T' :=
  ⟨m.out, k _ _ _ _ (by omega) (by decide) (by decide) (by decide) r.x1, k _ _ _ _ (by omega) (by decide) (by decide) (by decide) r.x2, m.below⟩
attribute [local irreducible] gN okB readLebR readSlebR
set_option maxHeartbeats 8000000 in
set_option maxRecDepth 100000 in
theorem lnRead_any (l : List UInt8) (T : List EntM) (v : Value) (w : World) (hl : l.length ≤ 1000000) (hv : Bs w v l) (hU : UnitsAt l 0 T) (hT : T.length < 60000) :
    Calls Try.prog 14 #[v] w fun e w' => ∃ ov, e = .returned (.tuple #[ov, .int .i64 0, .int .i64 0]) ∧ OwR 4 encEnt 43 w' w.heap.size ov T ∧ Below w.heap.size w w' := by
  have HV := Lib.hid hv
  obtain ⟨m, ad, cap, hm, rfl, hmc, _⟩ := hv.shape
  have HM := Lib.hid hm.out
  have hm9 : m ≤ 1000000 := by have := hm.out; omega
  have HU := Lib.hid hU
  have HT := Lib.hid hT
  have hsz : w.heap.size ≤ w.heap.size := Nat.le_refl _
  have d1 : decide ((1048576 : Int) < (m : Int)) = false := by simp; omega
  clear hv hm hU hT
  go_enter_defers Try.func14, Try.ntmps14
  go_wp2_with (first
    | ((with_reducible show wpList _ _ _ (⟨some 2, .alloc _, _, _, _, _⟩ :: _) _ _); go_must (refine wpList_allocOut ?_; intro w1 hx1 hb1 hs1; have HX1 := Lib.hid hx1; have HB1 := Lib.hid hb1; clear hx1 hb1))
    | ((with_reducible show wpList _ _ _ (⟨some 3, .alloc _, _, _, _, _⟩ :: _) _ _); go_must (refine wpList_allocInt ?_; intro w2 hx2 hb2 hs2; have HX12 := Lib.hid (HX1.out.mono hb2); have HB2 := Lib.hid (HB1.out.trans (hb2.mono (by omega))); rw [hs1] at hx2 hs2 ⊢; have HX2 := Lib.hid hx2; clear hx2 hb2))
    | ((with_reducible show wpList _ _ _ (⟨some 4, .alloc _, _, _, _, _⟩ :: _) _ _); go_must (refine wpList_allocErrno ?_; intro w3 hx3 hb3 hs3; have HX13 := Lib.hid (HX12.out.mono hb3); have HX23 := Lib.hid (heap_below hb3 HX2.out); have HB3 := Lib.hid (HB2.out.trans (hb3.mono (by omega))); rw [hs2] at hx3 hs3 ⊢; have HX3 := Lib.hid hx3; clear hx3 hb3)))
  clear HX1 HB1 HX12 HX2 HB2
  have HRS0 := Lib.hid (show RS w w3 [] from ⟨HX13.out, HX23.out, HX3.out, HB3.out⟩)
  clear hs1 hs2 hs3 HX13 HX23 HX3 HB3
  go_loopw [5] (fun iw wr => ∃ (a : Nat) (T1 T2 : List EntM), iw = .int .i64 (a : Int) ∧ a ≤ m ∧ Hid (RS w wr T1) ∧ Hid (UnitsAt l a T2) ∧ Hid (T = T1 ++ T2)) (fun iw _ => m - (intOf iw).toNat)
  case atStart => exact ⟨0, [], T, rfl, Nat.zero_le _, HRS0, HU, Lib.hid rfl⟩
  case round =>
    obtain ⟨a, T1, T2, rfl, ham, HRr, HUr, HTr⟩ := hrel
    by_cases hlt : a < m
    · obtain ⟨p, e, h, t, T3, hok, he, hle, hd, hpr, hur, ht⟩ := units_step HUr.out (by have := HM.out; omega)
      have HHD := Lib.hid hd
      have HPR := Lib.hid hpr
      have HU3 := Lib.hid hur
      have HTT := Lib.hid ht
      have hem : e ≤ m := by have := HM.out; omega
      clear hd hpr hur ht
      obtain ⟨N, hN⟩ : ∃ N, gN l a 4 = N := ⟨_, rfl⟩
      have hN9 : N < 4294967296 := by rw [← hN]; exact gN4 l a
      rw [hN] at he
      have HOK := Lib.hid (show okB l a 4 = true ∧ gN l a 4 = N from ⟨hok, hN⟩)
      clear hok hN
      have hNm : a + 4 + N ≤ m := by omega
      have hlo : a + 4 + N ≤ 1000000 := by omega
      subst he
      clear hN9
      have hgc := HRr.out.sz
      have HC := Lib.hid (show CurAt (wr.alloc (.cells #[.slice ad m cap, .int .i64 (a : Int), .int .i64 (a : Int)] 65)) wr.heap.size (.slice ad m cap) a a from heap_alloc_last wr _)
      have HRc := Lib.hid (HRr.out.mono (below_alloc wr (.cells #[.slice ad m cap, .int .i64 (a : Int), .int .i64 (a : Int)] 65)))
      have HVc := Lib.hid (HV.out.mono HRc.out.below)
      obtain ⟨gc, hgcE⟩ : ∃ gc, wr.heap.size = gc := ⟨_, rfl⟩
      rw [hgcE] at HC hgc
      have HVE := Lib.hid (show ∀ wx, Below w.heap.size w wx → Bs wx (.slice ad (a + 4 + N) cap) (l.take (a + 4 + N)) from fun wx hb => bs_take (HV.out.mono hb) hNm)
      have HLE := Lib.hid (show (l.take (a + 4 + N)).length ≤ 1000000 by rw [List.length_take]; omega)
      have hple := run_le HPR.out
      have HTB := Lib.hid (show (T1 ++ t).length < 60000 by have := HT.out; rw [HTr.out, HTT.out] at this; simp only [List.length_append] at this ⊢; omega)
      have HMS := Lib.hid (fun gm (h1 : w.heap.size + 3 ≤ gm) gc (h2 : w.heap.size + 3 ≤ gc) => (⟨by omega, by omega, Nat.le_refl _, Nat.le_refl _, Nat.le_refl _, HVE.out, HLE.out, by have := HHD.out.ops.2.1; have := gN1 (l.take (a + 4 + N)) (a + 4 + 13); omega, HHD.out.span.2.2, by have := HHD.out.step.2; have := gN1 (l.take (a + 4 + N)) (a + 4 + 8); omega⟩ : MaS w.heap.size w.heap.size w (l.take (a + 4 + N)) (.slice ad (a + 4 + N) cap) gm gc w.heap.size h))
      have hdN : decide ((N : Int) ≤ (m : Int) - ((a : Int) + 4)) = true := by simp; omega
      go_wp2_with (first
        | (go_at_call 28; go_must (refine (curU4 HC.out HVc.out (by omega) (by omega) HOK.out).mono ?_; rintro e w4 ⟨rfl, hc4, hs4⟩; have HC4 := Lib.hid hc4; have HR4 := Lib.hid (HRc.out.cur hs4 HC.out hgc); clear hs4 hc4; obtain ⟨k0, k1, k2⟩ := HC4.out.cells))
        | ((with_reducible show Calls _ 29 #[_, .bool true] _ _); refine (must_any _ _).mono ?_; rintro r w2 ⟨rfl, rfl⟩)
        | ((with_reducible show wpList _ _ _ (⟨none, .store _ (.tmp 47) _, _, _, _, _⟩ :: _) _ _); go_must (refine wpList_setSl HC4.out (show 0 < 3 by decide) rfl rfl (fun w => by kernel_rfl) ?_; intro w5 hh5 hs5; have HC5 := Lib.hid (show CurAt w5 gc (.slice ad (a + 4 + N) cap) (a + 4) a from hh5); have HR5 := Lib.hid (HR4.out.cur hs5 HC4.out hgc); clear hh5 hs5 k0 k1 k2; have hgm := HR5.out.sz; have hgcm := block_lt HC5.out.cells.1; have HM6 := Lib.hid (show MacAt (w5.alloc (.cells #[.int .u64 0, .int .i64 0, .int .u64 0, .int .i64 0, .slice none 0 0, .pointer (some ⟨gc, 0, none⟩), .int .u64 0, .int .u64 0, .int .i64 0, .pointer (some ⟨w.heap.size, 0, none⟩)] 73)) w5.heap.size ⟨0, 0, 0, 0, []⟩ (.slice none 0 0) gc ⟨0, 0, 0⟩ w.heap.size from heap_alloc_last w5 _); have HB6 := Lib.hid (below_alloc w5 (.cells #[.int .u64 0, .int .i64 0, .int .u64 0, .int .i64 0, .slice none 0 0, .pointer (some ⟨gc, 0, none⟩), .int .u64 0, .int .u64 0, .int .i64 0, .pointer (some ⟨w.heap.size, 0, none⟩)] 73)); have HC6 := Lib.hid (HC5.out.mono HB6.out); have HR6 := Lib.hid (HR5.out.mono HB6.out); obtain ⟨gm, hgmE⟩ : ∃ gm, w5.heap.size = gm := ⟨_, rfl⟩; rw [hgmE] at HM6 hgm hgcm))
        | (go_at_call 30; go_must (refine (header_any (l.take (a + 4 + N)) gc (a + 4) a p h _ _ HC6.out (fun wx hs => HVE.out wx (HR6.out.cur hs HC6.out hgc).below) HLE.out hple HHD.out).mono ?_; rintro e w7 ⟨lv, rfl, hlv, hc7, hs7⟩; have HC7 := Lib.hid hc7; have HR7 := Lib.hid (HR6.out.cur hs7 HC6.out hgc); have HM7 := Lib.hid (HM6.out.stirs hs7 (show ¬ gm = gc by omega)); obtain ⟨ml, al, cl, _, rfl, _, _⟩ := hlv.bs.shape; clear hc7 hs7 hlv))
        | ((with_reducible show wpList _ _ _ (⟨none, .store _ (.tmp 55) _, _, _, _, _⟩ :: _) _ _); go_must (refine wpList_storeHd HM7.out rfl rfl rfl ?_; intro w8 hm8 hs8; have HM8 := Lib.hid hm8; have HC8 := Lib.hid (HC7.out.stirs hs8 (show ¬ gc = gm by omega)); have HR8 := Lib.hid (HR7.out.mac hs8 HM7.out hgm); clear hm8 hs8))
        | (go_at_call 31; go_must (refine (run_any (B := w.heap.size) (base := w.heap.size) (wS := w) (l := l.take (a + 4 + N)) (T0 := T1) (T := t) ⟨HM8.out, HC8.out, HR8.out.out, HR8.out.below, Nat.le_trans (by omega) HR8.out.sz, ⟨by decide, by decide, by decide, by decide⟩⟩ (HMS.out gm hgm gc hgc) HPR.out HTB.out).mono ?_; rintro e w9 ⟨rfl, ⟨s', bl', hma⟩, hmr⟩; have HR9 := Lib.hid (HR8.out.ran hma hmr); obtain ⟨k0, k1, k2⟩ := hma.cur.cells; clear hma hmr)))
      have hue := units_le HU3.out
      have hML := HM.out
      go_roundw
      case rel => exact ⟨a + 4 + N, T1 ++ t, T3, by rw [Int.natCast_add, Int.natCast_add]; rfl, hNm, HR9, HU3, Lib.hid (by rw [List.append_assoc, ← HTT.out]; exact HTr.out)⟩
      case measure => simp [intOf]; omega
    · have HE := Lib.hid (units_end HUr.out (by have := HM.out; omega))
      obtain ⟨ov, o1, o2⟩ := HRr.out.out
      obtain ⟨mo, ao, co, hmo, rfl, _, _⟩ := o2.shape
      have e0 := cell_rec o1 0
      have e1 := cell_rec HRr.out.x1 0
      have e2 := cell_rec HRr.out.x2 0
      simp only [List.getElem?_toArray, List.getElem?_cons_zero] at e0 e1 e2
      have HO1 := Lib.hid o1
      have HO2 := Lib.hid o2
      clear o1 o2
      have HXA := Lib.hid HRr.out.x1
      have HXB := Lib.hid HRr.out.x2
      have HBB := Lib.hid HRr.out.below
      have hszr := HRr.out.sz
      go_wp2_with (first
        | ((with_reducible show wpList _ _ _ (⟨none, .store _ (.tmp 2) _, _, _, _, _⟩ :: _) _ _); go_must (refine wpList_setSl HO1.out (show 0 < 1 by decide) rfl rfl (fun w => by kernel_rfl) ?_; intro w5 hh5 hs5; have HO5 := Lib.hid hh5; have HP5 := Lib.hid (owns_stirs HO2.out hs5 (ob_ne HO2.out HO1.out (by decide))); have HA5 := Lib.hid (hs5.kept HXA.out (by omega)); have HE5 := Lib.hid (hs5.kept HXB.out (by omega)); have HB5 := Lib.hid (HBB.out.trans (hs5.below (by omega) (fun k e => by omega))); clear hh5 e0 e1 e2; have hsz5 := hs5.size; clear hs5))
        | ((with_reducible show wpList _ _ _ (⟨none, .store _ (.tmp 3) _, _, _, _, _⟩ :: _) _ _); go_must (refine wpList_setI HA5.out (show 0 < 1 by decide) rfl rfl (fun w => by kernel_rfl) ?_; intro w6 hh6 hs6; have HA6 := Lib.hid hh6; have HP6 := Lib.hid (owns_stirs HP5.out hs6 (ob_ne HP5.out HA5.out (by decide))); have HO6 := Lib.hid (hs6.kept HO5.out (by omega)); have HE6 := Lib.hid (hs6.kept HE5.out (by omega)); have HB6 := Lib.hid (HB5.out.trans (hs6.below (by omega) (fun k e => by omega))); clear hh6; have hsz6 := hs6.size; clear hs6))
        | ((with_reducible show wpList _ _ _ (⟨none, .store _ (.tmp 4) _, _, _, _, _⟩ :: _) _ _); go_must (refine wpList_setI HE6.out (show 0 < 1 by decide) rfl rfl (fun w => by kernel_rfl) ?_; intro w7 hh7 hs7; have HE7 := Lib.hid hh7; have HP7 := Lib.hid (owns_stirs HP6.out hs7 (ob_ne HP6.out HE6.out (by decide))); have HO7 := Lib.hid (hs7.kept HO6.out (by omega)); have HA7 := Lib.hid (hs7.kept HA6.out (by omega)); have HB7 := Lib.hid (HB6.out.trans (hs7.below (by omega) (fun k e => by omega))); clear hh7 hs7)))
      have c0 : w7.cell? ⟨w.heap.size, 0, none⟩ = some (.slice ao mo co) := cell_rec HO7.out 0
      have c1 : w7.cell? ⟨w.heap.size + 1, 0, none⟩ = some (.int .i64 0) := cell_rec HA7.out 0
      have c2 : w7.cell? ⟨w.heap.size + 1 + 1, 0, none⟩ = some (.int .i64 0) := cell_rec HE7.out 0
      refine leaves_cons (f := 27) (args := #[.pointer (some ⟨w.heap.size, 0, none⟩), .pointer (some ⟨w.heap.size + 1, 0, none⟩), .pointer (some ⟨w.heap.size + 1 + 1, 0, none⟩)]) (by simp) (by simp [go_sem]) ?_
      refine (lnCatch_no _ _ _ _).mono ?_
      rintro e u' w'' ⟨rfl, rfl, rfl⟩
      simp [Leaves, settle, results, Try.results14, go_sem, c0, c1, c2]
      have HTE := Lib.hid (show T = T1 by rw [HTr.out, HE.out, List.append_nil])
      rw [HTE.out]
      exact ⟨HP7.out, HB7.out⟩
end Go.Proofs.Ytmpmkjlkhlagfaa
namespace Go.Proofs.Ytmpmkjlkhlagfaa
open Go.RowKit Go.Fd
theorem findL_step {T : List EntM} {i : Nat} {x y : EntM} (a : Nat) (h1 : T[i]? = some x) (h2 : T[i + 1]? = some y) : findL (T.drop i) a = if x.fin = false ∧ x.addr ≤ a ∧ a < y.addr then some x else findL (T.drop (i + 1)) a := by
  obtain ⟨k1, e1⟩ := List.getElem?_eq_some_iff.1 h1
  obtain ⟨k2, e2⟩ := List.getElem?_eq_some_iff.1 h2
  rw [List.drop_eq_getElem_cons k1, List.drop_eq_getElem_cons k2, e1, e2]
  rfl
theorem findL_end {T : List EntM} {i : Nat} (a : Nat) (h : T.length ≤ i + 1) : findL (T.drop i) a = none := by
  have hl : (T.drop i).length ≤ 1 := by rw [List.length_drop]; omega
  match hT : T.drop i, hl with
  | [], _ => rfl
  | [_], _ => rfl
  | _ :: _ :: _, hl => simp at hl
theorem ent_cells {w : World} {a : Option Addr} {m c k : Nat} {l : List EntM} {x : EntM} (h : RdR 4 encEnt w (.slice a m c) l) (hk : l[k]? = some x) :
    ∃ b o, a = some ⟨b, o, none⟩ ∧ w.cell? ⟨b, o + k * 4, none⟩ = some (.int .u64 (x.addr : Int)) ∧ w.cell? ⟨b, o + k * 4 + 1, none⟩ = some (.int .i64 x.file) ∧ w.cell? ⟨b, o + k * 4 + 2, none⟩ = some (.int .i64 x.line) ∧ w.cell? ⟨b, o + k * 4 + 3, none⟩ = some (.bool x.fin) := by
  obtain ⟨b, o, ha, hd⟩ := cells_rd (enc := encEnt) (n := 4) (fun _ => rfl) (by decide) h hk
  exact ⟨b, o, ha, hd 0 _ rfl, hd 1 _ rfl, hd 2 _ rfl, hd 3 _ rfl⟩
theorem lnResults2 {P : Program} {fn : Func} {p u : Tmp} {ty : TypeId} (h : fn.results = #[.cell p ty, .tmp u]) (tmps : Array Value) (w : World) (g : Nat) (t : TypeId) (cs : Array Value) (fr : Nat × Nat) (d : TypeDesc)
    (hp : tmps.getD p undef = .pointer (some ⟨g, 0, none⟩)) (hg : w.heap[g]? = some (.cells cs t fr))
    (hu : P.underlying ty = some d) (hd : (match d with | .struct _ | .array _ _ => true | _ => false) = true) (hi : (P.info? ty).map (·.size) = some cs.size) :
    (results fn tmps).run P w = .ok (.tuple #[.agg cs, tmps.getD u undef]) w := by
  rw [results_cell_tmp h, hp]
  simp [asAddr, Result.andThen, run_loadVar_row w g t ty cs fr d hg hu hd hi]
/-- What Find tells. -/
def foundV : Option EntM → Value
  | some x => .tuple #[.agg (encEnt x).toArray, .bool true]
  | none => .tuple #[.agg #[.int .u64 0, .int .i64 0, .int .i64 0, .bool false], .bool false]
theorem wpList_allocEnt {ops : Array Oper} {rest : List Oper} {Q : Exit → Act → World → Prop} {a : Act} {w : World} {d : Option Tmp} {ty : TypeId} {pos : String} {aft : Array Edge}
    (h : ∀ w1, w1.heap[w.heap.size]? = some (.cells #[.int .u64 0, .int .i64 0, .int .i64 0, .bool false] 43 (0, 0)) → Below w.heap.size w w1 → w1.heap.size = w.heap.size + 1 → wpList Try.prog ops Q rest (a.put d (.pointer (some ⟨w.heap.size, 0, none⟩))) w1) :
    wpList Try.prog ops Q (⟨d, .alloc 43, ty, pos, aft, none⟩ :: rest) a w :=
  wpList_val rfl (by kernel_rfl) (h (w.alloc (.cells #[.int .u64 0, .int .i64 0, .int .i64 0, .bool false] 43)) (heap_alloc_last w _) (below_alloc w _) (by rw [World.size_alloc]))
set_option maxHeartbeats 4000000 in
set_option maxRecDepth 100000 in
theorem lnFind_any (T : List EntM) (at_ : Nat) (v : Value) (w : World) (hv : RdR 4 encEnt w v T) (hT : T.length < 60000) (_hat : at_ < 18446744073709551616) :
    Calls Try.prog 15 #[v, .int .u64 (at_ : Int)] w fun e w' => e = .returned (foundV (findL T at_)) ∧ Below w.heap.size w w' := by
  have HV := Lib.hid hv
  obtain ⟨m, ad, cap, hm, rfl, hmc, _⟩ := hv.shape
  have HM := Lib.hid hm.out
  have hm9 : m ≤ 60000 := by have := hm.out; omega
  clear hv hm
  go_enter Try.func15, Try.ntmps15
  go_wp2_with ((with_reducible show wpList _ _ _ (⟨some 4, .alloc _, _, _, _, _⟩ :: _) _ _); go_must (refine wpList_allocEnt ?_; intro w1 hx1 hb1 hs1; have HX1 := Lib.hid hx1; have HB1 := Lib.hid hb1; clear hx1 hb1))
  have HF0 := Lib.hid (show findL T at_ = findL (T.drop 0) at_ from rfl)
  clear hs1
  go_loopw [6] (fun iw wr => ∃ i : Nat, iw = .int .i64 ((i : Int) + 1) ∧ i ≤ m ∧ Hid (findL T at_ = findL (T.drop i) at_) ∧ Hid (wr.heap[w.heap.size]? = some (.cells #[.int .u64 0, .int .i64 0, .int .i64 0, .bool false] 43 (0, 0))) ∧ Hid (Below w.heap.size w wr)) (fun iw _ => m + 1 - (intOf iw).toNat)
  case atStart => exact ⟨0, rfl, Nat.zero_le _, HF0, HX1, HB1⟩
  case round =>
    obtain ⟨i, rfl, him, HFr, HXr, HBr⟩ := hrel
    have hszr := (Array.getElem?_eq_some_iff.1 HXr.out).1
    by_cases hlt : i + 1 < m
    · have hd1 : decide ((i : Int) + 1 < (m : Int)) = true := by simp; omega
      obtain ⟨x, hx⟩ : ∃ x, T[i]? = some x := ⟨_, List.getElem?_eq_getElem (by have := HM.out; omega)⟩
      obtain ⟨y, hy⟩ : ∃ y, T[i + 1]? = some y := ⟨_, List.getElem?_eq_getElem (by have := HM.out; omega)⟩
      have HS := Lib.hid (findL_step at_ hx hy)
      have HVr := Lib.hid (HV.out.mono HBr.out)
      have HVY := Lib.hid (fun wx (hb : Below w.heap.size w wx) => ent_cells (HV.out.mono hb) hy)
      obtain ⟨b, o, rfl, e0, e1, e2, e3⟩ := ent_cells HVr.out hx
      clear hx hy
      by_cases hc : x.fin = false ∧ x.addr ≤ at_ ∧ at_ < y.addr
      · have HR := Lib.hid (show findL T at_ = some x by rw [HFr.out, HS.out, if_pos hc])
        obtain ⟨g1, g2, g3⟩ := hc
        have HG := Lib.hid g1
        go_wp2_with (first
          | ((with_reducible show wpList _ _ _ (⟨none, .store _ (.tmp 7) _, _, _, _, _⟩ :: _) _ _); go_must (refine wpList_storeNew rfl rfl (by kernel_rfl) rfl (by simp [Value.oneCell']) ?_; intro w2 hh2 hb2; have c0 := cell_rec hh2 0; have c1 := cell_rec hh2 1; have c2 := cell_rec hh2 2; have c3 := cell_rec hh2 3; simp only [List.getElem?_toArray, List.getElem?_cons_zero, List.getElem?_cons_succ] at c0 c1 c2 c3; have HX2 := Lib.hid (heap_below hb2 HXr.out); have HB2 := Lib.hid (HBr.out.trans (hb2.mono (by omega))); obtain ⟨b', o', hbo, f0, f1, f2, f3⟩ := HVY.out w2 HB2.out; cases hbo; clear hh2 hb2))
          | ((with_reducible show wpList _ _ _ (⟨none, .store _ (.tmp 4) _, _, _, _, _⟩ :: _) _ _); go_must (refine wpList_storeRowS HX2.out rfl rfl rfl (by kernel_rfl) (by simp [Value.oneCell']) ?_; intro w5 hh5 hs5; have HH5 := Lib.hid hh5; have HB5 := Lib.hid (HB2.out.trans (hs5.below HB2.out.size (fun k e => Nat.le_of_eq e.symm))); clear hh5 hs5)))
        first
          | refine bodyPost_ret (lnResults2 rfl _ _ w.heap.size _ _ _ _ rfl HH5.out rfl rfl (by kernel_rfl)) rfl ⟨?_, HB5.out⟩
          | refine bodyPost_end (lnResults2 rfl _ _ w.heap.size _ _ _ _ rfl HH5.out rfl rfl (by kernel_rfl)) rfl ⟨?_, HB5.out⟩
        rw [HR.out]
        simp [foundV, encEnt, HG.out]
      · have HR := Lib.hid (show findL T at_ = findL (T.drop (i + 1)) at_ by rw [HFr.out, HS.out, if_neg hc])
        have HNC := Lib.hid hc
        clear hc
        go_wp2_with (first
          | ((with_reducible show wpList _ _ _ (⟨none, .store _ (.tmp 7) _, _, _, _, _⟩ :: _) _ _); go_must (refine wpList_storeNew rfl rfl (by kernel_rfl) rfl (by simp [Value.oneCell']) ?_; intro w2 hh2 hb2; have c0 := cell_rec hh2 0; have c1 := cell_rec hh2 1; have c2 := cell_rec hh2 2; have c3 := cell_rec hh2 3; simp only [List.getElem?_toArray, List.getElem?_cons_zero, List.getElem?_cons_succ] at c0 c1 c2 c3; have HX2 := Lib.hid (heap_below hb2 HXr.out); have HB2 := Lib.hid (HBr.out.trans (hb2.mono (by omega))); obtain ⟨b', o', hbo, f0, f1, f2, f3⟩ := HVY.out w2 HB2.out; cases hbo; clear hh2 hb2))
          | ((with_reducible show wpList _ _ _ (⟨some 37, _, _, _, _, _⟩ :: _) _ _); exact absurd (And.intro (by first | assumption | simp_all) (And.intro (by omega) (by omega))) HNC.out))
        all_goals go_roundw
        all_goals first
          | (simp [intOf]; omega)
          | exact ⟨i + 1, by (rw [Int.natCast_add]; try rfl), by omega, HR, HX2, HB2⟩
          | exact ⟨_, _, _, _, _, _, _, _, _, _, _, _, _, _, _, _, _, _, _, _, _, _, _, _, _, _, _, _, _, _, _, _, _, ⟨i + 1, by (rw [Int.natCast_add]; try rfl), by omega, HR, HX2, HB2⟩, rfl⟩
    · have hd1 : decide ((i : Int) + 1 < (m : Int)) = false := by simp; omega
      have HE := Lib.hid (findL_end (T := T) (i := i) at_ (by have := HM.out; omega))
      go_wp2_with ((with_reducible show wpList _ _ _ (⟨none, .store _ (.tmp 4) _, _, _, _, _⟩ :: _) _ _); go_must (refine wpList_storeRowS HXr.out rfl rfl rfl (by kernel_rfl) (by simp [Value.oneCell']) ?_; intro w5 hh5 hs5; have HH5 := Lib.hid hh5; have HB5 := Lib.hid (HBr.out.trans (hs5.below HBr.out.size (fun k e => Nat.le_of_eq e.symm))); clear hh5 hs5))
      first
        | refine bodyPost_ret (lnResults2 rfl _ _ w.heap.size _ _ _ _ rfl HH5.out rfl rfl (by kernel_rfl)) rfl ⟨?_, HB5.out⟩
        | refine bodyPost_end (lnResults2 rfl _ _ w.heap.size _ _ _ _ rfl HH5.out rfl rfl (by kernel_rfl)) rfl ⟨?_, HB5.out⟩
      rw [HFr.out, HE.out]
      rfl
end Go.Proofs.Ytmpmkjlkhlagfaa
namespace Go.Proofs.Ytmpmkjlkhlagfaa
open Go.RowKit Go.Fd
instance entDec : DecidableEq EntM := fun x y =>
  if h : x.addr = y.addr ∧ x.file = y.file ∧ x.line = y.line ∧ x.fin = y.fin then isTrue (by cases x; cases y; simp_all) else isFalse (by intro e; subst e; exact h ⟨rfl, rfl, rfl, rfl⟩)
theorem run_ent (x y : EntM) (w : World) : (Op.equalIn 10000 43 (.agg (encEnt x).toArray) (.agg (encEnt y).toArray)).run Try.prog w = .ok (decide (x = y)) w := by
  have h2 : Try.prog.stoodInHeld 43 = false := by kernel_rfl
  have h3 : (Try.prog.fieldsOf 43).toList.map (fun f => (f.name, f.type, f.offset)) = [("Addr", 36, 0), ("File", 3, 1), ("Line", 3, 2), ("End", 4, 3)] := by kernel_rfl
  have h4 : Try.prog.underlying 43 = some (.struct (Try.prog.fieldsOf 43)) := by kernel_rfl
  have a3 : ∀ w, (isAgg 3).run Try.prog w = .ok false w := fun w => by kernel_rfl
  have a2 : ∀ w, (isAgg 4).run Try.prog w = .ok false w := fun w => by kernel_rfl
  have a53 : ∀ w, (isAgg 36).run Try.prog w = .ok false w := fun w => by kernel_rfl
  have u3 : Try.prog.underlying 3 = some (.int .i64) := by kernel_rfl
  have u2 : Try.prog.underlying 4 = some .bool := by kernel_rfl
  have u53 : Try.prog.underlying 36 = some (.int .u64) := by kernel_rfl
  have h5 := run_eqFields_flat (P := Try.prog) (d := 9999) (xs := (encEnt x).toArray) (ys := (encEnt y).toArray) (w := w) _ _ [(x.addr : Int) == y.addr, x.file == y.file, x.line == y.line, x.fin == y.fin] h3
    ⟨by decide, a53 w, ⟨_, _, rfl, rfl, run_equalIn_int w 9998 _ _ _ _ _ u53⟩, by decide, a3 w, ⟨_, _, rfl, rfl, run_equalIn_int w 9998 _ _ _ _ _ u3⟩, by decide, a3 w, ⟨_, _, rfl, rfl, run_equalIn_int w 9998 _ _ _ _ _ u3⟩, by decide, a2 w, ⟨_, _, rfl, rfl, run_equalIn_bool w 9998 _ _ _ u2⟩, trivial⟩
  rw [run_equalIn_agg _ 9999 _ _ _ h4 h2, h5]
  refine congrArg (fun b => Result.ok b w) ?_
  rw [Bool.eq_iff_iff, decide_eq_true_iff]
  cases x
  cases y
  simp
  omega
theorem neq_ent (x y : EntM) (p q : Operand) (w : World) : (do eqGuard .neq 43 p q (.agg (encEnt x).toArray) (.agg (encEnt y).toArray); binOp .neq 43 (.agg (encEnt x).toArray) (.agg (encEnt y).toArray) : Sem Value).run Try.prog w = .ok (.bool (!decide (x = y))) w := by
  have h1 : Try.prog.eqGuardType Try.prog.depth 43 = false := by kernel_rfl
  rw [Sem.run_bind, run_eqGuard_agg _ _ _ _ _ _ _ h1, Result.andThen_ok, run_neq_struct, run_ent, Result.andThen_ok]
set_option maxRecDepth 100000 in
theorem ref18Same_any (l m : List EntM) (v u : Value) (w : World) (hl : l.length ≤ 1000000000) (hm : m.length ≤ 1000000000) (hv : RdR 4 encEnt w v l) (hu : RdR 4 encEnt w u m) :
    Calls Try.prog 16 #[v, u] w fun e w' => e = .returned (.bool (decide (l = m))) ∧ Below w.heap.size w w' := by
  obtain ⟨a, ca, rfl, hca, hna, hc⟩ := hv.open (fun _ => rfl)
  obtain ⟨b, cb, rfl, hcb, hnb, hd⟩ := hu.open (fun _ => rfl)
  have HC := Lib.hid hc
  have HD := Lib.hid hd
  clear hc hd hna hnb hv hu
  obtain ⟨nl, hnl⟩ : ∃ n, n = l.length := ⟨_, rfl⟩
  obtain ⟨nm, hnm⟩ : ∃ n, n = m.length := ⟨_, rfl⟩
  rw [← hnl] at hl hca ⊢
  rw [← hnm] at hm hcb ⊢
  have HL := Lib.hid hnl
  have HM := Lib.hid hnm
  clear hnl hnm
  by_cases hlen : nl = nm
  · subst hlen
    go_enter Try.func16, Try.ntmps16
    go_wp2
    go_loopw [5] (fun i wr => ∃ k : Nat, i = .int .i64 k ∧ k ≤ nl ∧ Hid (l.take k = m.take k) ∧ Hid (Below w.heap.size w wr)) (fun i _ => nl - (intOf i).toNat)
    case atStart => exact ⟨0, rfl, Nat.zero_le _, by simp [Hid], Below.refl _ _⟩
    case round =>
      obtain ⟨k, rfl, hk, HT, HB⟩ := hrel
      by_cases hlt : k < nl
      · have X1 := Lib.hid (show l[k]? = some (l[k]'(by have := HL.out; omega)) from List.getElem?_eq_getElem _)
        have X2 := Lib.hid (show m[k]? = some (m[k]'(by have := HM.out; omega)) from List.getElem?_eq_getElem _)
        generalize l[k]'(by have := HL.out; omega) = x at *
        generalize m[k]'(by have := HM.out; omega) = y at *
        obtain ⟨b1, o1, ha, hc1⟩ := HC.out k x X1.out (by decide)
        obtain ⟨b2, o2, hb, hc2⟩ := HD.out k y X2.out (by decide)
        subst ha hb
        have hd1 : ∀ c v, (encEnt x)[c]? = some v → wr.cell? ⟨b1, o1 + k * 4 + c, none⟩ = some v := fun c v h => by
          have h6 : c < 4 := (List.getElem?_eq_some_iff.1 h).1
          have := (hc1 c h6).trans h
          rw [← Nat.add_assoc] at this
          exact (HB.out.cell (block_lt this)).trans this
        have hd2 : ∀ c v, (encEnt y)[c]? = some v → wr.cell? ⟨b2, o2 + k * 4 + c, none⟩ = some v := fun c v h => by
          have h6 : c < 4 := (List.getElem?_eq_some_iff.1 h).1
          have := (hc2 c h6).trans h
          rw [← Nat.add_assoc] at this
          exact (HB.out.cell (block_lt this)).trans this
        have c10 := hd1 0 _ rfl
        have c11 := hd1 1 _ rfl
        have c12 := hd1 2 _ rfl
        have c13 := hd1 3 _ rfl
        have c20 := hd2 0 _ rfl
        have c21 := hd2 1 _ rfl
        have c22 := hd2 2 _ rfl
        have c23 := hd2 3 _ rfl
        rw [Nat.add_zero] at c10 c20
        clear hc1 hc2 hd1 hd2
        go_wp2
        refine wp_region_quiet_lit (by kernel_rfl) (by kernel_rfl) ?_
        repeat (first
          | ((with_reducible show wpQuiet _ _ _ _ (⟨some 25, _, _, _, _, _⟩ :: _) _); refine wpQuiet_run rfl (by rintro _ ⟨n, rfl⟩; exact run_bin rfl rfl (neq_ent x y _ _ _)) ?_)
          | quiet_step (fail))
        refine wpQuiet_nil ?_
        rintro _ ⟨nq, rfl⟩
        by_cases hxy : x = y
        · rw [show (!decide (x = y)) = false by simpa using hxy]
          have HN := Lib.hid (take_step X1.out X2.out HT.out hxy)
          clear hxy
          go_wp2
          go_roundw
          case rel =>
            first
              | exact ⟨k + 1, by go_num, by omega, HN.out, HB.out.drewN _⟩
              | ((repeat apply Exists.intro); exact ⟨⟨k + 1, by go_num, by omega, HN.out, HB.out.drewN _⟩, rfl⟩)
          case measure => simp [intOf] <;> omega
        · rw [show (!decide (x = y)) = true by simpa using hxy]
          have HN := Lib.hid (show decide (l = m) = false by
            rw [decide_eq_false_iff_not]
            intro e
            subst e
            have h1 := X1.out
            rw [X2.out] at h1
            exact hxy (Option.some.inj h1).symm)
          clear hxy
          go_wp2
          go_ret
          exact ⟨by rw [HN.out]; rfl, HB.out.drewN _⟩
      · have HN := Lib.hid (show decide (l = m) = true by
          rw [decide_eq_true_iff]
          have e : k = nl := by omega
          have := HT.out
          rw [e, List.take_of_length_le (by have := HL.out; omega), List.take_of_length_le (by have := HM.out; omega)] at this
          exact this)
        go_wp2
        go_ret
        exact ⟨by rw [HN.out]; rfl, HB.out⟩
  · have HN := Lib.hid (show decide (l = m) = false by
      rw [decide_eq_false_iff_not]
      intro e
      subst e
      exact hlen (HL.out.trans HM.out.symm))
    go_enter Try.func16, Try.ntmps16
    go_wp2
    go_ret
    exact ⟨by rw [HN.out]; rfl, Below.refl _ _⟩
/-- How much the statements take. -/
def lightL (fs : List (List UInt8)) (rs : List RunM) : Bool := decide (fs.length + rs.length + nrows rs ≤ 400)
set_option maxRecDepth 100000 in
theorem light18_any (fs : List (List UInt8)) (fv : Value) (rs : List RunM) (L : List (RunM × Value)) (rv : Value) (w : World) (hv : Rd S w fv fs) (hr : RunsAt w rv rs L) (hn : fs.length + rs.length + nrows rs ≤ 1000000000) :
    Calls Try.prog 9 #[fv, rv] w fun e w' => e = .returned (.bool (lightL fs rs)) ∧ w = w' := by
  have HRS := Lib.hid hr
  obtain ⟨m, ad, cap, hm1, rfl, _, _⟩ := hv.shape
  have HM := Lib.hid hm1.out
  obtain ⟨n, ra, rc, hn1, rfl, _, _⟩ := hr.rd.shape
  have HN := Lib.hid (show n = rs.length by rw [hr.eq, List.length_map]; exact hn1.out)
  have HNL := Lib.hid hn1.out
  have HA := Lib.hid hn
  have hmn : m + n + nrows rs ≤ 1000000000 := by have := HM.out; have := HN.out; omega
  clear hv hr hm1 hn1 hn
  go_enter Try.func9, Try.ntmps9
  go_wp2
  go_loop [5, 6] (fun cw iw => ∃ j : Nat, iw = .int .i64 (j : Int) ∧ j ≤ n ∧ cw = .int .i64 ((m + j + nrows (rs.take j) : Nat) : Int)) (fun _ iw => n - (intOf iw).toNat)
  case atStart => exact ⟨0, rfl, Nat.zero_le _, rfl⟩
  case round =>
    obtain ⟨j, rfl, hj, rfl⟩ := hrel
    by_cases hlt : j < n
    · have X1 := Lib.hid (show L[j]? = some (L[j]'(by have := HNL.out; omega)) from List.getElem?_eq_getElem _)
      generalize L[j]'(by have := HNL.out; omega) = p at *
      have X2 := Lib.hid (show rs[j]? = some p.1 by rw [HRS.out.eq, List.getElem?_map, X1.out]; rfl)
      have HNR := Lib.hid (show nrows (rs.take (j + 1)) = nrows (rs.take j) + p.1.rows.length by rw [take_snoc' rs j p.1 X2.out, nrows_snoc])
      have hle : nrows (rs.take j) + p.1.rows.length ≤ nrows rs := by
        have h1 : nrows (rs.take (j + 1)) + nrows (rs.drop (j + 1)) = nrows rs := by
          unfold nrows
          rw [← List.sum_append, ← List.map_append, List.take_append_drop]
        have := HNR.out
        omega
      obtain ⟨b2, o2, ha2, u0, u1, u2⟩ := run_cells HRS.out.rd X1.out
      subst ha2
      obtain ⟨pm, pa, pc, hpm, hp2, _, _⟩ := (HRS.out.rows p (List.mem_of_getElem? X1.out)).shape
      rw [hp2] at u1
      have HPM := Lib.hid hpm.out
      have hpm9 : nrows (rs.take j) + pm ≤ nrows rs := by have := hpm.out; omega
      clear hp2 hpm hle
      generalize hq : nrows (rs.take j) = q at *
      generalize nrows rs = q9 at *
      go_wp2
      go_round
      case rel => exact ⟨j + 1, by go_num, by omega, by rw [HNR.out, ← HPM.out]; go_num⟩
      case measure => simp [intOf] <;> omega
    · obtain rfl : j = n := by omega
      have htk : rs.take j = rs := List.take_of_length_le (by have := HN.out; omega)
      rw [htk]
      have HR := Lib.hid (show lightL fs rs = decide (((m + j + nrows rs : Nat) : Int) ≤ 400) by
        unfold lightL
        rw [← HM.out, ← HN.out]
        exact decide_eq_decide.2 (by omega))
      clear htk hlt
      generalize nrows rs = q at *
      go_wp2
      go_ret
      exact ⟨by rw [HR.out, Int.natCast_add, Int.natCast_add]; rfl, rfl⟩
end Go.Proofs.Ytmpmkjlkhlagfaa
namespace Go.Proofs.Ytmpmkjlkhlagfaa
open Go.RowKit Go.Fd
theorem rd_recs {α : Type} {k : Nat} {enc : α → List Value} {w : World} {g : Nat} {cs : Array Value} {t : TypeId} {fr : Nat × Nat} {x : α} (hk : (enc x).length = k) (h : w.heap[g]? = some (.cells cs t fr)) (hc : cs = (enc x).toArray) : RdR k enc w (.slice (some ⟨g, 0, none⟩) 1 1) [x] := by
  subst hc
  refine ⟨by simp [hk], _, _, rfl, Nat.le_refl _, (fun h => by cases h), fun j hj => ⟨g, 0, rfl, ?_⟩⟩
  rw [Nat.zero_add, cell_rec h j]
  simp
theorem rd_one1 {α : Type} {mk : α → Value} {w : World} {g : Nat} {t : TypeId} {fr : Nat × Nat} {x : α} (h : w.heap[g]? = some (.cells #[mk x] t fr)) : Rd mk w (.slice (some ⟨g, 0, none⟩) 1 1) [x] := by
  refine ⟨by simp, _, _, rfl, Nat.le_refl _, (fun h => by cases h), fun j hj => ⟨g, 0, rfl, ?_⟩⟩
  rw [Nat.zero_add, cell_rec h j]
  simp
set_option maxRecDepth 100000 in
theorem wpList_litA {ops : Array Oper} {rest : List Oper} {Q : Exit → Act → World → Prop} {a : Act} {w : World} {d : Option Tmp} {ty : TypeId} {pos : String} {aft : Array Edge}
    (h : ∀ w1, Rd S w1 (.slice (some ⟨w.heap.size, 0, none⟩) 1 1) [[97]] → Below w.heap.size w w1 → w1.heap.size = w.heap.size + 1 → wpList Try.prog ops Q rest (a.put d (.slice (some ⟨w.heap.size, 0, none⟩) 1 1)) w1) :
    wpList Try.prog ops Q (⟨d, .buildSlice 22 1 #[(0, .const (.string ⟨#[97]⟩))], ty, pos, aft, none⟩ :: rest) a w :=
  wpList_val rfl (by kernel_rfl) (h (w.alloc (.cells #[.string ⟨#[97]⟩] 9)) (rd_one1 (mk := S) (x := [97]) (heap_alloc_last w _)) (below_alloc w _) (by rw [World.size_alloc]))
set_option maxRecDepth 100000 in
theorem run_oneRow {x : Operand} {r : RowM} {a : Act} {w : World} {d : Option Tmp} {ty : TypeId} {pos : String} {aft : Array Edge} {g : Option (Nat × Bool)} (hx : a.eval x = .agg (encRow r).toArray) :
    (execOp a.eval ⟨d, .buildSlice 37 1 #[(0, x)], ty, pos, aft, g⟩).run Try.prog w = .ok (.value (.slice (some ⟨w.heap.size, 0, none⟩) 1 1)) (w.alloc (.cells (encRow r).toArray 41)) := by
  simp only [execOp, List.map_toArray, List.map_cons, List.map_nil, hx]
  kernel_rfl
set_option maxRecDepth 100000 in
theorem run_oneRun {x : Operand} {r : RunM} {p : Option Addr} {m c : Nat} {a : Act} {w : World} {d : Option Tmp} {ty : TypeId} {pos : String} {aft : Array Edge} {g : Option (Nat × Bool)} (hx : a.eval x = .agg (encRun (r, .slice p m c)).toArray) :
    (execOp a.eval ⟨d, .buildSlice 23 1 #[(0, x)], ty, pos, aft, g⟩).run Try.prog w = .ok (.value (.slice (some ⟨w.heap.size, 0, none⟩) 1 1)) (w.alloc (.cells (encRun (r, .slice p m c)).toArray 39)) := by
  simp only [execOp, List.map_toArray, List.map_cons, List.map_nil, hx]
  kernel_rfl
theorem wpList_oneRow {ops : Array Oper} {rest : List Oper} {Q : Exit → Act → World → Prop} {x : Operand} {r : RowM} {a : Act} {w : World} {d : Option Tmp} {ty : TypeId} {pos : String} {aft : Array Edge} (hx : a.eval x = .agg (encRow r).toArray)
    (h : ∀ w1, RdR 3 encRow w1 (.slice (some ⟨w.heap.size, 0, none⟩) 1 1) [r] → Below w.heap.size w w1 → w1.heap.size = w.heap.size + 1 → wpList Try.prog ops Q rest (a.put d (.slice (some ⟨w.heap.size, 0, none⟩) 1 1)) w1) :
    wpList Try.prog ops Q (⟨d, .buildSlice 37 1 #[(0, x)], ty, pos, aft, none⟩ :: rest) a w :=
  wpList_val rfl (run_oneRow hx) (h _ (rd_recs rfl (heap_alloc_last w _) rfl) (below_alloc w _) (by rw [World.size_alloc]))
theorem wpList_oneRun {ops : Array Oper} {rest : List Oper} {Q : Exit → Act → World → Prop} {x : Operand} {r : RunM} {p : Option Addr} {m c : Nat} {a : Act} {w : World} {d : Option Tmp} {ty : TypeId} {pos : String} {aft : Array Edge} (hx : a.eval x = .agg (encRun (r, .slice p m c)).toArray) (hr : RdR 3 encRow w (.slice p m c) r.rows)
    (h : ∀ w1, RunsAt w1 (.slice (some ⟨w.heap.size, 0, none⟩) 1 1) [r] [(r, .slice p m c)] → Below w.heap.size w w1 → w1.heap.size = w.heap.size + 1 → wpList Try.prog ops Q rest (a.put d (.slice (some ⟨w.heap.size, 0, none⟩) 1 1)) w1) :
    wpList Try.prog ops Q (⟨d, .buildSlice 23 1 #[(0, x)], ty, pos, aft, none⟩ :: rest) a w :=
  wpList_val rfl (run_oneRun hx) (h _ ⟨rfl, rd_recs rfl (heap_alloc_last w _) rfl, fun p hp => by rw [List.mem_singleton] at hp; subst hp; exact hr.mono (below_alloc w _)⟩ (below_alloc w _) (by rw [World.size_alloc]))
abbrev begRow : RowM := ⟨0, 1, 5⟩
abbrev begRun : RunM := ⟨0, [begRow], 4⟩
theorem beg_faulty : faultyL [[97]] [begRun] = 0 := by decide +kernel
theorem beg_places : (placesB [[97]] [begRun]).length = 1 := by decide +kernel
theorem beg_ents : unitEnts [begRun] = [⟨0, 1, 5, false⟩, ⟨4, 1, 5, true⟩] := by decide +kernel
theorem beg_find : findL (unitEnts [begRun]) 3 = some ⟨0, 1, 5, false⟩ := by rw [beg_ents]; rfl
theorem beg_fits : ∀ r ∈ [begRun], r.fits := fun r hr => by
  rw [List.mem_singleton] at hr
  subst hr
  exact ⟨by decide, by decide, by decide, fun x hx => by rw [List.mem_singleton] at hx; subst hx; exact ⟨by decide, by decide, by decide, by decide, by decide, by decide⟩⟩
theorem beg_len : (unitB [[97]] [begRun]).length ≤ 1000000 := by
  rw [unitB_len]
  have := lnBodyB_le beg_faulty (by decide)
  omega
theorem ent4 {x : EntM} {w : World} {g : Nat} {fr : Nat × Nat} {t : TypeId} (h : w.heap[g]? = some (.cells (encEnt x).toArray t fr)) : w.cell? ⟨g, 0, none⟩ = some (.int .u64 (x.addr : Int)) ∧ w.cell? ⟨g, 1, none⟩ = some (.int .i64 x.file) ∧ w.cell? ⟨g, 2, none⟩ = some (.int .i64 x.line) ∧ w.cell? ⟨g, 3, none⟩ = some (.bool x.fin) :=
  ⟨cell_rec h 0, cell_rec h 1, cell_rec h 2, cell_rec h 3⟩
attribute [local irreducible] unitB placesB unitEnts findL
set_option maxHeartbeats 4000000 in
set_option maxRecDepth 100000 in
theorem begun18_any (w : World) : Calls Try.prog 8 #[] w fun e w' => e = .returned (.bool true) ∧ Below w.heap.size w w' := by
  have HUR := Lib.hid (unitR_yes beg_faulty)
  have HU := Lib.hid (units_one beg_faulty (by decide) beg_fits)
  have HBL := Lib.hid beg_len
  have HPL := Lib.hid beg_places
  have HEN := Lib.hid beg_ents
  have HFI := Lib.hid beg_find
  go_enter Try.func8, Try.ntmps8
  go_wp2_with (first
    | ((with_reducible show wpList _ _ _ (⟨some 10, _, _, _, _, _⟩ :: _) _ _); go_must (refine wpList_litA ?_; intro w1 hv1 hb1 hs1; have HV1 := Lib.hid hv1; have HB1 := Lib.hid hb1; have hz1 := Nat.le_of_eq hs1.symm; clear hv1 hb1 hs1))
    | ((with_reducible show wpList _ _ _ (⟨some 12, _, _, _, _, _⟩ :: _) _ _); go_must (refine wpList_oneRow (r := begRow) rfl ?_; intro w2 hv2 hb2 hs2; have HV2 := Lib.hid hv2; have HV12 := Lib.hid (HV1.out.mono hb2); have HB2 := Lib.hid (HB1.out.trans (hb2.mono (by omega))); have hz2 := Nat.le_of_eq hs2.symm; clear hv2 hb2 hs2))
    | ((with_reducible show wpList _ _ _ (⟨some 14, _, _, _, _, _⟩ :: _) _ _); go_must (refine wpList_oneRun (r := begRun) rfl HV2.out ?_; intro w3 hv3 hb3 hs3; have HV3 := Lib.hid hv3; have HV13 := Lib.hid (HV12.out.mono hb3); have HB3 := Lib.hid (HB2.out.trans (hb3.mono (by omega))); have hz3 := Nat.le_of_eq hs3.symm; clear hv3 hb3 hs3))
    | (go_at_call 10; go_must (refine (lnUnit_any [[97]] _ [begRun] _ _ _ HV13.out HV3.out (by decide) (fun s hs => by rw [List.mem_singleton] at hs; subst hs; decide) beg_fits).mono ?_; rintro e w4 ⟨vb, va, rfl, hvb, hva, hb4⟩; rw [HUR.out] at hvb hva ⊢; have HVB := Lib.hid hvb.bs; obtain ⟨bm, ba, bc, -, rfl, _, _⟩ := hvb.shape; obtain ⟨am, aa, ac, ham, rfl, _, _⟩ := hva.shape; have HAM := Lib.hid (show am = 1 by rw [ham.out]; exact HPL.out); have hs4 := HB3.out.size; have HB4 := Lib.hid (HB3.out.trans (hb4.mono hs4)); clear hvb hva ham hb4)))
  obtain rfl := HAM.out
  go_wp2_with fail
  refine (lnRead_any _ _ _ _ HBL.out HVB.out HU.out (by rw [HEN.out]; decide)).mono ?_
  rintro e w5 ⟨ov, rfl, hov, hb5⟩
  have HOV := Lib.hid hov.rd
  obtain ⟨om, oa, oc, hom, rfl, _, _⟩ := hov.shape
  obtain rfl : om = 2 := by rw [hom.out, HEN.out]; rfl
  have HB5 := Lib.hid (HB4.out.trans (hb5.mono HB4.out.size))
  clear hov hom hb5
  go_wp2_with fail
  refine (lnFind_any (unitEnts [begRun]) 3 _ _ HOV.out (by rw [HEN.out]; decide) (by decide)).mono ?_
  rintro e w6 ⟨rfl, hb6⟩
  have HOV6 := Lib.hid (HOV.out.mono hb6)
  have HB6 := Lib.hid (HB5.out.trans (hb6.mono HB5.out.size))
  have hs6 := HB6.out.size
  rw [HFI.out, show foundV (some ⟨0, 1, 5, false⟩) = .tuple #[.agg #[.int .u64 0, .int .i64 1, .int .i64 5, .bool false], .bool true] from rfl]
  have HCE := Lib.hid (fun wx (hb : Below w6.heap.size w6 wx) => And.intro (ent_cells (k := 0) (x := ⟨0, 1, 5, false⟩) (HOV6.out.mono hb) (by rw [HEN.out]; rfl)) (ent_cells (k := 1) (x := ⟨4, 1, 5, true⟩) (HOV6.out.mono hb) (by rw [HEN.out]; rfl)))
  clear hb6 HOV
  go_wp2_with ((with_reducible show wpList _ _ _ (⟨none, .store _ (.tmp 7) _, _, _, _, _⟩ :: _) _ _); go_must (refine wpList_storeNew rfl rfl (by kernel_rfl) rfl (by simp [Value.oneCell']) ?_; intro w7 hh7 hb7; have HB7 := Lib.hid (HB6.out.trans (hb7.mono hs6)); obtain ⟨d0, d1, d2, d3⟩ := ent4 (x := ⟨0, 1, 5, false⟩) hh7; obtain ⟨⟨b, o, hbo, c0, c1, c2, c3⟩, ⟨b', o', hbo', f0, f1, f2, f3⟩⟩ := HCE.out _ hb7; cases hbo; cases hbo'; clear hh7 hb7))
  go_ret
  exact ⟨rfl, HB7.out⟩
end Go.Proofs.Ytmpmkjlkhlagfaa
namespace Go.Proofs.Ytmpmkjlkhlagfaa
open Go.RowKit Go.Fd
theorem own_ge {w : World} {base e size n : Nat} {v : Value} {xs : List Value} (h : w.ownsRow base e size v n xs) : ∀ k, v.ownBlock = some k → base ≤ k := by
  intro k hk
  rcases h.2 with ⟨rfl, _⟩ | ⟨g, c, u, rfl, hb, _⟩
  · cases hk
  · simp only [Value.ownBlock, Option.some.injEq] at hk
    omega
theorem own_lt {w : World} {base e size n : Nat} {v : Value} {xs : List Value} (h : w.ownsRow base e size v n xs) : ∀ k, v.ownBlock = some k → k < w.heap.size := by
  intro k hk
  rcases h.2 with ⟨rfl, _⟩ | ⟨g, c, u, rfl, hb, hg, _⟩
  · cases hk
  · simp only [Value.ownBlock, Option.some.injEq] at hk
    have := (Array.getElem?_eq_some_iff.1 hg).1
    omega
/-- The rows of two slices, one made behind the other, lie in unlike blocks. -/
theorem own_two {w w' : World} {b1 e1 e2 s1 s2 n1 n2 : Nat} {v1 v2 : Value} {xs1 xs2 : List Value} (h1 : w.ownsRow b1 e1 s1 v1 n1 xs1) (h2 : w'.ownsRow w.heap.size e2 s2 v2 n2 xs2) : ∀ k, v2.ownBlock = some k → v1.ownBlock ≠ some k := by
  intro k hk h
  have a := own_lt h1 k h
  have b := own_ge h2 k hk
  omega
set_option maxRecDepth 100000 in
theorem refStep_any (l m : List UInt8) (op : UInt8) (o : Int) (v u : Value) (b1 b2 : Nat) (w : World) (hv : OB w b1 v l) (hu : OB w b2 u m) (hne : ∀ k, u.ownBlock = some k → v.ownBlock ≠ some k) (ho : o = op.toNat) (hl : l.length ≤ 1000000000) (hm : m.length ≤ 1000000000) (hb : b1 ≤ w.heap.size) :
    Calls Try.prog 38 #[v, .int .u8 o, u] w fun e w' => ∃ v', e = .returned v' ∧ OB w' b1 v' (l ++ op :: m) ∧ Below b1 w w' ∧ Keeps 5 w w' := by
  have HV := Lib.hid hv
  have HU := Lib.hid hu
  have HNE := Lib.hid hne
  obtain ⟨vm, va, vc, hvm, rfl, _, _⟩ := hv.shape
  obtain ⟨um, ua, uc, hum, rfl, _, _⟩ := hu.shape
  have HOP := Lib.hid ho
  clear hv hu hne hvm hum ho
  go_enter Try.func38, Try.ntmps38
  go_wp2_with (first
    | ((with_reducible show wpList _ _ _ (⟨some 10, _, _, _, _, _⟩ :: _) _ _); go_must (refine wpList_pushB HV.out rfl rfl op HOP.out (by omega) hb ?_; intro v1 w1 hv1 hg1 hb1; have HV1 := Lib.hid hv1; have HB1 := Lib.hid hb1; have hs1 := HB1.out.size; have HK1 := Lib.hid (keeps_own HV.out hg1); have HU1 := Lib.hid (show OB w1 b2 (.slice ua um uc) m from owns_grown HU.out hg1 HNE.out); clear hv1 hg1 hb1))
    | ((with_reducible show wpList _ _ _ (⟨some 13, _, _, _, _, _⟩ :: _) _ _); go_must (refine wpList_catB HV1.out HU1.out.bs rfl rfl (by simp; omega) (by omega) ?_; intro v2 w2 hv2 hg2 hb2; have HV2 := Lib.hid hv2; have HB2 := Lib.hid (HB1.out.trans hb2); have HK2 := Lib.hid (HK1.out.trans (keeps_own HV1.out hg2)); clear hv2 hg2 hb2)))
  go_ret
  refine ⟨_, rfl, ?_, HB2.out, HK2.out⟩
  have := HV2.out
  rwa [List.append_assoc] at this
theorem wpList_lit092 {ops : Array Oper} {rest : List Oper} {Q : Exit → Act → World → Prop} {a : Act} {w : World} {d : Option Tmp} {ty : TypeId} {pos : String} {aft : Array Edge}
    (h : ∀ w1, OB w1 w.heap.size (.slice (some ⟨w.heap.size, 0, none⟩) 3 3) [0, 9, 2] → Below w.heap.size w w1 → w1.heap.size = w.heap.size + 1 → wpList Try.prog ops Q rest (a.put d (.slice (some ⟨w.heap.size, 0, none⟩) 3 3)) w1) :
    wpList Try.prog ops Q (⟨d, .buildSlice 26 3 #[(0, .const (.int .u8 0)), (1, .const (.int .u8 9)), (2, .const (.int .u8 2))], ty, pos, aft, none⟩ :: rest) a w :=
  wpList_val rfl (by kernel_rfl) (h (w.alloc (.cells #[.int .u8 0, .int .u8 9, .int .u8 2] 5)) (ob_lit w [0, 9, 2] _ 3 rfl rfl (by omega)) (below_alloc w _) (by rw [World.size_alloc]))
theorem wpList_lit011 {ops : Array Oper} {rest : List Oper} {Q : Exit → Act → World → Prop} {a : Act} {w : World} {d : Option Tmp} {ty : TypeId} {pos : String} {aft : Array Edge}
    (h : ∀ w1, OB w1 w.heap.size (.slice (some ⟨w.heap.size, 0, none⟩) 3 3) [0, 1, 1] → Below w.heap.size w w1 → w1.heap.size = w.heap.size + 1 → wpList Try.prog ops Q rest (a.put d (.slice (some ⟨w.heap.size, 0, none⟩) 3 3)) w1) :
    wpList Try.prog ops Q (⟨d, .buildSlice 26 3 #[(0, .const (.int .u8 0)), (1, .const (.int .u8 1)), (2, .const (.int .u8 1))], ty, pos, aft, none⟩ :: rest) a w :=
  wpList_val rfl (by kernel_rfl) (h (w.alloc (.cells #[.int .u8 0, .int .u8 1, .int .u8 1] 5)) (ob_lit w [0, 1, 1] _ 3 rfl rfl (by omega)) (below_alloc w _) (by rw [World.size_alloc]))
set_option maxHeartbeats 4000000 in
set_option maxRecDepth 100000 in
theorem refProgram_any (n : Nat) (r : RunM) (rv : Value) (w : World) (hr : RdR 3 encRow w rv r.rows) (hn : n ≤ 100) (hk : runOk n r = true) (hf : r.fits) (hm : r.rows.length ≤ 1000) :
    Calls Try.prog 26 #[.agg (encRun (r, rv)).toArray] w fun e w' => ∃ v, e = .returned v ∧ OB w' w.heap.size v (runB r) ∧ Below w.heap.size w w' := by
  obtain ⟨at_, rows, fin⟩ := r
  obtain ⟨k0, k1⟩ := runOk_iff hk
  obtain ⟨f1, f2, f3, f4⟩ := hf
  simp only at k0 k1 f1 f2 f3 f4 hr hm
  have K1 := Lib.hid k1
  have HR := Lib.hid hr
  obtain ⟨m, ra, rc, hml, rfl, _, _⟩ := hr.shape
  have HM := Lib.hid hml.out
  have hm9 : m ≤ 1000 := by have := hml.out; omega
  have HLO := Lib.hid (rowsOk_last rows 0 k1 k0)
  obtain ⟨F, rfl⟩ := Int.eq_ofNat_of_zero_le k0
  clear hk k1 f4 hr hml hm
  show Calls Try.prog 26 #[.agg #[.int .u64 (at_ : Int), .slice ra m rc, .int .i64 (F : Int)]] w _
  go_enter Try.func26, Try.ntmps26
  go_wp2_with (first
    | ((with_reducible show wpList _ _ _ (⟨some 1, .box _ _, _, _, _, _⟩ :: _) _ _); go_must (refine wpList_boxA rfl ?_; intro w1 hx1 hb1 hs1; have HX1 := Lib.hid hx1; have HB1 := Lib.hid hb1; clear hx1 hb1))
    | ((with_reducible show wpList _ _ _ (⟨some 9, _, _, _, _, _⟩ :: _) _ _); go_must (refine wpList_lit092 ?_; intro w2 ho2 hb2 hs2; have HO2 := Lib.hid ho2; have HX2 := Lib.hid (heap_below hb2 HX1.out); have HB2 := Lib.hid (HB1.out.trans (hb2.mono (by omega))); obtain ⟨x0, x1, x2⟩ := run3 HX2.out; clear HX1 ho2 hb2))
    | (go_at_call 25; go_must (refine (fixed_int at_ 8 _ (by omega) (by omega) (by omega)).mono ?_; rintro e w3 ⟨v3, rfl, hv3, hb3⟩; have HV3 := Lib.hid (OB.bs (show OB w3 w2.heap.size v3 (fixed at_ 8) from hv3)); obtain ⟨m3, a3, q3, -, rfl, _, _⟩ := hv3.shape; have HO3 := Lib.hid (HO2.out.mono hb3); have HX3 := Lib.hid (heap_below hb3 HX2.out); have HB3 := Lib.hid (HB2.out.trans (hb3.mono HB2.out.size)); have hs3 := HB3.out.size; have hs13 := hb3.size; clear hv3 hb3 x0 x1 x2))
    | ((with_reducible show wpList _ _ _ (⟨some 13, _, _, _, _, _⟩ :: _) _ _); go_must (refine wpList_catB (OB.base HO3.out (by omega) : OB w3 w.heap.size _ _) HV3.out rfl rfl (by rw [length_fixed]; simp) hs3 ?_; intro v4 w4 hv4 hg4 hb4; have HX4 := Lib.hid (keeps_own HO3.out hg4 _ _ _ _ (by decide) HX3.out); have HV4 := Lib.hid hv4; have HB4 := Lib.hid (HB3.out.trans hb4); clear hv4 hg4 hb4)))
  have HTE := Lib.hid (show runB ⟨at_, rows, (F : Int)⟩ = ([0, 9, 2] ++ fixed at_ 8) ++ (rowsB 1 1 0 rows ++ endB (lastOff 0 rows) F) by unfold runB; rw [List.append_assoc])
  have hT9 : ([0, 9, 2] ++ fixed at_ 8).length ≤ 11 := by rw [List.length_append, length_fixed]; simp
  generalize [0, 9, 2] ++ fixed at_ 8 = T0 at *
  clear HX3 HO3 HV3 HB3 HO2 HX2 HB2 hs2 hs3 hs13
  go_loopw [3, 4, 5, 6, 7] (fun vv fw lw ow iw wr => ∃ (k : Nat) (fv lv : Int) (ov : Nat), fw = .int .i64 fv ∧ lw = .int .i64 lv ∧ ow = .int .i64 (ov : Int) ∧ iw = .int .i64 (k : Int) ∧ k ≤ m ∧ 1 ≤ fv ∧ fv ≤ 100 ∧ 1 ≤ lv ∧ lv ≤ 1048576 ∧ ov ≤ F ∧ Hid (fv = lastFile 1 (rows.take k) ∧ lv = lastLine 1 (rows.take k) ∧ (ov : Int) = lastOff 0 (rows.take k)) ∧ Hid (OB wr w.heap.size vv (T0 ++ rowsB 1 1 0 (rows.take k))) ∧ Hid (Below w.heap.size w wr) ∧ Hid (wr.heap[w.heap.size]? = some (.cells #[.int .u64 (at_ : Int), .slice ra m rc, .int .i64 (F : Int)] 39 (0, 0)))) (fun _ _ _ _ iw _ => m - (intOf iw).toNat)
  case atStart => exact ⟨0, 1, 1, 0, rfl, rfl, rfl, rfl, Nat.zero_le _, by decide, by decide, by decide, by decide, Nat.zero_le _, ⟨rfl, rfl, rfl⟩, by simpa [Hid, rowsB] using HV4.out, HB4.out, HX4.out⟩
  case round =>
    obtain ⟨k, fv, lv, ov, rfl, rfl, rfl, rfl, hk, hf1, hf2, hl1, hl2, hov, HE, HC, HBc, HX⟩ := hrel
    have hsz := HBc.out.size
    have HTL := Lib.hid (show (T0 ++ rowsB 1 1 0 (rows.take k)).length ≤ 100000 by
      have h1 := rowsB_len (rows.take k) 1 1 0
      rw [List.length_take] at h1
      rw [List.length_append]
      omega)
    obtain ⟨cm, ca, cc, hcm, rfl, _, _⟩ := HC.out.shape
    obtain ⟨x0, x1, x2⟩ := run3 HX.out
    clear hcm
    by_cases hlt : k < m
    · have X1 := Lib.hid (show rows[k]? = some (rows[k]'(by have := HM.out; omega)) from List.getElem?_eq_getElem _)
      generalize rows[k]'(by have := HM.out; omega) = x at *
      have HOK := rowOk_iff (rows_ok_at rows 0 k x K1.out X1.out)
      rw [← HE.out.2.2] at HOK
      have HTK := Lib.hid (show rows.take (k + 1) = rows.take k ++ [x] from take_snoc' rows k x X1.out)
      obtain ⟨b2, o2, ha2, u0, u1, u2⟩ := row_cells (HR.out.mono HBc.out) X1.out
      subst ha2
      obtain ⟨xo, xf, xl⟩ := x
      simp only at HOK u0 u1 u2
      obtain ⟨e1, e2, e3, e4, e5, e6⟩ := HOK
      obtain ⟨f, rfl⟩ := Int.eq_ofNat_of_zero_le (show 0 ≤ xf by omega)
      obtain ⟨q, rfl⟩ := Int.eq_ofNat_of_zero_le (show 0 ≤ xo by omega)
      have HRB := Lib.hid (show ∀ P, P = rowB fv lv ov ⟨q, f, xl⟩ → T0 ++ (rowsB 1 1 0 (rows.take k) ++ P) = T0 ++ rowsB 1 1 0 (rows.take (k + 1)) from fun P hP => by
        rw [HTK.out, rowsB_snoc, ← HE.out.1, ← HE.out.2.1, ← HE.out.2.2, hP])
      have HLS := Lib.hid (show (f : Int) = lastFile 1 (rows.take (k + 1)) ∧ xl = lastLine 1 (rows.take (k + 1)) ∧ (q : Int) = lastOff 0 (rows.take (k + 1)) by
        have := last_snoc (rows.take k) ⟨q, f, xl⟩ 0 1 1
        rw [← HTK.out] at this
        exact ⟨this.2.1.symm, this.2.2.symm, this.1.symm⟩)
      have b1 := (leb_le' f).1
      have b2' := sleb_le' (xl - lv)
      have b3 := (leb_le' (q - ov)).1
      have hws : IntKind.i64.wrap (xl - lv) = xl - lv := by simp only [IntKind.wrap_i64]; omega
      have hwo : IntKind.i64.wrap ((q : Int) - (ov : Int)) = ((q - ov : Nat) : Int) := by simp only [IntKind.wrap_i64]; omega
      have hT19 := HTL.out
      generalize hT1 : rowsB 1 1 0 (rows.take k) = R1 at *
      rw [List.length_append] at hT19
      clear hT1 HTL
      have hqd : ((q : Int) - (ov : Int)).toNat = q - ov := by omega
      have HQD := Lib.hid hqd
      clear hqd
      cases hb1 : ((f : Int) != fv) <;> cases hb2 : (xl != lv) <;> cases hb3 : ((q : Int) != (ov : Int))
      all_goals
        go_wp2_with (first
          | ((with_reducible show wpList _ _ _ (⟨none, .store _ _ _, _, _, _, _⟩ :: _) _ _); go_must (refine wpList_storeNew rfl rfl (by kernel_rfl) rfl (by simp [Value.oneCell']) ?_; intro w5 hh5 hb5; have HW := Lib.hid (show w5.heap[wr.heap.size]? = some (.cells (encRow ⟨q, f, xl⟩).toArray 41 (0, 0)) from hh5); have HXn := Lib.hid (heap_below hb5 HX.out); have HBn := Lib.hid (HBc.out.trans (hb5.mono hsz)); have HCn := Lib.hid (HC.out.mono hb5); clear HX HBc HC u0 u1 u2 hsz x0 x1 x2; have HX := HXn; have HBc := HBn; have HC := HCn; clear HXn HBn HCn hh5 hb5; have hsz := HBc.out.size; obtain ⟨r0, r1, r2⟩ := row3 HW.out; obtain ⟨x0, x1, x2⟩ := run3 HX.out))
          | ((with_reducible show Calls _ 24 #[.int .u64 (((q - ov : Nat) : Nat) : Int)] _ _); go_must (refine (refLeb_any (q - ov) _ (by omega)).mono ?_; rintro e w6 ⟨v6, rfl, hv6, hb6⟩; have HV6 := Lib.hid hv6; have HNE := Lib.hid (own_two HC.out hv6); obtain ⟨m6, a6, q6, -, rfl, _, _⟩ := hv6.shape; have HXn := Lib.hid (heap_below hb6 HX.out); have HWn := Lib.hid (heap_below hb6 HW.out); have HBn := Lib.hid (HBc.out.trans (hb6.mono hsz)); have HCn := Lib.hid (HC.out.mono hb6); clear HX HBc HC HW hsz r0 r1 r2 x0 x1 x2; have HX := HXn; have HW := HWn; have HBc := HBn; have HC := HCn; clear HXn HWn HBn HCn hv6 hb6; have hsz := HBc.out.size; obtain ⟨r0, r1, r2⟩ := row3 HW.out; obtain ⟨x0, x1, x2⟩ := run3 HX.out))
          | ((with_reducible show Calls _ 24 #[.int .u64 (f : Int)] _ _); go_must (refine (refLeb_any f _ (by omega)).mono ?_; rintro e w6 ⟨v6, rfl, hv6, hb6⟩; have HV6 := Lib.hid hv6; have HNE := Lib.hid (own_two HC.out hv6); obtain ⟨m6, a6, q6, -, rfl, _, _⟩ := hv6.shape; have HXn := Lib.hid (heap_below hb6 HX.out); have HWn := Lib.hid (heap_below hb6 HW.out); have HBn := Lib.hid (HBc.out.trans (hb6.mono hsz)); have HCn := Lib.hid (HC.out.mono hb6); clear HX HBc HC HW hsz r0 r1 r2 x0 x1 x2; have HX := HXn; have HW := HWn; have HBc := HBn; have HC := HCn; clear HXn HWn HBn HCn hv6 hb6; have hsz := HBc.out.size; obtain ⟨r0, r1, r2⟩ := row3 HW.out; obtain ⟨x0, x1, x2⟩ := run3 HX.out))
          | (go_at_call 39; go_must (refine (refSleb_any (xl - lv) _ (by omega) (by omega)).mono ?_; rintro e w6 ⟨v6, rfl, hv6, hb6⟩; have HV6 := Lib.hid hv6; have HNE := Lib.hid (own_two HC.out hv6); obtain ⟨m6, a6, q6, -, rfl, _, _⟩ := hv6.shape; have HXn := Lib.hid (heap_below hb6 HX.out); have HWn := Lib.hid (heap_below hb6 HW.out); have HBn := Lib.hid (HBc.out.trans (hb6.mono hsz)); have HCn := Lib.hid (HC.out.mono hb6); clear HX HBc HC HW hsz r0 r1 r2 x0 x1 x2; have HX := HXn; have HW := HWn; have HBc := HBn; have HC := HCn; clear HXn HWn HBn HCn hv6 hb6; have hsz := HBc.out.size; obtain ⟨r0, r1, r2⟩ := row3 HW.out; obtain ⟨x0, x1, x2⟩ := run3 HX.out))
          | ((with_reducible show Calls _ 38 #[_, .int .u8 4, _] _ _); go_must (refine (refStep_any _ _ 4 _ _ _ _ _ _ HC.out HV6.out HNE.out rfl (by simp; omega) (by omega) hsz).mono ?_; rintro e w7 ⟨v7, rfl, hv7, hb7, hk7⟩; obtain ⟨m7, a7, q7, -, rfl, _, _⟩ := hv7.shape; have HXn := Lib.hid (hk7 _ _ _ _ (by decide) HX.out); have HWn := Lib.hid (hk7 _ _ _ _ (by decide) HW.out); have HBn := Lib.hid (HBc.out.trans hb7); have HCn := Lib.hid hv7; clear HX HBc HC HW hsz r0 r1 r2 x0 x1 x2 HV6 HNE; have HX := HXn; have HW := HWn; have HBc := HBn; have HC := HCn; clear HXn HWn HBn HCn hv7 hk7 hb7; have hsz := HBc.out.size; obtain ⟨r0, r1, r2⟩ := row3 HW.out; obtain ⟨x0, x1, x2⟩ := run3 HX.out))
          | ((with_reducible show Calls _ 38 #[_, .int .u8 3, _] _ _); go_must (refine (refStep_any _ _ 3 _ _ _ _ _ _ HC.out HV6.out HNE.out rfl (by simp; omega) (by omega) hsz).mono ?_; rintro e w7 ⟨v7, rfl, hv7, hb7, hk7⟩; obtain ⟨m7, a7, q7, -, rfl, _, _⟩ := hv7.shape; have HXn := Lib.hid (hk7 _ _ _ _ (by decide) HX.out); have HWn := Lib.hid (hk7 _ _ _ _ (by decide) HW.out); have HBn := Lib.hid (HBc.out.trans hb7); have HCn := Lib.hid hv7; clear HX HBc HC HW hsz r0 r1 r2 x0 x1 x2 HV6 HNE; have HX := HXn; have HW := HWn; have HBc := HBn; have HC := HCn; clear HXn HWn HBn HCn hv7 hk7 hb7; have hsz := HBc.out.size; obtain ⟨r0, r1, r2⟩ := row3 HW.out; obtain ⟨x0, x1, x2⟩ := run3 HX.out))
          | ((with_reducible show Calls _ 38 #[_, .int .u8 2, _] _ _); go_must (refine (refStep_any _ _ 2 _ _ _ _ _ _ HC.out HV6.out HNE.out rfl (by simp; omega) (by omega) hsz).mono ?_; rintro e w7 ⟨v7, rfl, hv7, hb7, hk7⟩; obtain ⟨m7, a7, q7, -, rfl, _, _⟩ := hv7.shape; have HXn := Lib.hid (hk7 _ _ _ _ (by decide) HX.out); have HWn := Lib.hid (hk7 _ _ _ _ (by decide) HW.out); have HBn := Lib.hid (HBc.out.trans hb7); have HCn := Lib.hid hv7; clear HX HBc HC HW hsz r0 r1 r2 x0 x1 x2 HV6 HNE; have HX := HXn; have HW := HWn; have HBc := HBn; have HC := HCn; clear HXn HWn HBn HCn hv7 hk7 hb7; have hsz := HBc.out.size; obtain ⟨r0, r1, r2⟩ := row3 HW.out; obtain ⟨x0, x1, x2⟩ := run3 HX.out))
          | ((with_reducible show wpList _ _ _ (⟨some 61, _, _, _, _, _⟩ :: _) _ _); go_must (refine wpList_pushB HC.out rfl rfl 1 rfl (by simp; omega) hsz ?_; intro v7 w7 hv7 hg7 hb7; obtain ⟨m7, a7, q7, -, rfl, _, _⟩ := hv7.shape; have HKq := Lib.hid (keeps_own HC.out hg7); have HXn := Lib.hid (HKq.out _ _ _ _ (by decide) HX.out); have HWn := Lib.hid (HKq.out _ _ _ _ (by decide) HW.out); have HBn := Lib.hid (HBc.out.trans hb7); have HCn := Lib.hid hv7; clear HX HBc HC HW hsz r0 r1 r2 x0 x1 x2 HKq; have HX := HXn; have HW := HWn; have HBc := HBn; have HC := HCn; clear HXn HWn HBn HCn hv7 hg7 hb7; have hsz := HBc.out.size; obtain ⟨r0, r1, r2⟩ := row3 HW.out; obtain ⟨x0, x1, x2⟩ := run3 HX.out)))
        have h := HC.out
        simp only [List.append_assoc, List.cons_append] at h
        rw [HRB.out] at h
        rotate_left
        · unfold rowB
          dsimp only
          first | rw [if_pos (show (f : Int) = fv by simpa using hb1)] | rw [if_neg (show ¬ (f : Int) = fv by simpa using hb1)]
          first | rw [if_pos (show xl = lv by simpa using hb2)] | rw [if_neg (show ¬ xl = lv by simpa using hb2)]
          first | rw [if_pos (show (q : Int) = (ov : Int) by simpa using hb3)] | rw [if_neg (show ¬ (q : Int) = (ov : Int) by simpa using hb3)]
          simp [HQD.out]
        have HCf := Lib.hid h
        go_roundw
        case rel => exact ⟨k + 1, f, xl, q, rfl, rfl, rfl, by go_num, by omega, by omega, by omega, by omega, by omega, by omega, HLS.out, HCf.out, HBc.out, HX.out⟩
        case measure => simp [intOf] <;> omega
    · obtain rfl : k = m := by omega
      have htk : rows.take k = rows := List.take_of_length_le (by have := HM.out; omega)
      rw [htk] at HE HC
      have HEB := Lib.hid (show endB (lastOff 0 rows) F = endB ov F by rw [HE.out.2.2])
      have HT1 := Lib.hid (show ∀ P, P = endB ov F → T0 ++ (rowsB 1 1 0 rows ++ P) = runB ⟨at_, rows, (F : Int)⟩ from fun P hP => by
        rw [HTE.out, HEB.out, hP])
      rw [htk] at HTL
      have hT19 := HTL.out
      have b3 := (leb_le' (F - ov)).1
      have hwo : IntKind.i64.wrap ((F : Int) - (ov : Int)) = ((F - ov : Nat) : Int) := by simp only [IntKind.wrap_i64]; omega
      generalize hT1 : rowsB 1 1 0 rows = R1 at *
      rw [List.length_append] at hT19
      clear hT1 HTL HE htk
      by_cases hend : ov < F
      all_goals
        go_wp2_with (first
          | (go_at_call 24; go_must (refine (refLeb_any (F - ov) _ (by omega)).mono ?_; rintro e w6 ⟨v6, rfl, hv6, hb6⟩; have HV6 := Lib.hid hv6; have HNE := Lib.hid (own_two HC.out hv6); obtain ⟨m6, a6, q6, -, rfl, _, _⟩ := hv6.shape; have HBn := Lib.hid (HBc.out.trans (hb6.mono hsz)); have HCn := Lib.hid (HC.out.mono hb6); clear HX HBc HC hsz x0 x1 x2; have HBc := HBn; have HC := HCn; clear HBn HCn hv6 hb6; have hsz := HBc.out.size))
          | ((with_reducible show Calls _ 38 #[_, .int .u8 2, _] _ _); go_must (refine (refStep_any _ _ 2 _ _ _ _ _ _ HC.out HV6.out HNE.out rfl (by simp; omega) (by omega) hsz).mono ?_; rintro e w7 ⟨v7, rfl, hv7, hb7, hk7⟩; obtain ⟨m7, a7, q7, -, rfl, _, _⟩ := hv7.shape; have HBn := Lib.hid (HBc.out.trans hb7); have HCn := Lib.hid hv7; clear HBc HC hsz HV6 HNE; have HBc := HBn; have HC := HCn; clear HBn HCn hv7 hk7 hb7; have hsz := HBc.out.size))
          | ((with_reducible show wpList _ _ _ (⟨some 81, _, _, _, _, _⟩ :: _) _ _); go_must (refine wpList_lit011 ?_; intro w8 ho8 hb8 hs8; have HO8 := Lib.hid ho8.bs; have HBn := Lib.hid (HBc.out.trans (hb8.mono hsz)); have HCn := Lib.hid (HC.out.mono hb8); clear HBc HC hsz; have HBc := HBn; have HC := HCn; clear HBn HCn ho8 hb8; have hsz := HBc.out.size))
          | ((with_reducible show wpList _ _ _ (⟨some 82, _, _, _, _, _⟩ :: _) _ _); go_must (refine wpList_catB HC.out HO8.out rfl rfl (by simp; omega) hsz ?_; intro v9 w9 hv9 hg9 hb9; have HV9 := Lib.hid hv9; have HB9 := Lib.hid (HBc.out.trans hb9); clear hv9 hg9 hb9)))
        go_ret
        refine ⟨_, rfl, ?_, HB9.out⟩
        have h := HV9.out
        simp only [List.append_assoc, List.cons_append] at h
        rw [HT1.out] at h
        · exact h
        · unfold endB
          first
            | rw [if_pos (show (ov : Int) < (F : Int) by omega), show ((F : Int) - (ov : Int)).toNat = F - ov by omega]; simp; done
            | rw [if_neg (show ¬ (ov : Int) < (F : Int) by omega)]; simp; done
end Go.Proofs.Ytmpmkjlkhlagfaa
