/-
  A region that draws its order and whose last operation needs all the others (a store of what they made): it comes last in every order.
-/
import Derived.Test.YtgknmmnffgikbaaPers
namespace Go.Fd
open Go.RowKit

/-- The operation s, behind l, needs all of l, by way of others perhaps. -/
def lastB (l : List Oper) (s : Oper) : Bool :=
  s.dst.isNone && s.guard.isNone && s.after.all (fun e => !Region.binds .any e || decide (e.on < l.length)) &&
  (List.range l.length).all fun k => depB s k || l.zipIdx.any fun (o, k') => decide (k < k') && depB o k

theorem depB_mk {o : Oper} {j : Nat} (h : depB o j = true) : ∃ e ∈ o.after, e.on = j ∧ Region.binds .any e = true := depB_of h

section
variable {P : Program} {l : List Oper} {s : Oper} {V : Nat → Value → World → Prop} {a0 : Act} {w0 : World}

theorem app_get {i : Nat} {o : Oper} (h : l[i]? = some o) : (l ++ [s])[i]? = some o := by
  rw [List.getElem?_append_left (List.getElem?_eq_some_iff.1 h).1]; exact h
theorem get_app {i : Nat} {o : Oper} (h : (l ++ [s])[i]? = some o) (hi : i < l.length) : l[i]? = some o := by
  rwa [List.getElem?_append_left hi] at h

/-- What holds while the region is run and its last operation has not been carried out. -/
structure InvL (P : Program) (l : List Oper) (V : Nat → Value → World → Prop) (a0 : Act) (w0 : World) (listed : Array Bool) (a : Act) (w : World) : Prop where
  lsize : listed.size = l.length + 1
  last : listed.getD l.length true = false
  below : Below w0.heap.size w0 w
  size : a.tmps.size = a0.tmps.size
  defers : a.defers = a0.defers
  known : ∀ i o d, l[i]? = some o → listed.getD i true = true → o.dst = some d → V i (a.eval (.tmp d)) w
  old : ∀ t, (∀ i o, l[i]? = some o → listed.getD i true = true → o.dst ≠ some t) → a.eval (.tmp t) = a0.eval (.tmp t)
  closed : ∀ i o, l[i]? = some o → listed.getD i true = true → ∀ e ∈ o.after, Region.binds .any e = true → listed.getD e.on true = true

theorem InvL.step {listed : Array Bool} {a : Act} {w w' : World} {i : Nat} {o : Oper} {v : Value} (hP : persB l a0.tmps.size = true) (hV : ∀ i v w w', V i v w → Below w.heap.size w w' → V i v w')
    (h : InvL P l V a0 w0 listed a w) (ho : l[i]? = some o) (hd : ∀ e ∈ o.after, Region.binds .any e = true → listed.getD e.on true = true) (hv : V i v w') (hb : Below w.heap.size w w') :
    InvL P l V a0 w0 (listed.setIfInBounds i true) (a.put o.dst v) w' := by
  obtain ⟨⟨d, hod, hdn⟩, _, hun⟩ := persB_spec hP ho
  have hil := (List.getElem?_eq_some_iff.1 ho).1
  have hi : i < listed.size := by rw [h.lsize]; omega
  refine ⟨by simpa using h.lsize, by rw [getD_set_ne _ (by omega)]; exact h.last, h.below.trans (hb.mono h.below.size), by rw [put_size]; exact h.size, by rw [put_defers]; exact h.defers, ?_, ?_, ?_⟩
  · intro j oj dj hj hl hdj
    by_cases hij : i = j
    · subst hij
      rw [ho] at hj
      cases hj
      rw [hod] at hdj ⊢
      cases hdj
      rw [put_get_eq _ _ _ (by rw [h.size]; exact hdn)]
      exact hv
    · rw [getD_set_ne _ hij] at hl
      rw [put_get_ne _ _ _ _ (fun e => hun j oj hj (Ne.symm hij) (hdj.trans e.symm))]
      exact hV _ _ _ _ (h.known j oj dj hj hl hdj) hb
  · intro t ht
    rw [put_get_ne _ _ _ _ (ht i o ho (getD_set_self _ hi))]
    exact h.old t fun j oj hj hl => ht j oj hj (getD_set_true' hl)
  · intro j oj hj hl e he hbd
    by_cases hij : i = j
    · subst hij
      rw [ho] at hj
      cases hj
      exact getD_set_true' (hd e he hbd)
    · rw [getD_set_ne _ hij] at hl
      exact getD_set_true' (h.closed j oj hj hl e he hbd)

theorem InvL.all_of_last {listed : Array Bool} {a : Act} {w : World} (h : InvL P l V a0 w0 listed a w) (hB : lastB l s = true) (hd : ∀ e ∈ s.after, Region.binds .any e = true → listed.getD e.on true = true) : ∀ i, i < l.length → listed.getD i true = true := by
  have key : ∀ n i, l.length - i = n → i < l.length → listed.getD i true = true := by
    intro n
    induction n using Nat.strongRecOn with
    | ind n ih =>
      intro i hn hi
      unfold lastB at hB
      simp only [Bool.and_eq_true] at hB
      have := List.all_eq_true.1 hB.2 i (List.mem_range.2 hi)
      rw [Bool.or_eq_true] at this
      rcases this with h1 | h1
      · obtain ⟨e, he, hon, hb⟩ := depB_of h1
        have := hd e he hb
        rwa [hon] at this
      · obtain ⟨⟨o, k'⟩, hm, h2⟩ := List.any_eq_true.1 h1
        simp only [Bool.and_eq_true, decide_eq_true_eq] at h2
        rw [List.mem_zipIdx_iff_getElem?] at hm
        have hk' := (List.getElem?_eq_some_iff.1 hm).1
        obtain ⟨e, he, hon, hb⟩ := depB_of h2.2
        have := h.closed k' o hm (ih (l.length - k') (by omega) k' rfl hk') e he hb
        rwa [hon] at this
  exact fun i hi => key _ i rfl hi

theorem ready_none {listed : Array Bool} {L : List Oper} (h : ∀ i, i < L.length → listed.getD i true = true) : Region.ready .any L.toArray listed = [] := by
  rw [List.eq_nil_iff_forall_not_mem]
  intro i hi
  rw [mem_ready] at hi
  obtain ⟨h1, o, ho, _⟩ := hi
  have := h i (by have := (Array.getElem?_eq_some_iff.1 ho).1; simpa using this)
  rw [h1] at this; cases this

theorem wpAny_all {Q : Exit → Act → World → Prop} {listed : Array Bool} {L : List Oper} {a : Act} {w : World} (h : ∀ i, i < L.length → listed.getD i true = true) (hQ : Q .normal a w) : ∀ fuel, wpAny P .any L.toArray Q fuel listed a w
  | 0 => ⟨ready_none h, hQ⟩
  | fuel + 1 => ⟨fun _ => hQ, fun i hi => by rw [ready_none h] at hi; cases hi⟩

theorem wpAny_last {Q : Exit → Act → World → Prop} (hP : persB l a0.tmps.size = true) (hB : lastB l s = true) (hV : ∀ i v w w', V i v w → Below w.heap.size w w' → V i v w')
    (hop : PersOps P (l ++ [s]) V a0 w0 0 l)
    (hend : ∀ vs w, Below w0.heap.size w0 w → (∀ i, i < l.length → V i (vs i) w) → s.wp P (putAll vs 0 l a0) w (fun a' w' => Q .normal a' w') (fun _ _ _ => False)) :
    ∀ (fuel : Nat) (U : List Nat) (listed : Array Bool) (a : Act) (w : World), U.length ≤ fuel → (∀ i, i < l.length + 1 → listed.getD i true = false → i ∈ U) → InvL P l V a0 w0 listed a w → wpAny P .any (l ++ [s]).toArray Q fuel listed a w := by
  have hfin : ∀ (listed : Array Bool) (a : Act) (w : World), InvL P l V a0 w0 listed a w → (∀ i, i < l.length → listed.getD i true = true) → s.wp P a w (fun a' w' => Q .normal a' w') (fun _ _ _ => False) := by
    intro listed a w h hall
    have hE := hend (fun i => a.eval (.tmp (((l[i]?).bind (fun (o : Oper) => o.dst)).getD 0))) w h.below (fun i hi => by
      have ho : l[i]? = some l[i] := List.getElem?_eq_getElem hi
      obtain ⟨⟨d, hod, _⟩, _, _⟩ := persB_spec hP ho
      have := h.known i _ d ho (hall i hi) hod
      simp only [ho, Option.bind_some, hod, Option.getD_some]
      exact this)
    have he : putAll (fun i => a.eval (.tmp (((l[i]?).bind (fun (o : Oper) => o.dst)).getD 0))) 0 l a0 = a := by
      refine act_ext (by rw [putAll_size, h.size]) (by rw [putAll_defers, h.defers]) fun t => ?_
      by_cases ht : ∃ (i : Nat) (o : Oper), l[i]? = some o ∧ o.dst = some t
      · obtain ⟨i, o, ho, hod⟩ := ht
        obtain ⟨⟨d, hod', hdn⟩, _, hun⟩ := persB_spec hP ho
        rw [hod] at hod'; cases hod'
        rw [putAll_new _ t 0 l a0 i o ho hod hdn (fun j' o' h1 h2 => by
          by_cases hj : j' = i
          · exact hj
          · exact absurd (h2.trans hod.symm) (hun j' o' h1 hj))]
        simp [ho, hod]
      · rw [putAll_old]
        · exact (h.old t fun i o ho _ e => ht ⟨i, o, ho, e⟩).symm
        · intro o ho e
          obtain ⟨i, hi⟩ := List.getElem?_of_mem ho
          exact ht ⟨i, o, hi, e⟩
    rw [he] at hE
    exact hE
  have hB0 := hB
  unfold lastB at hB0
  simp only [Bool.and_eq_true, Option.isNone_iff_eq_none] at hB0
  obtain ⟨⟨⟨hsd, hsg⟩, hsa⟩, _⟩ := hB0
  intro fuel
  induction fuel with
  | zero =>
    intro U listed a w hU hun h
    have := hun l.length (by omega) h.last
    rw [List.eq_nil_of_length_eq_zero (by omega : U.length = 0)] at this
    cases this
  | succ fuel ih =>
    intro U listed a w hU hun h
    have hsdeps : (∀ i, i < l.length → listed.getD i true = true) → ∀ e ∈ s.after, Region.binds .any e = true → listed.getD e.on false = true := fun hall e he hb => by
      rw [Array.all_eq_true_iff_forall_mem] at hsa
      have := hsa e he
      rw [hb] at this
      simp at this
      rw [← getD_lt (by rw [h.lsize]; omega)]
      exact hall _ this
    refine ⟨fun hr => ?_, fun i hi => ?_⟩
    · exfalso
      have hall : ∀ i, i < l.length → listed.getD i true = true := by
        intro i
        induction i using Nat.strongRecOn with
        | ind i ihi =>
          intro hi
          cases hl : listed.getD i true with
          | true => rfl
          | false =>
            have ho : l[i]? = some l[i] := List.getElem?_eq_getElem hi
            obtain ⟨_, h2, _⟩ := persB_spec hP ho
            have : i ∈ Region.ready .any (l ++ [s]).toArray listed := by
              rw [mem_ready]
              refine ⟨hl, l[i], by simpa using app_get ho, fun e he hb => ?_⟩
              have hlt := h2 e he hb
              rw [← getD_lt (by rw [h.lsize]; omega)]
              exact ihi e.on hlt (by omega)
            rw [hr] at this
            cases this
      have : l.length ∈ Region.ready .any (l ++ [s]).toArray listed := by
        rw [mem_ready]
        exact ⟨h.last, s, by simp, hsdeps hall⟩
      rw [hr] at this
      cases this
    rw [mem_ready] at hi
    obtain ⟨hl, o, ho, hdeps⟩ := hi
    have hoL : (l ++ [s])[i]? = some o := by simpa using ho
    have hiL : i < l.length + 1 := by have := (List.getElem?_eq_some_iff.1 hoL).1; simpa using this
    by_cases hil : i < l.length
    · have ho' : l[i]? = some o := get_app hoL hil
      have hdeps' : ∀ e ∈ o.after, Region.binds .any e = true → listed.getD e.on true = true := fun e he hb => by
        have hlt := (persB_spec hP ho').2.1 e he hb
        rw [getD_lt (by rw [h.lsize]; omega)]
        exact hdeps e he hb
      have hAt : At P (l ++ [s]) V a0 w0 i o a w := by
        refine ⟨h.below, h.size, fun t ht => ?_, fun j oj d hj hdj hdep => ?_⟩
        · refine h.old t fun k ok hk hlk e => ?_
          unfold oldB at ht
          rw [List.all_eq_true] at ht
          have := ht (ok, k) (by rw [List.mem_zipIdx_iff_getElem?]; exact app_get hk)
          simp only [Bool.or_eq_true, bne_iff_ne, ne_eq, beq_iff_eq] at this
          rcases this with (h' | h') | h'
          · exact h' e
          · subst h'; rw [hl] at hlk; cases hlk
          · obtain ⟨ed, hed, hon, hbd⟩ := depB_of h'
            have := h.closed k ok hk hlk ed hed hbd
            rw [hon, hl] at this; cases this
        · obtain ⟨ed, hed, hon, hbd⟩ := depB_of hdep
          have hlj := hdeps' ed hed hbd
          have hlt := (persB_spec hP ho').2.1 ed hed hbd
          rw [hon] at hlj hlt
          exact h.known j oj d (get_app hj (by omega)) hlj hdj
      have hto := hop.get i o ho' a w (by rw [Nat.zero_add]; exact hAt)
      rw [Nat.zero_add] at hto
      have hnext : ∀ v w', V i v w' → Below w.heap.size w w' → wpAny P .any (l ++ [s]).toArray Q fuel (listed.setIfInBounds i true) (a.put o.dst v) w' := by
        intro v w' hv hb
        refine ih (U.erase i) _ _ _ ?_ ?_ (h.step hP hV ho' hdeps' hv hb)
        · rw [List.length_erase_of_mem (hun i hiL hl)]; omega
        · intro j hj hlj
          have hji : j ≠ i := by
            rintro rfl
            rw [getD_set_self _ (by rw [h.lsize]; exact hj)] at hlj; cases hlj
          rw [getD_set_ne _ (Ne.symm hji)] at hlj
          exact (List.mem_erase_of_ne hji).2 (hun j hj hlj)
      unfold wpOp
      rw [ho]
      simp only
      unfold OpTo at hto
      split at hto
      · next hw =>
        rw [if_pos hw]
        refine .inl (oper_wp_any ?_)
        exact Oper.wp_mono (fun a' w' ⟨v, ha, hv, hb⟩ => by rw [ha]; exact hnext v w' hv hb) hto
      · next hw =>
        rw [if_neg hw]
        exact hnext undef w hto.1 hto.2
    · obtain rfl : i = l.length := by omega
      obtain rfl : s = o := by simpa using hoL
      have hall := h.all_of_last hB (fun e he hb => by
        rw [Array.all_eq_true_iff_forall_mem] at hsa
        have := hsa e he
        rw [hb] at this
        simp at this
        rw [getD_lt (by rw [h.lsize]; omega)]
        exact hdeps e he hb)
      have hs := hfin listed a w h hall
      unfold wpOp
      rw [ho]
      simp only
      rw [if_pos (by simp [Region.wanted, hsg])]
      refine .inl (oper_wp_any ?_)
      refine Oper.wp_mono (fun a' w' hq => ?_) hs
      refine wpAny_all (fun j hj => ?_) hq fuel
      simp only [List.length_append, List.length_singleton] at hj
      by_cases hjl : j < l.length
      · exact getD_set_true' (hall j hjl)
      · obtain rfl : j = l.length := by omega
        exact getD_set_self _ (by rw [h.lsize]; omega)

/-- THE LAW. -/
theorem wp_region_last {id : Nat} {Q : Exit → Act → World → Prop} (Vl : List Stab) (l : List Oper) (s : Oper) (hm : P.follows .mixedOrders = true) (hP : persB l a0.tmps.size = true) (hB : lastB l s = true)
    (hop : PersOps P (l ++ [s]) (stabOf Vl) a0 w0.drew 0 l)
    (hend : ∀ vs w, Below w0.heap.size w0 w → (∀ i, i < l.length → stabOf Vl i (vs i) w) → s.wp P (putAll vs 0 l a0) w (fun a' w' => Q .normal a' w') (fun _ _ _ => False)) : (Code.region id (l ++ [s]).toArray true).wp P Q a0 w0 := by
  refine wp_region_any hm ?_
  have hf : ∀ i, i < (l ++ [s]).length → (Array.replicate (l ++ [s]).toArray.size false).getD i true = false := fun i hi => by
    rw [Array.getD_eq_getD_getElem?, Array.getElem?_eq_getElem (by simpa using hi)]
    simp
  refine wpAny_last (w0 := w0.drew) (V := stabOf Vl) hP hB (fun i => (Vl.getD i Stab.any).st) hop (fun vs w hb h => hend vs w ⟨hb.os, hb.tape, hb.output, hb.size, hb.block⟩ h) _ (List.range (l ++ [s]).length) _ _ _ (by simp) (fun i hi _ => List.mem_range.2 (by simpa using hi)) ?_
  refine ⟨by simp, hf _ (by simp), Below.refl _ _, rfl, rfl, fun i o d ho hl => ?_, fun t _ => rfl, fun i o ho hl => ?_⟩
  · rw [hf i (by have := (List.getElem?_eq_some_iff.1 ho).1; simp; omega)] at hl; cases hl
  · rw [hf i (by have := (List.getElem?_eq_some_iff.1 ho).1; simp; omega)] at hl; cases hl
/-- The values laid into the slots. -/
def putD (vs : Nat → Value) : Nat → List (Option Tmp) → Act → Act
  | _, [], a => a
  | k, d :: r, a => putD vs (k + 1) r (a.put d (vs k))
theorem putD_eq (vs : Nat → Value) : ∀ (l : List Oper) (k : Nat) (a : Act), putAll vs k l a = putD vs k (l.map (·.dst)) a
  | [], _, _ => rfl
  | o :: r, k, a => by rw [putAll, List.map_cons, putD]; exact putD_eq vs r (k + 1) _

/-- The same, of a list that is written out. -/
theorem wp_region_lastL {id : Nat} {Q : Exit → Act → World → Prop} {L : List Oper} {s : Oper} (Vl : List Stab) (D : List (Option Tmp)) (n : Nat) (hD : (L.dropLast.map (·.dst)) = D) (hn : L.dropLast.length = n) (hs : L.getLast? = some s) (hm : P.follows .mixedOrders = true) (hP : persB L.dropLast a0.tmps.size = true) (hB : lastB L.dropLast s = true)
    (hop : PersOps P L (stabOf Vl) a0 w0.drew 0 L.dropLast)
    (hend : ∀ vs w, Below w0.heap.size w0 w → (∀ i, i < n → stabOf Vl i (vs i) w) → s.wp P (putD vs 0 D a0) w (fun a' w' => Q .normal a' w') (fun _ _ _ => False)) : (Code.region id L.toArray true).wp P Q a0 w0 := by
  have e : L = L.dropLast ++ [s] := by
    obtain ⟨ys, hy⟩ := List.getLast?_eq_some_iff.1 hs
    subst hy
    simp
  have h := wp_region_last (P := P) (a0 := a0) (w0 := w0) (id := id) (Q := Q) Vl L.dropLast s hm hP hB (by rw [← e]; exact hop) (fun vs w hb h => by rw [putD_eq, hD]; exact hend vs w hb (by rw [← hn]; exact h))
  rwa [← e] at h
end

/-- A block of memory, made in the region, of so many cells. -/
def Stab.made (B : Nat) (t : TypeId) (n : Nat) : Stab := ⟨fun v w => ∃ (g : Nat) (cs : Array Value), v = .pointer (some ⟨g, 0, none⟩) ∧ B ≤ g ∧ w.heap[g]? = some (.cells cs t (0, 0)) ∧ cs.size = n, fun v w w' ⟨g, cs, h1, h2, h3, h4⟩ hb => ⟨g, cs, h1, h2, by rw [hb.block g (Array.getElem?_eq_some_iff.1 h3).1]; exact h3, h4⟩⟩

section
variable {P : Program} {a : Act} {w : World}
/-- The store of a record into the block that was made. -/
theorem wp_store_made {d : Option Tmp} {ty t : TypeId} {pos : String} {aft : Array Edge} {p x : Operand} {c c' : Array Value} {g : Nat} {K : Act → World → Prop} {Q : Exit → Act → World → Prop} {B : Nat} (hg : w.heap[g]? = some (.cells c t (0, 0))) (hp : a.eval p = .pointer (some ⟨g, 0, none⟩)) (hx : a.eval x = .agg c')
    (hi : (P.info? t).map (·.size) = some c'.size) (ho : c.size = c'.size) (h1 : c'.all (·.oneCell') = true) (hB : B ≤ g) (hBw : B ≤ w.heap.size)
    (h : ∀ w1, w1.heap[g]? = some (.cells c' t (0, 0)) → Below B w w1 → K (a.put d undef) w1) :
    Oper.wp P ⟨d, .store t p x, ty, pos, aft, none⟩ a w K Q := by
  have hr : (execOp a.eval ⟨d, .store t p x, ty, pos, aft, none⟩).run P w = .ok .skip (w.setRow g c') := by
    simp only [execOp, hp, hx, Instr.storeAt, Instr.sureAddr, Sem.run_bind, Sem.run_pure, Result.andThen, run_storeVar_row w g t t c c' hg hi ho h1]
  unfold Oper.wp Oper.upon
  rw [hr]
  refine h _ ?_ ?_
  · simp only [World.setRow]
    rw [Array.getElem?_modify, if_pos rfl, hg]
    rfl
  · refine ⟨rfl, rfl, rfl, by simp [World.setRow], fun k hk => ?_⟩
    have : g ≠ k := by omega
    simp only [World.setRow]
    rw [Array.getElem?_modify, if_neg this]
end
end Go.Fd
