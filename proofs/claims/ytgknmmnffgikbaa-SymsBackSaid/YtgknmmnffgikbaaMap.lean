/-
  Maps as they are held: entries in the order in which they came; no program is in sight.
-/
import Derived.Test.YtgknmmnffgikbaaMem
import Derived.Maps.RangeWalk
import Derived.Maps.OwnSet
import Derived.Maps.OwnOps
namespace Go.Fd
open Go.RowKit Go.MapKept
open Go.ChangeMaps (setBlock heap_setBlock_same heap_setBlock_other modify_eq_set)
open Go.Maps (Keyed)

section
variable {κ : Type}

/-- A map's type, and how its keys are written. -/
structure KeyT (P : Program) (t k e : TypeId) (mk : κ → Value) : Prop where
  ht : P.underlying t = some (.map k e)
  K : Keyed P k
  inj : ∀ a b, mk a = mk b → a = b

/-- Block b is a map with the entries E, in the order in which they came. -/
def MapIs (P : Program) (k : TypeId) (mk : κ → Value) (w : World) (b : Nat) (E : List (κ × Value)) : Prop :=
  ∃ es clock, w.heap[b]? = some (.map es clock) ∧ es.toList.map (fun x => (x.key, x.val)) = E.map (fun p => (mk p.1, p.2)) ∧ es.size ≤ maxLen ∧ Stamped es clock ∧ ∀ x ∈ es.toList, ∃ l, keyOf P k x.key = some l

/-- An entry put in: in its key's place, or behind. -/
def putE [DecidableEq κ] (E : List (κ × Value)) (x : κ) (v : Value) : List (κ × Value) :=
  if x ∈ E.map (·.1) then E.map (fun p => if p.1 = x then (x, v) else p) else E ++ [(x, v)]

theorem lookup_of_mem [DecidableEq κ] {E : List (κ × Value)} (hn : (E.map (·.1)).Nodup) {x : κ} {v : Value} (h : (x, v) ∈ E) : E.lookup x = some v := by
  induction E with
  | nil => cases h
  | cons p E ih =>
    obtain ⟨y, u⟩ := p
    simp only [List.map_cons, List.nodup_cons] at hn
    rw [List.lookup_cons]
    rcases List.mem_cons.1 h with h | h
    · cases h; simp
    · have hne : ¬ x = y := fun e => hn.1 (e ▸ List.mem_map.2 ⟨_, h, rfl⟩)
      rw [show (x == y) = false by simpa using hne]
      exact ih hn.2 h
theorem lookup_none_of [DecidableEq κ] {E : List (κ × Value)} {x : κ} (h : x ∉ E.map (·.1)) : E.lookup x = none := by
  induction E with
  | nil => rfl
  | cons p E ih =>
    obtain ⟨y, u⟩ := p
    simp only [List.map_cons, List.mem_cons, not_or] at h
    rw [List.lookup_cons, show (x == y) = false by simpa using h.1]
    exact ih h.2
theorem lookup_mem [DecidableEq κ] {E : List (κ × Value)} {x : κ} {v : Value} (h : E.lookup x = some v) : (x, v) ∈ E := by
  induction E with
  | nil => cases h
  | cons p E ih =>
    obtain ⟨y, u⟩ := p
    rw [List.lookup_cons] at h
    by_cases e : x = y
    · subst e; simp at h; subst h; simp
    · rw [show (x == y) = false by simpa using e] at h
      exact List.mem_cons_of_mem _ (ih h)
theorem lookup_key [DecidableEq κ] {E : List (κ × Value)} {x : κ} : (∃ v, E.lookup x = some v) ↔ x ∈ E.map (·.1) := by
  constructor
  · rintro ⟨v, h⟩
    exact List.mem_map.2 ⟨_, lookup_mem h, rfl⟩
  · intro h
    cases hl : E.lookup x with
    | some v => exact ⟨v, rfl⟩
    | none =>
      exfalso
      induction E with
      | nil => cases h
      | cons p E ih =>
        obtain ⟨y, u⟩ := p
        rw [List.lookup_cons] at hl
        by_cases e : x = y
        · subst e; simp at hl
        · rw [show (x == y) = false by simpa using e] at hl
          simp only [List.map_cons, List.mem_cons] at h
          rcases h with h | h
          · exact e h
          · exact ih h hl

variable {P : Program} {t k e : TypeId} {mk : κ → Value} {w : World} {b : Nat} {E : List (κ × Value)}

theorem MapIs.lt (h : MapIs P k mk w b E) : b < w.heap.size := by
  obtain ⟨es, clock, hb, _⟩ := h
  exact (Array.getElem?_eq_some_iff.1 hb).1

theorem MapIs.kept {w' : World} {row : Option Nat} (h : MapIs P k mk w b E) (hg : w.grownBy w' row) (hne : some b ≠ row) : MapIs P k mk w' b E := by
  have hlt := h.lt
  obtain ⟨es, clock, hb, r⟩ := h
  exact ⟨es, clock, (hg.block b hlt hne).trans hb, r⟩
theorem MapIs.mono {w' : World} (h : MapIs P k mk w b E) (hb : Below w.heap.size w w') : MapIs P k mk w' b E := by
  have hlt := h.lt
  obtain ⟨es, clock, hb', r⟩ := h
  exact ⟨es, clock, (hb.block b hlt).trans hb', r⟩
theorem MapIs.block {w' : World} (h : MapIs P k mk w b E) (hb : w'.heap[b]? = w.heap[b]?) : MapIs P k mk w' b E := by
  obtain ⟨es, clock, hb', r⟩ := h
  exact ⟨es, clock, hb.trans hb', r⟩

theorem MapIs.nodup (h : MapIs P k mk w b E) : (E.map (·.1)).Nodup := by
  obtain ⟨es, clock, _, he, _, hs, _⟩ := h
  have h2 : (es.toList.map (·.key)).Nodup := hs.2.2
  have e1 : es.toList.map (·.key) = (E.map (·.1)).map mk := by
    have := congrArg (List.map (·.1)) he
    simpa [List.map_map, Function.comp_def] using this
  rw [e1] at h2
  unfold List.Nodup at h2 ⊢
  rw [List.pairwise_map] at h2
  exact h2.imp (fun hne e => hne (by rw [e]))

theorem MapIs.made (w : World) : MapIs P k mk (w.alloc (.map #[] 0)) w.heap.size ([] : List (κ × Value)) :=
  ⟨#[], 0, (MapKept.heap_alloc w _).1, by simp, by simp, stamped_empty 0, by simp⟩

/-- What a look-up gives. -/
def lookV (c : Bool) (z : Value) : Option Value → Value
  | some v => if c then .tuple #[v, .bool true] else v
  | none => if c then .tuple #[z, .bool false] else z

theorem MapIs.look [DecidableEq κ] (c : Bool) (h : MapIs P k mk w b E) (T : KeyT P t k e mk) {z : Value} (hz : (zeroValue e).run P w = .ok z w) {x : κ} {l : Lit} (hkey : keyOf P k (mk x) = some l) :
    (Instr.lookup t (.map (some b)) (mk x) c).run P w = .ok (lookV c z (E.lookup x)) w := by
  have hn := h.nodup
  obtain ⟨es, clock, hb, he, hsz, hs, hk⟩ := h
  rcases T.K.find w hkey es.toList hk with ⟨h1, h2⟩ | ⟨j, e0, h1, h2, h3⟩
  · have : E.lookup x = none := lookup_none_of fun hm => by
      obtain ⟨p, hp, rfl⟩ := List.mem_map.1 hm
      have : (mk p.1, p.2) ∈ es.toList.map (fun x => (x.key, x.val)) := by rw [he]; exact List.mem_map.2 ⟨p, hp, rfl⟩
      obtain ⟨y, hy, e1⟩ := List.mem_map.1 this
      exact h2 y hy (congrArg Prod.fst e1)
    rw [this]
    simp [Instr.lookup, run_underlying T.ht, MapKept.run_getObj_map hb, T.K.check w _ hkey, h1, hz, Result.andThen, lookV]
  · have hE : (E.map (fun p => (mk p.1, p.2)))[j]? = some (e0.key, e0.val) := by rw [← he, List.getElem?_map, h2]; rfl
    rw [List.getElem?_map] at hE
    obtain ⟨p, hp, e1⟩ := Option.map_eq_some_iff.1 hE
    obtain ⟨y, v⟩ := p
    simp only [Prod.mk.injEq] at e1
    obtain ⟨e1, rfl⟩ := e1
    obtain rfl := T.inj _ _ (e1.trans h3)
    rw [lookup_of_mem hn (List.mem_of_getElem? hp)]
    simp [Instr.lookup, run_underlying T.ht, MapKept.run_getObj_map hb, T.K.check w _ hkey, h1, Result.andThen, lookV]

theorem set_eq_map [DecidableEq κ] {E : List (κ × Value)} (hn : (E.map (·.1)).Nodup) {j : Nat} {x : κ} {u v : Value} (h : E[j]? = some (x, u)) : E.set j (x, v) = E.map (fun p => if p.1 = x then (x, v) else p) := by
  apply List.ext_getElem?
  intro i
  rw [List.getElem?_set, List.getElem?_map]
  have hj := (List.getElem?_eq_some_iff.1 h).1
  by_cases hij : j = i
  · subst hij
    rw [if_pos rfl, if_pos hj, h]
    simp
  · rw [if_neg hij]
    cases hi : E[i]? with
    | none => rfl
    | some p =>
      have hne : p.1 ≠ x := by
        intro e
        have hi' := (List.getElem?_eq_some_iff.1 hi).1
        unfold List.Nodup at hn
        rw [List.pairwise_map, List.pairwise_iff_getElem] at hn
        have g1 : E[i] = p := (List.getElem?_eq_some_iff.1 hi).2
        have g2 : E[j] = (x, u) := (List.getElem?_eq_some_iff.1 h).2
        rcases Nat.lt_or_gt_of_ne hij with hlt | hlt
        · exact hn j i hj hi' hlt (by rw [g1, g2, e])
        · exact hn i j hi' hj hlt (by rw [g1, g2, e])
      simp [hne]

theorem erase_eq_filter [DecidableEq κ] : ∀ {E : List (κ × Value)}, (E.map (·.1)).Nodup → ∀ {j : Nat} {x : κ} {u : Value}, E[j]? = some (x, u) → E.eraseIdx j = E.filter (fun p => p.1 ≠ x)
  | [], _, j, x, u, h => by simp at h
  | q :: E, hn, 0, x, u, h => by
    simp at h
    subst h
    simp only [List.map_cons, List.nodup_cons] at hn
    rw [List.eraseIdx_cons_zero, List.filter_cons, if_neg (by simp)]
    refine (List.filter_eq_self.2 fun p hp => ?_).symm
    simp only [ne_eq, decide_not, Bool.not_eq_eq_eq_not, Bool.not_true, decide_eq_false_iff_not]
    intro e
    exact hn.1 (List.mem_map.2 ⟨p, hp, e⟩)
  | q :: E, hn, j + 1, x, u, h => by
    simp only [List.map_cons, List.nodup_cons] at hn
    rw [List.getElem?_cons_succ] at h
    rw [List.eraseIdx_cons_succ, List.filter_cons, if_pos, erase_eq_filter hn.2 h]
    simp only [ne_eq, decide_not, Bool.not_eq_eq_eq_not, Bool.not_true, decide_eq_false_iff_not]
    intro e
    exact hn.1 (e ▸ List.mem_map.2 ⟨_, List.mem_of_getElem? h, rfl⟩)

theorem MapIs.store [DecidableEq κ] (h : MapIs P k mk w b E) (T : KeyT P t k e mk) (hroom : E.length < maxLen) {x : κ} {l : Lit} (hkey : keyOf P k (mk x) = some l) (v : Value) :
    ∃ w', (Instr.mapUpdate t (.map (some b)) (mk x) v).run P w = .ok () w' ∧ MapIs P k mk w' b (putE E x v) ∧ w.grownBy w' (some b) ∧ w'.heap.size = w.heap.size := by
  have hn := h.nodup
  obtain ⟨es, clock, hb, he, hsz, hs, hk⟩ := h
  have hlen : es.size = E.length := by have := congrArg List.length he; simpa using this
  rcases T.K.find w hkey es.toList hk with ⟨h1, h2⟩ | ⟨j, e0, h1, h2, h3⟩
  · have hnot : x ∉ E.map (·.1) := fun hm => by
      obtain ⟨p, hp, rfl⟩ := List.mem_map.1 hm
      have : (mk p.1, p.2) ∈ es.toList.map (fun x => (x.key, x.val)) := by rw [he]; exact List.mem_map.2 ⟨p, hp, rfl⟩
      obtain ⟨y, hy, e1⟩ := List.mem_map.1 this
      exact h2 y hy (congrArg Prod.fst e1)
    refine ⟨setBlock w b (.map (es.push ⟨mk x, v, clock⟩) (clock + 1)), ?_, ⟨_, _, heap_setBlock_same hb _, ?_, by simp; omega, stamped_push hs h2, ?_⟩, ⟨rfl, rfl, rfl, by simp [setBlock], fun i _ hi => heap_setBlock_other hb _ (fun e => hi (by rw [e]))⟩, by simp [setBlock]⟩
    · simp [Instr.mapUpdate, run_underlying T.ht, MapKept.run_getObj_map hb, T.K.check w false hkey, h1, MapKept.run_setObj_map _ hb, Result.andThen, setBlock]
    · rw [putE, if_neg hnot, Array.toList_push, List.map_append, he]; simp
    · intro y hy
      simp only [Array.toList_push, List.mem_append, List.mem_singleton] at hy
      rcases hy with hy | rfl
      · exact hk y hy
      · exact ⟨l, hkey⟩
  · have hj : es[j]? = some e0 := by simpa using h2
    have hE : (E.map (fun p => (mk p.1, p.2)))[j]? = some (e0.key, e0.val) := by rw [← he, List.getElem?_map, h2]; rfl
    rw [List.getElem?_map] at hE
    obtain ⟨p, hp, e1⟩ := Option.map_eq_some_iff.1 hE
    obtain ⟨y, u⟩ := p
    simp only [Prod.mk.injEq] at e1
    obtain ⟨e1, rfl⟩ := e1
    obtain rfl := T.inj _ _ (e1.trans h3)
    have hin : y ∈ E.map (·.1) := List.mem_map.2 ⟨_, List.mem_of_getElem? hp, rfl⟩
    have hkeyf : ∀ e', es[j]? = some e' → ({ e' with key := mk y, val := v } : MapEntry).key = e'.key := fun e' he' => by rw [hj] at he'; cases he'; exact h3.symm
    have hlist : (es.modify j (fun e' => { e' with key := mk y, val := v })).toList = es.toList.set j { e0 with key := mk y, val := v } := by rw [Array.toList_modify, modify_eq_set _ _ _ _ h2]
    refine ⟨setBlock w b (.map (es.modify j (fun e' => { e' with key := mk y, val := v })) clock), ?_, ⟨_, _, heap_setBlock_same hb _, ?_, by simpa using hsz, stamped_modify hs _ _ (fun _ _ => rfl) (fun e' _ he' => hkeyf e' he'), ?_⟩, ⟨rfl, rfl, rfl, by simp [setBlock], fun i _ hi => heap_setBlock_other hb _ (fun e => hi (by rw [e]))⟩, by simp [setBlock]⟩
    · simp [Instr.mapUpdate, run_underlying T.ht, MapKept.run_getObj_map hb, T.K.check w false hkey, h1, hj, h3, T.K.stays w hkey, MapKept.run_setObj_map _ hb, Result.andThen, setBlock]
    · rw [putE, if_pos hin, hlist, List.map_set, he, ← set_eq_map hn hp, List.map_set]
    · intro z hz
      rw [hlist] at hz
      rcases List.mem_or_eq_of_mem_set hz with hz | rfl
      · exact hk z hz
      · exact ⟨l, hkey⟩

theorem MapIs.len (h : MapIs P k mk w b E) (ht : P.underlying t = some (.map k e)) (ty : TypeId) : (Builtin.len_ #[t] ty #[.map (some b)]).run P w = .ok (.int .i64 E.length) w := by
  obtain ⟨es, clock, hb, he, hsz, hs, hk⟩ := h
  have hlen : es.size = E.length := by have := congrArg List.length he; simpa using this
  simp [Builtin.len_, run_underlying ht, MapKept.run_getObj_map hb, Result.andThen, hlen, goInt]

theorem MapIs.size_le (h : MapIs P k mk w b E) : E.length ≤ maxLen := by
  obtain ⟨es, clock, hb, he, hsz, hs, hk⟩ := h
  have hlen : es.size = E.length := by have := congrArg List.length he; simpa using this
  omega

/-- 'delete(m, k)'. -/
theorem MapIs.drop [DecidableEq κ] (h : MapIs P k mk w b E) (T : KeyT P t k e mk) {x : κ} {l : Lit} (hkey : keyOf P k (mk x) = some l) (ty : TypeId) :
    ∃ w', (Builtin.delete_ #[t, k] ty #[.map (some b), mk x]).run P w = .ok (.tuple #[]) w' ∧ MapIs P k mk w' b (E.filter (fun p => p.1 ≠ x)) ∧ w.grownBy w' (some b) ∧ w'.heap.size = w.heap.size := by
  have hn := h.nodup
  obtain ⟨es, clock, hb, he, hsz, hs, hk⟩ := h
  have grow : ∀ es', w.grownBy (setBlock w b (.map es' clock)) (some b) := fun es' => ⟨rfl, rfl, rfl, by simp [setBlock], fun i _ hi => heap_setBlock_other hb _ (fun e => hi (by rw [e]))⟩
  rcases T.K.find w hkey es.toList hk with ⟨h1, h2⟩ | ⟨j, e0, h1, h2, h3⟩
  · refine ⟨setBlock w b (.map es clock), ?_, ⟨es, clock, heap_setBlock_same hb _, ?_, hsz, hs, hk⟩, grow _, by simp [setBlock]⟩
    · simp [Builtin.delete_, run_underlying T.ht, MapKept.run_getObj_map hb, T.K.check w _ hkey, h1, MapKept.run_setObj_map _ hb, Result.andThen, setBlock]
    · rw [he]
      congr 1
      refine (List.filter_eq_self.2 fun p hp => ?_).symm
      have : (mk p.1, p.2) ∈ es.toList.map (fun x => (x.key, x.val)) := by rw [he]; exact List.mem_map.2 ⟨p, hp, rfl⟩
      obtain ⟨y, hy, e1⟩ := List.mem_map.1 this
      simp only [ne_eq, decide_not, Bool.not_eq_eq_eq_not, Bool.not_true, decide_eq_false_iff_not]
      intro e2
      exact h2 y hy ((congrArg Prod.fst e1).trans (by rw [← e2]))
  · have hjl : j < es.toList.length := (List.getElem?_eq_some_iff.1 h2).1
    have hjs : j < es.size := by simpa using hjl
    have hsub : (es.eraseIdxIfInBounds j).toList = es.toList.eraseIdx j := by
      unfold Array.eraseIdxIfInBounds
      rw [dif_pos hjs]
      simp
    have hE : (E.map (fun p => (mk p.1, p.2)))[j]? = some (e0.key, e0.val) := by rw [← he, List.getElem?_map, h2]; rfl
    rw [List.getElem?_map] at hE
    obtain ⟨p, hp, e1⟩ := Option.map_eq_some_iff.1 hE
    obtain ⟨y, u⟩ := p
    simp only [Prod.mk.injEq] at e1
    obtain ⟨e1, rfl⟩ := e1
    obtain rfl := T.inj _ _ (e1.trans h3)
    refine ⟨setBlock w b (.map (es.eraseIdxIfInBounds j) clock), ?_, ⟨_, clock, heap_setBlock_same hb _, ?_, Nat.le_trans (MapFrom.size_erase es j) hsz, stamped_erase hs j, ?_⟩, grow _, by simp [setBlock]⟩
    · simp [Builtin.delete_, run_underlying T.ht, MapKept.run_getObj_map hb, T.K.check w _ hkey, h1, MapKept.run_setObj_map _ hb, Result.andThen, setBlock]
    · rw [hsub, ChangeMaps.map_eraseIdx, he, ← ChangeMaps.map_eraseIdx]
      congr 1
      exact erase_eq_filter hn hp
    · intro z hz
      rw [hsub] at hz
      exact hk z ((List.eraseIdx_sublist _ _).subset hz)

/-- A loop over a map under way: 'left' is still to come. -/
def RangeIs (P : Program) (k : TypeId) (mk : κ → Value) (w : World) (b r : Nat) (E left : List (κ × Value)) : Prop :=
  ∃ es clock since seen c0, w.heap[b]? = some (.map es clock) ∧ es.toList.map (fun x => (x.key, x.val)) = E.map (fun p => (mk p.1, p.2)) ∧ es.size ≤ maxLen ∧ Stamped es clock ∧ (∀ x ∈ es.toList, ∃ l, keyOf P k x.key = some l) ∧
    w.heap[r]? = some (.mapIter (some b) since seen c0) ∧ (∀ x ∈ es.toList, x.born < since) ∧ since ≤ c0 ∧ since ≤ clock ∧ (leftOf es seen).toList.map (fun x => (x.key, x.val)) = left.map (fun p => (mk p.1, p.2))

theorem RangeIs.is {r : Nat} {left : List (κ × Value)} (h : RangeIs P k mk w b r E left) : MapIs P k mk w b E := by
  obtain ⟨es, clock, since, seen, c0, hb, he, hsz, hs, hk, _⟩ := h
  exact ⟨es, clock, hb, he, hsz, hs, hk⟩
theorem RangeIs.lt {r : Nat} {left : List (κ × Value)} (h : RangeIs P k mk w b r E left) : r < w.heap.size := by
  obtain ⟨es, clock, since, seen, c0, _, _, _, _, _, hr, _⟩ := h
  exact (Array.getElem?_eq_some_iff.1 hr).1
theorem RangeIs.ne {r : Nat} {left : List (κ × Value)} (h : RangeIs P k mk w b r E left) : r ≠ b := by
  obtain ⟨es, clock, since, seen, c0, hb, _, _, _, _, hr, _⟩ := h
  intro e
  rw [e, hb] at hr
  cases hr
theorem RangeIs.kept {w' : World} {row : Option Nat} {r : Nat} {left : List (κ × Value)} (h : RangeIs P k mk w b r E left) (hg : w.grownBy w' row) (hb' : some b ≠ row) (hr' : some r ≠ row) : RangeIs P k mk w' b r E left := by
  have h1 := h.is.lt
  have h2 := h.lt
  obtain ⟨es, clock, since, seen, c0, hb, he, hsz, hs, hk, hr, rest⟩ := h
  exact ⟨es, clock, since, seen, c0, (hg.block b h1 hb').trans hb, he, hsz, hs, hk, (hg.block r h2 hr').trans hr, rest⟩

theorem map_inj_left {α β : Type} {f : α → β} (hf : ∀ a b, f a = f b → a = b) : ∀ {l m : List α}, l.map f = m.map f → l = m
  | [], [], _ => rfl
  | [], _ :: _, h => by simp at h
  | _ :: _, [], h => by simp at h
  | a :: l, b :: m, h => by
    simp only [List.map_cons, List.cons.injEq] at h
    rw [hf _ _ h.1, map_inj_left hf h.2]

theorem filter_related {α β γ : Type} {f : α → γ} {g : β → γ} {p : α → Bool} {q : β → Bool} : ∀ {l : List α} {m : List β}, l.map f = m.map g → (∀ a b, a ∈ l → b ∈ m → f a = g b → p a = q b) → (l.filter p).map f = (m.filter q).map g
  | [], [], _, _ => rfl
  | [], _ :: _, h, _ => by simp at h
  | _ :: _, [], h, _ => by simp at h
  | a :: l, b :: m, h, hpq => by
    simp only [List.map_cons, List.cons.injEq] at h
    have ih := filter_related h.2 (p := p) (q := q) fun a' b' ha hb => hpq a' b' (by simp [ha]) (by simp [hb])
    rw [List.filter_cons, List.filter_cons, hpq a b (by simp) (by simp) h.1]
    split
    · rw [List.map_cons, List.map_cons, h.1, ih]
    · exact ih

theorem RangeIs.sub {r : Nat} {left : List (κ × Value)} (T : KeyT P t k e mk) (h : RangeIs P k mk w b r E left) : left.Sublist E := by
  obtain ⟨es, clock, since, seen, c0, hb, he, hsz, hs, hk, hr, _, _, _, hl⟩ := h
  have h1 : ((leftOf es seen).toList.map (fun x => (x.key, x.val))).Sublist (es.toList.map (fun x => (x.key, x.val))) := by
    unfold leftOf
    rw [Array.toList_filter]
    exact List.filter_sublist.map _
  rw [hl, he] at h1
  obtain ⟨l', h2, h3⟩ := List.sublist_map_iff.1 h1
  have : left = l' := map_inj_left (fun a b hab => by
    simp only [Prod.mk.injEq] at hab
    exact Prod.ext (T.inj _ _ hab.1) hab.2) h3
  rw [this]
  exact h2

theorem RangeIs.left_eq {r : Nat} {left : List (κ × Value)} (h : RangeIs P k mk w b r E left) : w.rangeLeft b r = left.length := by
  obtain ⟨es, clock, since, seen, c0, hb, _, _, _, _, hr, _, _, _, hl⟩ := h
  have := congrArg List.length hl
  simp only [List.length_map] at this
  simp only [World.rangeLeft, hb, hr]
  simpa using this

theorem MapIs.range (h : MapIs P k mk w b E) (ht : P.underlying t = some (.map k e)) :
    ∃ w', (Instr.range t (.map (some b))).run P w = .ok (.pointer (some ⟨w.heap.size, 0, none⟩)) w' ∧ RangeIs P k mk w' b w.heap.size E E ∧ w.grownBy w' none ∧ w'.heap.size = w.heap.size + 1 := by
  have hlt := h.lt
  obtain ⟨es, clock, hb, he, hsz, hs, hk⟩ := h
  refine ⟨_, run_range_map w t k e b es clock ht hb, ⟨es, clock, clock, #[], clock, ((MapKept.heap_alloc w _).2 b hlt).trans hb, he, hsz, hs, hk, (MapKept.heap_alloc w _).1, hs.1, Nat.le_refl _, Nat.le_refl _, ?_⟩, World.grownBy_alloc w _ none, by simp⟩
  rw [← he]
  congr 1
  simp [leftOf]

theorem RangeIs.next [DecidableEq κ] {r : Nat} {left : List (κ × Value)} (h : RangeIs P k mk w b r E left) (T : KeyT P t k e mk) (ty : TypeId) :
    (left = [] ∧ (Instr.next (.pointer (some ⟨r, 0, none⟩)) false ty).run P w = .ok (.tuple #[.bool false]) w) ∨
    ∃ p w', p ∈ left ∧ (Instr.next (.pointer (some ⟨r, 0, none⟩)) false ty).run P w = .ok (.tuple #[.bool true, mk p.1, p.2]) w' ∧ RangeIs P k mk w' b r E (left.filter (fun q => q.1 ≠ p.1)) ∧ w.grownBy w' (some r) ∧ w'.heap.size = w.heap.size ∧
      (Instr.entry (.pointer (some ⟨r, 0, none⟩))).run P w' = .ok (.tuple #[mk p.1, p.2]) w' := by
  have hne := h.ne
  obtain ⟨es, clock, since, seen, c0, hb, he, hsz, hs, hk, hr, hold, hsc, hsk, hl⟩ := h
  rcases run_next_at (P := P) w ty r b since c0 seen es clock hr hb hold hsc with ⟨h0, hrun⟩ | ⟨x, hx, w1, hal, hrun⟩
  · refine Or.inl ⟨?_, hrun⟩
    have := congrArg List.length hl
    simp at this
    cases left with
    | nil => rfl
    | cons p l => simp at this; omega
  · obtain ⟨hem, hes⟩ := mem_left hx
    have hp : (x.key, x.val) ∈ left.map (fun p => (mk p.1, p.2)) := by rw [← hl]; exact List.mem_map.2 ⟨x, hx, rfl⟩
    obtain ⟨p, hp, e1⟩ := List.mem_map.1 hp
    simp only [Prod.mk.injEq] at e1
    obtain ⟨e1, e2⟩ := e1
    have hr1 : w1.heap[r]? = some (.mapIter (some b) since seen c0) := by rcases hal with rfl | rfl <;> exact hr
    have hb1 : w1.heap[b]? = some (.map es clock) := by rcases hal with rfl | rfl <;> exact hb
    have hset := heap_set (o' := .mapIter (some b) since (seen.push x.born) clock) hr1
    have hb' : (setBlock w1 r (.mapIter (some b) since (seen.push x.born) clock)).heap[b]? = some (.map es clock) := (hset.2 b (fun e1 => hne e1.symm)).trans hb1
    have hst := (stamped_iff es clock).1 hs
    rw [← e1, ← e2] at hrun
    refine Or.inr ⟨p, _, hp, hrun, ⟨es, clock, since, seen.push x.born, clock, hb', he, hsz, hs, hk, hset.1, hold, hsk, hsk, ?_⟩, ?_, ?_, ?_⟩
    · have e3 : (leftOf es (seen.push x.born)).toList = (leftOf es seen).toList.filter (fun y => y.born != x.born) := by
        unfold leftOf
        simp only [Array.toList_filter, List.filter_filter]
        refine List.filter_congr fun y _ => ?_
        rw [contains_push]
        cases seen.contains y.born <;> simp [bne]
      rw [e3]
      refine filter_related hl fun y q hy _ hyq => ?_
      simp only [Prod.mk.injEq] at hyq
      have hym := (mem_left hy).1
      by_cases h : q.1 = p.1
      · have : y = x := entry_eq_of_key hst.2.2 hym hem (by rw [hyq.1, h, e1])
        subst this
        simp [h]
      · have : y.born ≠ x.born := fun e => by
          have := born_inj hst.2.1 hym hem e
          subst this
          exact h (T.inj _ _ (hyq.1.symm.trans e1.symm))
        simp [h, this]
    · rcases hal with rfl | rfl <;> exact ⟨rfl, rfl, rfl, by simp [setBlock], fun i _ hi => hset.2 i (fun e1 => hi (by rw [e1]))⟩
    · rcases hal with rfl | rfl <;> simp [setBlock]
    · rw [e1, e2]
      exact run_entry_at _ r b since seen es clock x hset.1 hb' hem hst.2.1

theorem RangeIs.nodup {r : Nat} {left : List (κ × Value)} (T : KeyT P t k e mk) (h : RangeIs P k mk w b r E left) : (left.map (·.1)).Nodup := (h.sub T).map _ |>.nodup h.is.nodup

section
variable {ops : Array Oper} {rest : List Oper} {Q : Exit → Act → World → Prop} {a : Act} {d : Option Tmp} {ty : TypeId} {pos : String} {aft : Array Edge} {m x : Operand}

/-- 'range m'. -/
theorem wpList_rangeM (ht : P.underlying t = some (.map k e)) (h : MapIs P k mk w b E) (hm : a.eval m = .map (some b))
    (hK : ∀ w', RangeIs P k mk w' b w.heap.size E E → w.grownBy w' none → w'.heap.size = w.heap.size + 1 → wpList P ops Q rest (a.put d (.pointer (some ⟨w.heap.size, 0, none⟩))) w') :
    wpList P ops Q (⟨d, .range t m, ty, pos, aft, none⟩ :: rest) a w := by
  obtain ⟨w', hrun, r1, r2, r3⟩ := h.range ht
  refine wpList_val rfl (v := .pointer (some ⟨w.heap.size, 0, none⟩)) (w' := w') ?_ (hK w' r1 r2 r3)
  simp [execOp, hm, hrun, Result.andThen]

/-- The loop's step. -/
theorem wpList_nextM [DecidableEq κ] {r : Nat} {left : List (κ × Value)} (T : KeyT P t k e mk) (h : RangeIs P k mk w b r E left) (hm : a.eval m = .pointer (some ⟨r, 0, none⟩))
    (hDone : left = [] → wpList P ops Q rest (a.put d (.tuple #[.bool false])) w)
    (hMore : ∀ p w', p ∈ left → RangeIs P k mk w' b r E (left.filter (fun q => q.1 ≠ p.1)) → w.grownBy w' (some r) → w'.heap.size = w.heap.size →
      (Instr.entry (.pointer (some ⟨r, 0, none⟩))).run P w' = .ok (.tuple #[mk p.1, p.2]) w' → wpList P ops Q rest (a.put d (.tuple #[.bool true, mk p.1, p.2])) w') :
    wpList P ops Q (⟨d, .next m false, ty, pos, aft, none⟩ :: rest) a w := by
  rcases h.next T ty with ⟨h0, hrun⟩ | ⟨p, w', h1, hrun, h2, h3, h4, h5⟩
  · refine wpList_val rfl (v := .tuple #[.bool false]) (w' := w) ?_ (hDone h0)
    simp [execOp, hm, hrun, Result.andThen]
  · refine wpList_val rfl (v := .tuple #[.bool true, mk p.1, p.2]) (w' := w') ?_ (hMore p w' h1 h2 h3 h4 h5)
    simp [execOp, hm, hrun, Result.andThen]

/-- 'm[k]', 'v, ok := m[k]'. -/
theorem wpList_lookM [DecidableEq κ] (T : KeyT P t k e mk) (h : MapIs P k mk w b E) {z : Value} (hz : (zeroValue e).run P w = .ok z w) {key : κ} {l : Lit} (hkey : keyOf P k (mk key) = some l) {c : Bool} {v : Value} (hv : lookV c z (E.lookup key) = v) (hm : a.eval m = .map (some b)) (hx : a.eval x = mk key)
    (hK : wpList P ops Q rest (a.put d v) w) : wpList P ops Q (⟨d, .lookup t m x c, ty, pos, aft, none⟩ :: rest) a w := by
  refine wpList_val rfl (v := v) (w' := w) ?_ hK
  have := h.look c T hz hkey
  rw [hv] at this
  simp [execOp, hm, hx, this, Result.andThen]

/-- A map literal's entry. -/
theorem wpList_insertM [DecidableEq κ] (T : KeyT P t k e mk) (h : MapIs P k mk w b E) (hroom : E.length < maxLen) {v : Operand} {key : κ} {l : Lit} {val : Value} (hkey : keyOf P k (mk key) = some l) (hm : a.eval m = .map (some b)) (hx : a.eval x = mk key) (hv : a.eval v = val)
    (hK : ∀ w', MapIs P k mk w' b (putE E key val) → w.grownBy w' (some b) → w'.heap.size = w.heap.size → wpList P ops Q rest (a.put d undef) w') :
    wpList P ops Q (⟨d, .insert t m x v, ty, pos, aft, none⟩ :: rest) a w := by
  obtain ⟨w', hrun, r1, r2, r3⟩ := h.store T hroom hkey val
  refine wpList_did rfl (w' := w') ?_ (hK w' r1 r2 r3)
  simp [execOp, hm, hx, hv, hrun, Result.andThen]

/-- 'm[k] = v'. -/
theorem wpList_storeM [DecidableEq κ] (T : KeyT P t k e mk) (h : MapIs P k mk w b E) (hroom : E.length < maxLen) {v : Operand} {key : κ} {l : Lit} {val : Value} (hkey : keyOf P k (mk key) = some l) (hm : a.eval m = .map (some b)) (hx : a.eval x = mk key) (hv : a.eval v = val)
    (hK : ∀ w', MapIs P k mk w' b (putE E key val) → w.grownBy w' (some b) → w'.heap.size = w.heap.size → wpList P ops Q rest (a.put d undef) w') :
    wpList P ops Q (⟨d, .mapUpdate t m x v, ty, pos, aft, none⟩ :: rest) a w := by
  obtain ⟨w', hrun, r1, r2, r3⟩ := h.store T hroom hkey val
  refine wpList_did rfl (w' := w') ?_ (hK w' r1 r2 r3)
  simp [execOp, hm, hx, hv, hrun, Result.andThen]
end

end
end Go.Fd
