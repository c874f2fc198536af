/-
  Slices as they are read and owned in a world, and laws of the walk over them: no program is in sight.
-/
import Derived.WalkKit
import Derived.WalkSpells
import Derived.WalkLawsBesides
import Derived.Lib.Hide
import Derived.Laws.AppendOwnNone
namespace Go.Fd
open Go.RowKit

/-- The slice value v has n elements of 'size' cells each, and its cells in w are xs. -/
def Reads (w : World) (size : Nat) (v : Value) (n : Nat) (xs : List Value) : Prop :=
  xs.length = n * size ∧ ∃ a cap, v = .slice a n cap ∧ n ≤ cap ∧ (a = none → cap = 0) ∧ ∀ j, j < xs.length → ∃ b off, a = some ⟨b, off, none⟩ ∧ w.cell? ⟨b, off + j, none⟩ = xs[j]?

/-- What is needed of a slice type. -/
structure SliceT (P : Program) (t e size bytes : Nat) : Prop where
  ht : P.underlying t = some (.slice e)
  pos : 0 < size
  info : ∃ i z, P.info? e = some i ∧ i.zero = some z ∧ i.size = size ∧ i.bytes = bytes ∧ z.cells.size = size

theorem SliceT.mk' {P : Program} {t e size bytes : Nat} {z : Value} (ht : P.underlying t = some (.slice e)) (hi : (P.info? e).map (fun i => (i.zero, i.size, i.bytes)) = some (some z, size, bytes))
    (hz : z.cells.size = size) (hp : 0 < size) : SliceT P t e size bytes := by
  obtain ⟨i, h1, h2, h3, h4⟩ := info_parts hi
  exact ⟨ht, hp, i, z, h1, h2, h3, h4, hz⟩

theorem block_lt {w : World} {b o : Nat} {v : Value} (h : w.cell? ⟨b, o, none⟩ = some v) : b < w.heap.size := World.block_lt_of_cell? w ⟨b, o, none⟩ h

theorem Reads.mono {w w' : World} {size n : Nat} {v : Value} {xs : List Value} (h : Reads w size v n xs) (hb : Below w.heap.size w w') : Reads w' size v n xs := by
  obtain ⟨h1, a, cap, h2, h3, h0, h4⟩ := h
  refine ⟨h1, a, cap, h2, h3, h0, fun j hj => ?_⟩
  obtain ⟨b, off, e1, e2⟩ := h4 j hj
  refine ⟨b, off, e1, ?_⟩
  rw [hb.cell (p := ⟨b, off + j, none⟩) (block_lt (e2.trans (List.getElem?_eq_getElem hj)))]
  exact e2

/-- One cell an element: opened for a walk. -/
theorem Reads.open1 {w : World} {n : Nat} {v : Value} {xs : List Value} (h : Reads w 1 v n xs) : xs.length = n ∧ ∃ a cap, v = .slice a n cap ∧ n ≤ cap ∧ (a = none → cap = 0) ∧
    ∀ i (_ : i < n), ∃ b off x, a = some ⟨b, off, none⟩ ∧ xs[i]? = some x ∧ w.cell? ⟨b, off + i, none⟩ = some x := by
  obtain ⟨h1, a, cap, h2, h3, h0, h4⟩ := h
  refine ⟨by omega, a, cap, h2, h3, h0, fun i hi => ?_⟩
  obtain ⟨b, off, e1, e2⟩ := h4 i (by omega)
  exact ⟨b, off, xs[i]'(by omega), e1, List.getElem?_eq_getElem _, e2.trans (List.getElem?_eq_getElem _)⟩

theorem Reads.shape {w : World} {size n : Nat} {v : Value} {xs : List Value} (h : Reads w size v n xs) : ∃ m a cap, Hid (m = n) ∧ v = .slice a m cap ∧ m ≤ cap ∧ (a = none → cap = 0) := by
  obtain ⟨h1, a, cap, h2, h3, h0, h4⟩ := h
  exact ⟨n, a, cap, rfl, h2, h3, h0⟩

theorem Reads.drew {w : World} {size n : Nat} {v : Value} {xs : List Value} (h : Reads w size v n xs) : Reads w.drew size v n xs := h

theorem Reads.of_owns {w : World} {base e size n : Nat} {v : Value} {xs : List Value} (h : w.ownsRow base e size v n xs) : Reads w size v n xs := by
  refine ⟨h.1, ?_⟩
  rcases h.2 with ⟨rfl, rfl⟩ | ⟨g, cap, cur, rfl, hb, hg, hn, hc, hs, ht⟩
  · exact ⟨none, 0, rfl, Nat.le_refl _, fun _ => rfl, fun j hj => by rw [h.1] at hj; simp at hj⟩
  · refine ⟨_, cap, rfl, hn, (fun h => by cases h), fun j hj => ⟨g, 0, rfl, ?_⟩⟩
    have := h.cellAt (g := g) (cap := cap) j (by rw [← h.1]; exact hj)
    rw [Nat.zero_add]; exact this

theorem Reads.nil (w : World) (size : Nat) : Reads w size (.slice none 0 0) 0 [] := ⟨by simp, none, 0, rfl, Nat.le_refl _, fun _ => rfl, fun j hj => by simp at hj⟩

/-- What is owned stays owned where nothing that was there has turned. -/
theorem owns_mono {w w' : World} {base e size n : Nat} {v : Value} {xs : List Value} (h : w.ownsRow base e size v n xs) (hb : Below w.heap.size w w') : w'.ownsRow base e size v n xs := by
  refine ⟨h.1, ?_⟩
  rcases h.2 with h2 | ⟨g, cap, cur, hv, hg, hh, r⟩
  · exact .inl h2
  · exact .inr ⟨g, cap, cur, hv, hg, by rw [hb.block g (Array.getElem?_eq_some_iff.1 hh).1]; exact hh, r⟩

theorem owns_base {w : World} {base base' e size n : Nat} {v : Value} {xs : List Value} (h : w.ownsRow base e size v n xs) (hb : base' ≤ base) : w.ownsRow base' e size v n xs := by
  refine ⟨h.1, ?_⟩
  rcases h.2 with h2 | ⟨g, cap, cur, hv, hg, r⟩
  · exact .inl h2
  · exact .inr ⟨g, cap, cur, hv, Nat.le_trans hb hg, r⟩

/-- An owned slice's growth leaves all below its base alone. -/
theorem owns_below {w w' : World} {base e size n : Nat} {v : Value} {xs : List Value} (h : w.ownsRow base e size v n xs) (hg : w.grownBy w' v.ownBlock) (hb : base ≤ w.heap.size) : Below base w w' :=
  (Below.refl base w).grown hg hb fun k hk => (h.lt k hk).1

theorem below_alloc (w : World) (o : Obj) : Below w.heap.size w (w.alloc o) := (Below.refl _ _).alloc (Nat.le_refl _) o

theorem grown_of_alloc {w w' : World} {o : Obj} {row : Option Nat} (hg : (w.alloc o).grownBy w' row) : w.grownBy w' row :=
  ⟨hg.os, hg.tape, hg.output, Nat.le_trans (by simp) hg.size, fun k hk hr => (hg.block k (by simp; omega) hr).trans (Below.heap_alloc w o k hk)⟩

theorem maxLen_of {n : Nat} (h : n ≤ 140737488355328) : n ≤ maxLen := by unfold maxLen; omega

section
variable {P : Program} {ops : Array Oper} {rest : List Oper} {Q : Exit → Act → World → Prop} {a : Act} {w : World}

theorem oneCell_list {xs : List Value} (h : xs.all (·.oneCell') = true) : ∀ u ∈ xs, u.oneCell' = true := by simpa using h

/-- 'v = append(v, x)': one element, out of the new block that holds it. -/
theorem wpList_push {t e size bytes : Nat} (T : SliceT P t e size bytes) {d : Option Tmp} {ty : TypeId} {pos : String} {aft : Array Edge} {s x : Operand} {v : Value} {n base : Nat} {xs : List Value} (hown : w.ownsRow base e size v n xs)
    (hs : a.eval s = v) (hx : a.eval x = .slice (some ⟨w.heap.size, 0, none⟩) 1 1) {cs : Array Value} (hcs : cs.size = size) (h1 : cs.toList.all (·.oneCell') = true)
    (hn : (n + 1) * bytes ≤ 140737488355328) (hm : n + 1 ≤ 140737488355328) (hb : base ≤ w.heap.size)
    (h : ∀ v' w', w'.ownsRow base e size v' (n + 1) (xs ++ cs.toList) → w.grownBy w' v.ownBlock → Below base w w' → wpList P ops Q rest (a.put d v') w') :
    wpList P ops Q (⟨d, .call { callee := .builtin .append, args := #[s, x], argTypes := #[t, t] }, ty, pos, aft, none⟩ :: rest) a (w.alloc (.cells cs e)) := by
  obtain ⟨i, z, h1', h2, h3, h4, h5⟩ := T.info
  refine wpList_append_own _ rfl s x t rfl base e i z size bytes T.ht h1' h2 h3 h4 h5 T.pos v n xs hs (hown.alloc _) ⟨w.heap.size, 0, none⟩ 1 1 cs.toList hx (by simp [hcs]) ?_ (oneCell_list h1) (maxLen_of hm) hn (by simp; omega) ?_
  · intro j u hj
    have e1 : (⟨w.heap.size, 0, none⟩ : Addr).add j = ⟨w.heap.size, j, none⟩ := by unfold Addr.add; split <;> simp_all
    rw [e1]
    simp only [World.cell?]
    rw [show (w.alloc (.cells cs e)).heap[w.heap.size]? = some (.cells cs e) from heap_alloc_new w _]
    simpa using hj
  · intro v' w' ho hg _
    exact h v' w' ho (grown_of_alloc hg) (owns_below hown (grown_of_alloc hg) hb)

/-- 'v = append(v, x...)': whatever slice x is. -/
theorem wpList_cat {t e size bytes : Nat} (T : SliceT P t e size bytes) {d : Option Tmp} {ty : TypeId} {pos : String} {aft : Array Edge} {s x : Operand} {v : Value} {n base : Nat} {xs : List Value} (hown : w.ownsRow base e size v n xs)
    {u : Value} {m : Nat} {ys : List Value} (hy : Reads w size u m ys) (hs : a.eval s = v) (hx : a.eval x = u) (h1 : ys.all (·.oneCell') = true)
    (hn : (n + m) * bytes ≤ 140737488355328) (hm : n + m ≤ 140737488355328) (hb : base ≤ w.heap.size)
    (h : ∀ v' w', w'.ownsRow base e size v' (n + m) (xs ++ ys) → w.grownBy w' v.ownBlock → Below base w w' → wpList P ops Q rest (a.put d v') w') :
    wpList P ops Q (⟨d, .call { callee := .builtin .append, args := #[s, x], argTypes := #[t, t] }, ty, pos, aft, none⟩ :: rest) a w := by
  obtain ⟨i, z, h1', h2, h3, h4, h5⟩ := T.info
  obtain ⟨hl, au, cap, rfl, hcap, h00, hc⟩ := hy
  rcases au with _ | ad
  · have hm0 : m * size = 0 := by
      rcases Nat.eq_zero_or_pos (m * size) with h0 | h0
      · exact h0
      · obtain ⟨b, off, h', _⟩ := hc 0 (by omega); cases h'
    have hys : ys = [] := List.eq_nil_of_length_eq_zero (by omega)
    subst hys
    have hm0' : m = 0 := by
      have := T.pos
      rcases Nat.mul_eq_zero.1 hm0 with h | h <;> omega
    subst hm0'
    obtain rfl := h00 rfl
    refine wpList_append_own_none rfl s x t rfl base e i size T.ht h1' v n xs hs hown hx ?_
    simpa using h v w (by simpa using hown) (World.grownBy.refl _ _) (Below.refl _ _)
  · refine wpList_append_own _ rfl s x t rfl base e i z size bytes T.ht h1' h2 h3 h4 h5 T.pos v n xs hs hown ad m cap ys hx hl ?_ (oneCell_list h1) (maxLen_of hm) hn hb ?_
    · intro j y hj
      have hlt : j < ys.length := (List.getElem?_eq_some_iff.1 hj).1
      obtain ⟨b, off, e1, e2⟩ := hc j hlt
      cases e1
      have e3 : (⟨b, off, none⟩ : Addr).add j = ⟨b, off + j, none⟩ := by unfold Addr.add; split <;> simp_all
      rw [e3, e2, hj]
    · intro v' w' ho hg _
      exact h v' w' ho hg (owns_below hown hg hb)

theorem wpList_val {o : Oper} {v : Value} {w' : World} (hg : Region.wanted o (yielded ops a.tmps) = true) (hr : (execOp a.eval o).run P w = .ok (.value v) w') (h : wpList P ops Q rest (a.put o.dst v) w') :
    wpList P ops Q (o :: rest) a w := by
  unfold wpList
  rw [if_pos hg]
  refine .inl ?_
  unfold Oper.wp Oper.upon
  rw [hr]
  exact h

theorem wpList_did {o : Oper} {w' : World} (hg : Region.wanted o (yielded ops a.tmps) = true) (hr : (execOp a.eval o).run P w = .ok .skip w') (h : wpList P ops Q rest (a.put o.dst undef) w') :
    wpList P ops Q (o :: rest) a w := by
  unfold wpList
  rw [if_pos hg]
  refine .inl ?_
  unfold Oper.wp Oper.upon
  rw [hr]
  exact h

theorem run_sliceBound' (k : IntKind) (i : Int) (y : Nat) (code : BoundsCode) (h0 : 0 ≤ i) (h1 : i ≤ y) : (Instr.sliceBound (.int k i) y code).run P w = .ok i.toNat w := by
  simp [Instr.sliceBound, asIntOf, h0, h1]

/-- Where a slice's part begins. -/
def partAt (a : Option Addr) (size cap l : Nat) : Option Addr := if cap = l then a else a.map (·.add (l * size))

theorem Reads.part {size n : Nat} {a : Option Addr} {cap : Nat} {xs : List Value} (hl : xs.length = n * size) (hn : n ≤ cap) (h00 : a = none → cap = 0)
    (hc : ∀ j, j < xs.length → ∃ b off, a = some ⟨b, off, none⟩ ∧ w.cell? ⟨b, off + j, none⟩ = xs[j]?) (i j : Nat) (hij : i ≤ j) (hj : j ≤ n) :
    Reads w size (.slice (partAt a size cap i) (j - i) (cap - i)) (j - i) ((xs.drop (i * size)).take ((j - i) * size)) := by
  have hle : i * size + (j - i) * size ≤ n * size := by rw [← Nat.add_mul]; exact Nat.mul_le_mul_right _ (by omega)
  refine ⟨by rw [List.length_take, List.length_drop, hl]; omega, _, _, rfl, by omega, ?_, ?_⟩
  · intro h
    unfold partAt at h
    split at h
    · omega
    · cases a with
      | none => have := h00 rfl; omega
      | some x => simp at h
  · intro t ht
    rw [List.length_take, List.length_drop, hl] at ht
    obtain ⟨b, off, e1, e2⟩ := hc (i * size + t) (by omega)
    subst e1
    have hne : cap ≠ i := by
      intro e
      have : j - i = 0 := by omega
      rw [this] at ht
      omega
    refine ⟨b, off + i * size, ?_, ?_⟩
    · unfold partAt
      rw [if_neg hne]
      simp only [Option.map_some, Addr.add]
      split
      · next h => rw [h]; rfl
      · rfl
    · rw [Nat.add_assoc, e2, List.getElem?_take, if_pos (by omega), List.getElem?_drop]

/-- 'x[i:j]' of a slice. -/
theorem run_sliceAt {t e size bytes : Nat} (T : SliceT P t e size bytes) {v : Value} {n : Nat} {xs : List Value} (hv : Reads w size v n xs) {i j : Int} {k k' : IntKind} (h0 : 0 ≤ i) (h1 : i ≤ j) (h2 : j ≤ n) :
    ∃ v', (∀ w', (Instr.sliceAt t v (some (.int k i)) (some (.int k' j)) none).run P w' = .ok v' w') ∧ Reads w size v' (j - i).toNat ((xs.drop (i.toNat * size)).take ((j - i).toNat * size)) := by
  obtain ⟨hl, a, cap, rfl, hcap, h00, hc⟩ := hv
  obtain ⟨ti, z, e1, e2, e3, e4, e5⟩ := T.info
  refine ⟨.slice (partAt a size cap i.toNat) (j - i).toNat (cap - i.toNat), fun w' => ?_, ?_⟩
  · have r1 : (Instr.sliceBound (.int k' j) cap .sliceAcap).run P w' = .ok j.toNat w' := run_sliceBound' _ _ _ _ (by omega) (by omega)
    have r2 : (Instr.sliceBound (.int k i) j.toNat .sliceB).run P w' = .ok i.toNat w' := run_sliceBound' _ _ _ _ (by omega) (by omega)
    have e6 : j.toNat - i.toNat = (j - i).toNat := by omega
    simp [Instr.sliceAt, Instr.slice, run_underlying T.ht, Instr.sliceBounds, r1, r2, sizeOf, typeInfo, e1, e3, partAt, e6]
  · have := Reads.part hl hcap h00 hc i.toNat j.toNat (by omega) (by omega)
    rw [show j.toNat - i.toNat = (j - i).toNat by omega] at this
    exact this

theorem run_sliceFrom {t e size bytes : Nat} (T : SliceT P t e size bytes) {v : Value} {n : Nat} {xs : List Value} (hv : Reads w size v n xs) {i : Int} {k : IntKind} (h0 : 0 ≤ i) (h1 : i ≤ n) :
    ∃ v', (∀ w', (Instr.sliceAt t v (some (.int k i)) none none).run P w' = .ok v' w') ∧ Reads w size v' (n - i).toNat (xs.drop (i.toNat * size)) := by
  obtain ⟨hl, a, cap, rfl, hcap, h00, hc⟩ := hv
  obtain ⟨ti, z, e1, e2, e3, e4, e5⟩ := T.info
  refine ⟨.slice (partAt a size cap i.toNat) (n - i).toNat (cap - i.toNat), fun w' => ?_, ?_⟩
  · have r2 : (Instr.sliceBound (.int k i) n .sliceB).run P w' = .ok i.toNat w' := run_sliceBound' _ _ _ _ (by omega) (by omega)
    have e6 : n - i.toNat = ((n : Int) - i).toNat := by omega
    simp [Instr.sliceAt, Instr.slice, run_underlying T.ht, Instr.sliceBounds, r2, sizeOf, typeInfo, e1, e3, partAt, e6]
  · have h := Reads.part hl hcap h00 hc i.toNat n (by omega) (Nat.le_refl _)
    rw [show n - i.toNat = ((n : Int) - i).toNat by omega, List.take_of_length_le (by rw [List.length_drop, hl, ← Nat.sub_mul]; exact Nat.mul_le_mul_right _ (by omega))] at h
    exact h

theorem run_sliceTo {t e size bytes : Nat} (T : SliceT P t e size bytes) {v : Value} {n : Nat} {xs : List Value} (hv : Reads w size v n xs) {j : Int} {k : IntKind} (h0 : 0 ≤ j) (h1 : j ≤ n) :
    ∃ v', (∀ w', (Instr.sliceAt t v none (some (.int k j)) none).run P w' = .ok v' w') ∧ Reads w size v' j.toNat (xs.take (j.toNat * size)) := by
  obtain ⟨hl, a, cap, rfl, hcap, h00, hc⟩ := hv
  obtain ⟨ti, z, e1, e2, e3, e4, e5⟩ := T.info
  refine ⟨.slice (partAt a size cap 0) j.toNat cap, fun w' => ?_, ?_⟩
  · have r1 : (Instr.sliceBound (.int k j) cap .sliceAcap).run P w' = .ok j.toNat w' := run_sliceBound' _ _ _ _ (by omega) (by omega)
    simp [Instr.sliceAt, Instr.slice, run_underlying T.ht, Instr.sliceBounds, r1, sizeOf, typeInfo, e1, partAt]
  · have h := Reads.part hl hcap h00 hc 0 j.toNat (by omega) (by omega)
    simpa using h

theorem exec_slice2 {v v' i j : Value} {d : Option Tmp} {t ty : TypeId} {pos : String} {aft : Array Edge} {g : Option (Nat × Bool)} {x lo hi : Operand} (hr : ∀ w', (Instr.sliceAt t v (some i) (some j) none).run P w' = .ok v' w')
    (hx : a.eval x = v) (hlo : a.eval lo = i) (hhi : a.eval hi = j) : (execOp a.eval ⟨d, .slice t x (some lo) (some hi) none, ty, pos, aft, g⟩).run P w = .ok (.value v') w := by
  simp [execOp, hx, hlo, hhi, hr]
theorem exec_sliceFrom {v v' i : Value} {d : Option Tmp} {t ty : TypeId} {pos : String} {aft : Array Edge} {g : Option (Nat × Bool)} {x lo : Operand} (hr : ∀ w', (Instr.sliceAt t v (some i) none none).run P w' = .ok v' w')
    (hx : a.eval x = v) (hlo : a.eval lo = i) : (execOp a.eval ⟨d, .slice t x (some lo) none none, ty, pos, aft, g⟩).run P w = .ok (.value v') w := by
  simp [execOp, hx, hlo, hr]
theorem exec_sliceTo {v v' j : Value} {d : Option Tmp} {t ty : TypeId} {pos : String} {aft : Array Edge} {g : Option (Nat × Bool)} {x hi : Operand} (hr : ∀ w', (Instr.sliceAt t v none (some j) none).run P w' = .ok v' w')
    (hx : a.eval x = v) (hhi : a.eval hi = j) : (execOp a.eval ⟨d, .slice t x none (some hi) none, ty, pos, aft, g⟩).run P w = .ok (.value v') w := by
  simp [execOp, hx, hhi, hr]

theorem below_grown {w w' : World} (hg : w.grownBy w' none) : Below w.heap.size w w' := ⟨hg.os, hg.tape, hg.output, hg.size, fun k hk => hg.block k hk (by simp)⟩

/-- 'make([]T, 0, n)'. -/
theorem wpList_make0 {t e size bytes : Nat} (T : SliceT P t e size bytes) {d : Option Tmp} {ty : TypeId} {pos : String} {aft : Array Edge} {x y : Operand} (n : Nat) {k k' : IntKind} {c : Int} (hl : a.eval x = .int k 0) (hc : a.eval y = .int k' c) (hn : c = n)
    (hb : bytes * n ≤ 281474976710656) (hm : n ≤ 140737488355328)
    (h : ∀ v' w', w'.ownsRow w.heap.size e size v' 0 [] → Below w.heap.size w w' → wpList P ops Q rest (a.put d v') w') :
    wpList P ops Q (⟨d, .makeSlice t x y, ty, pos, aft, none⟩ :: rest) a w := by
  obtain ⟨i, z, h1, h2, h3, h4, h5⟩ := T.info
  exact wpList_make_own w rfl x y t rfl w.heap.size e i z size T.ht h1 h2 h3 k k' c n hl hc hn (by rw [h4]; exact hb) (maxLen_of hm) (Nat.le_refl _) fun w' r1 r2 => h _ _ r1 (below_grown r2)

/-- 'make([]T, n)'. -/
theorem wpList_makeN {t e size bytes : Nat} (T : SliceT P t e size bytes) {z : Value} (hz : ∀ i, P.info? e = some i → i.zero = some z) {d : Option Tmp} {ty : TypeId} {pos : String} {aft : Array Edge} {x y : Operand} (n : Nat) {k k' : IntKind} {l c : Int} (hl : a.eval x = .int k l) (hc : a.eval y = .int k' c) (hn' : l = n) (hn : c = n)
    (hb : bytes * n ≤ 281474976710656) (hm : n ≤ 140737488355328)
    (h : ∀ v' w', w'.ownsRow w.heap.size e size v' n (madeCells z.cells (n * size)).toList → Below w.heap.size w w' → wpList P ops Q rest (a.put d v') w') :
    wpList P ops Q (⟨d, .makeSlice t x y, ty, pos, aft, none⟩ :: rest) a w := by
  obtain ⟨i, z', h1, h2, h3, h4, h5⟩ := T.info
  obtain rfl : z' = z := by have := hz i h1; rw [h2] at this; exact Option.some.inj this
  exact wpList_make_full w rfl x y t rfl w.heap.size e i z' size T.ht h1 h2 h3 k k' l c n hl hc hn' hn (by rw [h4]; exact hb) (maxLen_of hm) (Nat.le_refl _) fun w' r1 r2 => h _ _ r1 (below_grown r2)

/-- 'v = append(v, x)' where there is room: v stays where it is. -/
theorem wpList_pushFits {t e size bytes : Nat} (T : SliceT P t e size bytes) {d : Option Tmp} {ty : TypeId} {pos : String} {aft : Array Edge} {s x : Operand} {g k cap base : Nat} {xs : List Value} (hown : w.ownsRow base e size (.slice (some ⟨g, 0, none⟩) k cap) k xs)
    (hs : a.eval s = .slice (some ⟨g, 0, none⟩) k cap) (hx : a.eval x = .slice (some ⟨w.heap.size, 0, none⟩) 1 1) {cs : Array Value} (hcs : cs.size = size) (h1 : cs.toList.all (·.oneCell') = true) (hk : k < cap)
    (h : ∀ w', w'.ownsRow base e size (.slice (some ⟨g, 0, none⟩) (k + 1) cap) (k + 1) (xs ++ cs.toList) → w.grownBy w' (some g) → wpList P ops Q rest (a.put d (.slice (some ⟨g, 0, none⟩) (k + 1) cap)) w') :
    wpList P ops Q (⟨d, .call { callee := .builtin .append, args := #[s, x], argTypes := #[t, t] }, ty, pos, aft, none⟩ :: rest) a (w.alloc (.cells cs e)) := by
  obtain ⟨i, z, h1', h2, h3, h4, h5⟩ := T.info
  refine wpList_append_fits _ rfl s x t rfl base e i size T.ht h1' h3 g k cap xs hs (hown.alloc _) ⟨w.heap.size, 0, none⟩ 1 1 cs.toList hx (by simp [hcs]) ?_ (oneCell_list h1) hk ?_
  · intro j u hj
    have e1 : (⟨w.heap.size, 0, none⟩ : Addr).add j = ⟨w.heap.size, j, none⟩ := by unfold Addr.add; split <;> simp_all
    rw [e1]
    simp only [World.cell?]
    rw [show (w.alloc (.cells cs e)).heap[w.heap.size]? = some (.cells cs e) from heap_alloc_new w _]
    simpa using hj
  · intro w' ho hg
    exact h w' ho (grown_of_alloc hg)

theorem grownBy_trans {w1 w2 w3 : World} {row : Option Nat} (h1 : w1.grownBy w2 row) (h2 : w2.grownBy w3 row) : w1.grownBy w3 row :=
  ⟨h2.os.trans h1.os, h2.tape.trans h1.tape, h2.output.trans h1.output, Nat.le_trans h1.size h2.size, fun k hk hr => (h2.block k (Nat.lt_of_lt_of_le hk h1.size) hr).trans (h1.block k hk hr)⟩
theorem grownBy_drew (w : World) (row : Option Nat) : w.grownBy w.drew row := ⟨rfl, rfl, rfl, Nat.le_refl _, fun _ _ _ => rfl⟩
theorem grownBy_setCell (w : World) (g o : Nat) (v : Value) : w.grownBy (w.setCell ⟨g, o, none⟩ v) (some g) :=
  ⟨rfl, rfl, rfl, by simp [World.setCell], fun k _ hr => Below.heap_setCell _ _ _ _ (fun e => hr (by simp [e]))⟩
theorem below_of_grown {w w' : World} {row : Option Nat} {B : Nat} (h : w.grownBy w' row) (hB : B ≤ w.heap.size) (hr : ∀ k, row = some k → B ≤ k) : Below B w w' :=
  (Below.refl B w).grown h hB hr
end
end Go.Fd
