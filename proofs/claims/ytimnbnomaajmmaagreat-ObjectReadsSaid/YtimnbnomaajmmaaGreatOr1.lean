/-
  Part 1 of 8: laws and walks for objectReads_holds; no condition of its own.
-/
import Derived.WalkKit
import Derived.WalkSpells
import Derived.WalkLawsBesides
import Derived.Lib.Hide
import Derived.Laws.AppendOwnNone
import Derived.Test.YtimnbnomaajmmaaGreatProg
import Derived.BigQuiet
import Derived.Deep.QuietTactic
import Derived.Lib.AppendStr
import Derived.Orders
import Derived.Lib.BytesEntry
import Derived.Shelf.Small.Strs
import Derived.Shelf.Strings.Search1
import Derived.Shelf.Strings.Search2
import Derived.Shelf.Strings.Search3
import Derived.Shelf.LaysM
import Derived.Shelf.Strings.Shaped
import Derived.Shelf.Strings.Prefix
import Derived.Shelf.Bytes.SlIndexAt
import Derived.Shelf.Bytes.SlSearch0
import Derived.Shelf.Bytes.SlEqualAll
import Derived.Shelf.Bytes.Small
import Derived.Shelf.Bytes.IndexByte
import Derived.Lib.IndexAny
import Derived.Maps.RangeWalk
import Derived.Maps.OwnSet
import Derived.Maps.OwnOps
import Derived.Lib.IndexLaws
import Derived.Lib.IndexBytes
import Derived.Laws.BitsAllLaws
import Derived.Deep.WholeRow
import Derived.Deep.RegionWith
import Derived.Lib.ConvBytes
import Derived.ArgAppend
import Derived.Deep.DeepCutAuto
namespace Go.Fd
open Go.RowKit
/-- The slice value v has n elements of 'size' cells each, and its cells in w are xs. -/
def Reads (w : World) (size : Nat) (v : Value) (n : Nat) (xs : List Value) : Prop :=
  xs.length = n * size ∧ ∃ a cap, v = .slice a n cap ∧ n ≤ cap ∧ (a = none → cap = 0) ∧ ∀ j, j < xs.length → ∃ b off, a = some ⟨b, off, none⟩ ∧ w.cell? ⟨b, off + j, none⟩ = xs[j]?
/-- What is needed of a slice type. -/
structure SliceT (P : Program) (t e size bytes : Nat) : Prop where
  ht : P.underlying t = some (.slice e)
  pos : 0 < size
  info : ∃ i z, P.info? e = some i ∧ i.zero = some z ∧ i.size = size ∧ i.bytes = bytes ∧ z.cells.size = size
theorem SliceT.mk' {P : Program} {t e size bytes : Nat} {z : Value} (ht : P.underlying t = some (.slice e)) (hi : (P.info? e).map (fun i => (i.zero, i.size, i.bytes)) = some (some z, size, bytes))
    (hz : z.cells.size = size) (hp : 0 < size) : SliceT P t e size bytes := by
  obtain ⟨i, h1, h2, h3, h4⟩ := info_parts hi
  exact ⟨ht, hp, i, z, h1, h2, h3, h4, hz⟩
theorem block_lt {w : World} {b o : Nat} {v : Value} (h : w.cell? ⟨b, o, none⟩ = some v) : b < w.heap.size := World.block_lt_of_cell? w ⟨b, o, none⟩ h
theorem Reads.mono {w w' : World} {size n : Nat} {v : Value} {xs : List Value} (h : Reads w size v n xs) (hb : Below w.heap.size w w') : Reads w' size v n xs := by
  obtain ⟨h1, a, cap, h2, h3, h0, h4⟩ := h
  refine ⟨h1, a, cap, h2, h3, h0, fun j hj => ?_⟩
  obtain ⟨b, off, e1, e2⟩ := h4 j hj
  refine ⟨b, off, e1, ?_⟩
  rw [hb.cell (p := ⟨b, off + j, none⟩) (block_lt (e2.trans (List.getElem?_eq_getElem hj)))]
  exact e2
theorem Reads.shape {w : World} {size n : Nat} {v : Value} {xs : List Value} (h : Reads w size v n xs) : ∃ m a cap, Hid (m = n) ∧ v = .slice a m cap ∧ m ≤ cap ∧ (a = none → cap = 0) := by
  obtain ⟨h1, a, cap, h2, h3, h0, h4⟩ := h
  exact ⟨n, a, cap, rfl, h2, h3, h0⟩
theorem Reads.of_owns {w : World} {base e size n : Nat} {v : Value} {xs : List Value} (h : w.ownsRow base e size v n xs) : Reads w size v n xs := by
  refine ⟨h.1, ?_⟩
  rcases h.2 with ⟨rfl, rfl⟩ | ⟨g, cap, cur, rfl, hb, hg, hn, hc, hs, ht⟩
  · exact ⟨none, 0, rfl, Nat.le_refl _, fun _ => rfl, fun j hj => by rw [h.1] at hj; simp at hj⟩
  · refine ⟨_, cap, rfl, hn, (fun h => by cases h), fun j hj => ⟨g, 0, rfl, ?_⟩⟩
    have := h.cellAt (g := g) (cap := cap) j (by rw [← h.1]; exact hj)
    rw [Nat.zero_add]; exact this
theorem Reads.nil (w : World) (size : Nat) : Reads w size (.slice none 0 0) 0 [] := ⟨by simp, none, 0, rfl, Nat.le_refl _, fun _ => rfl, fun j hj => by simp at hj⟩
/-- What is owned stays owned where nothing that was there has turned. -/
theorem owns_mono {w w' : World} {base e size n : Nat} {v : Value} {xs : List Value} (h : w.ownsRow base e size v n xs) (hb : Below w.heap.size w w') : w'.ownsRow base e size v n xs := by
  refine ⟨h.1, ?_⟩
  rcases h.2 with h2 | ⟨g, cap, cur, hv, hg, hh, r⟩
  · exact .inl h2
  · exact .inr ⟨g, cap, cur, hv, hg, by rw [hb.block g (Array.getElem?_eq_some_iff.1 hh).1]; exact hh, r⟩
theorem owns_base {w : World} {base base' e size n : Nat} {v : Value} {xs : List Value} (h : w.ownsRow base e size v n xs) (hb : base' ≤ base) : w.ownsRow base' e size v n xs := by
  refine ⟨h.1, ?_⟩
  rcases h.2 with h2 | ⟨g, cap, cur, hv, hg, r⟩
  · exact .inl h2
  · exact .inr ⟨g, cap, cur, hv, Nat.le_trans hb hg, r⟩
/-- An owned slice's growth leaves all below its base alone. -/
theorem owns_below {w w' : World} {base e size n : Nat} {v : Value} {xs : List Value} (h : w.ownsRow base e size v n xs) (hg : w.grownBy w' v.ownBlock) (hb : base ≤ w.heap.size) : Below base w w' :=
  (Below.refl base w).grown hg hb fun k hk => (h.lt k hk).1
theorem below_alloc (w : World) (o : Obj) : Below w.heap.size w (w.alloc o) := (Below.refl _ _).alloc (Nat.le_refl _) o
theorem grown_of_alloc {w w' : World} {o : Obj} {row : Option Nat} (hg : (w.alloc o).grownBy w' row) : w.grownBy w' row :=
  ⟨hg.os, hg.tape, hg.output, Nat.le_trans (by simp) hg.size, fun k hk hr => (hg.block k (by simp; omega) hr).trans (Below.heap_alloc w o k hk)⟩
theorem maxLen_of {n : Nat} (h : n ≤ 140737488355328) : n ≤ maxLen := by unfold maxLen; omega
section
variable {P : Program} {ops : Array Oper} {rest : List Oper} {Q : Exit → Act → World → Prop} {a : Act} {w : World}
theorem oneCell_list {xs : List Value} (h : xs.all (·.oneCell') = true) : ∀ u ∈ xs, u.oneCell' = true := by simpa using h
/-- 'v = append(v, x)': one element, out of the new block that holds it. -/
theorem wpList_push {t e size bytes : Nat} (T : SliceT P t e size bytes) {d : Option Tmp} {ty : TypeId} {pos : String} {aft : Array Edge} {s x : Operand} {v : Value} {n base : Nat} {xs : List Value} (hown : w.ownsRow base e size v n xs)
    (hs : a.eval s = v) (hx : a.eval x = .slice (some ⟨w.heap.size, 0, none⟩) 1 1) {cs : Array Value} (hcs : cs.size = size) (h1 : cs.toList.all (·.oneCell') = true)
    (hn : (n + 1) * bytes ≤ 140737488355328) (hm : n + 1 ≤ 140737488355328) (hb : base ≤ w.heap.size)
    (h : ∀ v' w', w'.ownsRow base e size v' (n + 1) (xs ++ cs.toList) → w.grownBy w' v.ownBlock → Below base w w' → wpList P ops Q rest (a.put d v') w') :
    wpList P ops Q (⟨d, .call { callee := .builtin .append, args := #[s, x], argTypes := #[t, t] }, ty, pos, aft, none⟩ :: rest) a (w.alloc (.cells cs e)) := by
  obtain ⟨i, z, h1', h2, h3, h4, h5⟩ := T.info
  refine wpList_append_own _ rfl s x t rfl base e i z size bytes T.ht h1' h2 h3 h4 h5 T.pos v n xs hs (hown.alloc _) ⟨w.heap.size, 0, none⟩ 1 1 cs.toList hx (by simp [hcs]) ?_ (oneCell_list h1) (maxLen_of hm) hn (by simp; omega) ?_
  · intro j u hj
    have e1 : (⟨w.heap.size, 0, none⟩ : Addr).add j = ⟨w.heap.size, j, none⟩ := by unfold Addr.add; split <;> simp_all
    rw [e1]
    simp only [World.cell?]
    rw [show (w.alloc (.cells cs e)).heap[w.heap.size]? = some (.cells cs e) from heap_alloc_new w _]
    simpa using hj
  · intro v' w' ho hg _
    exact h v' w' ho (grown_of_alloc hg) (owns_below hown (grown_of_alloc hg) hb)
/-- 'v = append(v, x...)': whatever slice x is. -/
theorem wpList_cat {t e size bytes : Nat} (T : SliceT P t e size bytes) {d : Option Tmp} {ty : TypeId} {pos : String} {aft : Array Edge} {s x : Operand} {v : Value} {n base : Nat} {xs : List Value} (hown : w.ownsRow base e size v n xs)
    {u : Value} {m : Nat} {ys : List Value} (hy : Reads w size u m ys) (hs : a.eval s = v) (hx : a.eval x = u) (h1 : ys.all (·.oneCell') = true)
    (hn : (n + m) * bytes ≤ 140737488355328) (hm : n + m ≤ 140737488355328) (hb : base ≤ w.heap.size)
    (h : ∀ v' w', w'.ownsRow base e size v' (n + m) (xs ++ ys) → w.grownBy w' v.ownBlock → Below base w w' → wpList P ops Q rest (a.put d v') w') :
    wpList P ops Q (⟨d, .call { callee := .builtin .append, args := #[s, x], argTypes := #[t, t] }, ty, pos, aft, none⟩ :: rest) a w := by
  obtain ⟨i, z, h1', h2, h3, h4, h5⟩ := T.info
  obtain ⟨hl, au, cap, rfl, hcap, h00, hc⟩ := hy
  rcases au with _ | ad
  · have hm0 : m * size = 0 := by
      rcases Nat.eq_zero_or_pos (m * size) with h0 | h0
      · exact h0
      · obtain ⟨b, off, h', _⟩ := hc 0 (by omega); cases h'
    have hys : ys = [] := List.eq_nil_of_length_eq_zero (by omega)
    subst hys
    have hm0' : m = 0 := by
      have := T.pos
      rcases Nat.mul_eq_zero.1 hm0 with h | h <;> omega
    subst hm0'
    obtain rfl := h00 rfl
    refine wpList_append_own_none rfl s x t rfl base e i size T.ht h1' v n xs hs hown hx ?_
    simpa using h v w (by simpa using hown) (World.grownBy.refl _ _) (Below.refl _ _)
  · refine wpList_append_own _ rfl s x t rfl base e i z size bytes T.ht h1' h2 h3 h4 h5 T.pos v n xs hs hown ad m cap ys hx hl ?_ (oneCell_list h1) (maxLen_of hm) hn hb ?_
    · intro j y hj
      have hlt : j < ys.length := (List.getElem?_eq_some_iff.1 hj).1
      obtain ⟨b, off, e1, e2⟩ := hc j hlt
      cases e1
      have e3 : (⟨b, off, none⟩ : Addr).add j = ⟨b, off + j, none⟩ := by unfold Addr.add; split <;> simp_all
      rw [e3, e2, hj]
    · intro v' w' ho hg _
      exact h v' w' ho hg (owns_below hown hg hb)
theorem wpList_val {o : Oper} {v : Value} {w' : World} (hg : Region.wanted o (yielded ops a.tmps) = true) (hr : (execOp a.eval o).run P w = .ok (.value v) w') (h : wpList P ops Q rest (a.put o.dst v) w') :
    wpList P ops Q (o :: rest) a w := by
  unfold wpList
  rw [if_pos hg]
  refine .inl ?_
  unfold Oper.wp Oper.upon
  rw [hr]
  exact h
theorem wpList_did {o : Oper} {w' : World} (hg : Region.wanted o (yielded ops a.tmps) = true) (hr : (execOp a.eval o).run P w = .ok .skip w') (h : wpList P ops Q rest (a.put o.dst undef) w') :
    wpList P ops Q (o :: rest) a w := by
  unfold wpList
  rw [if_pos hg]
  refine .inl ?_
  unfold Oper.wp Oper.upon
  rw [hr]
  exact h
theorem run_sliceBound' (k : IntKind) (i : Int) (y : Nat) (code : BoundsCode) (h0 : 0 ≤ i) (h1 : i ≤ y) : (Instr.sliceBound (.int k i) y code).run P w = .ok i.toNat w := by
  simp [Instr.sliceBound, asIntOf, h0, h1]
/-- Where a slice's part begins. -/
def partAt (a : Option Addr) (size cap l : Nat) : Option Addr := if cap = l then a else a.map (·.add (l * size))
theorem Reads.part {size n : Nat} {a : Option Addr} {cap : Nat} {xs : List Value} (hl : xs.length = n * size) (hn : n ≤ cap) (h00 : a = none → cap = 0)
    (hc : ∀ j, j < xs.length → ∃ b off, a = some ⟨b, off, none⟩ ∧ w.cell? ⟨b, off + j, none⟩ = xs[j]?) (i j : Nat) (hij : i ≤ j) (hj : j ≤ n) :
    Reads w size (.slice (partAt a size cap i) (j - i) (cap - i)) (j - i) ((xs.drop (i * size)).take ((j - i) * size)) := by
  have hle : i * size + (j - i) * size ≤ n * size := by rw [← Nat.add_mul]; exact Nat.mul_le_mul_right _ (by omega)
  refine ⟨by rw [List.length_take, List.length_drop, hl]; omega, _, _, rfl, by omega, ?_, ?_⟩
  · intro h
    unfold partAt at h
    split at h
    · omega
    · cases a with
      | none => have := h00 rfl; omega
      | some x => simp at h
  · intro t ht
    rw [List.length_take, List.length_drop, hl] at ht
    obtain ⟨b, off, e1, e2⟩ := hc (i * size + t) (by omega)
    subst e1
    have hne : cap ≠ i := by
      intro e
      have : j - i = 0 := by omega
      rw [this] at ht
      omega
    refine ⟨b, off + i * size, ?_, ?_⟩
    · unfold partAt
      rw [if_neg hne]
      simp only [Option.map_some, Addr.add]
      split
      · next h => rw [h]; rfl
      · rfl
    · rw [Nat.add_assoc, e2, List.getElem?_take, if_pos (by omega), List.getElem?_drop]
/-- 'x[i:j]' of a slice. -/
theorem run_sliceAt {t e size bytes : Nat} (T : SliceT P t e size bytes) {v : Value} {n : Nat} {xs : List Value} (hv : Reads w size v n xs) {i j : Int} {k k' : IntKind} (h0 : 0 ≤ i) (h1 : i ≤ j) (h2 : j ≤ n) :
    ∃ v', (∀ w', (Instr.sliceAt t v (some (.int k i)) (some (.int k' j)) none).run P w' = .ok v' w') ∧ Reads w size v' (j - i).toNat ((xs.drop (i.toNat * size)).take ((j - i).toNat * size)) := by
  obtain ⟨hl, a, cap, rfl, hcap, h00, hc⟩ := hv
  obtain ⟨ti, z, e1, e2, e3, e4, e5⟩ := T.info
  refine ⟨.slice (partAt a size cap i.toNat) (j - i).toNat (cap - i.toNat), fun w' => ?_, ?_⟩
  · have r1 : (Instr.sliceBound (.int k' j) cap .sliceAcap).run P w' = .ok j.toNat w' := run_sliceBound' _ _ _ _ (by omega) (by omega)
    have r2 : (Instr.sliceBound (.int k i) j.toNat .sliceB).run P w' = .ok i.toNat w' := run_sliceBound' _ _ _ _ (by omega) (by omega)
    have e6 : j.toNat - i.toNat = (j - i).toNat := by omega
    simp [Instr.sliceAt, Instr.slice, run_underlying T.ht, Instr.sliceBounds, r1, r2, sizeOf, typeInfo, e1, e3, partAt, e6]
  · have := Reads.part hl hcap h00 hc i.toNat j.toNat (by omega) (by omega)
    rw [show j.toNat - i.toNat = (j - i).toNat by omega] at this
    exact this
theorem run_sliceFrom {t e size bytes : Nat} (T : SliceT P t e size bytes) {v : Value} {n : Nat} {xs : List Value} (hv : Reads w size v n xs) {i : Int} {k : IntKind} (h0 : 0 ≤ i) (h1 : i ≤ n) :
    ∃ v', (∀ w', (Instr.sliceAt t v (some (.int k i)) none none).run P w' = .ok v' w') ∧ Reads w size v' (n - i).toNat (xs.drop (i.toNat * size)) := by
  obtain ⟨hl, a, cap, rfl, hcap, h00, hc⟩ := hv
  obtain ⟨ti, z, e1, e2, e3, e4, e5⟩ := T.info
  refine ⟨.slice (partAt a size cap i.toNat) (n - i).toNat (cap - i.toNat), fun w' => ?_, ?_⟩
  · have r2 : (Instr.sliceBound (.int k i) n .sliceB).run P w' = .ok i.toNat w' := run_sliceBound' _ _ _ _ (by omega) (by omega)
    have e6 : n - i.toNat = ((n : Int) - i).toNat := by omega
    simp [Instr.sliceAt, Instr.slice, run_underlying T.ht, Instr.sliceBounds, r2, sizeOf, typeInfo, e1, e3, partAt, e6]
  · have h := Reads.part hl hcap h00 hc i.toNat n (by omega) (Nat.le_refl _)
    rw [show n - i.toNat = ((n : Int) - i).toNat by omega, List.take_of_length_le (by rw [List.length_drop, hl, ← Nat.sub_mul]; exact Nat.mul_le_mul_right _ (by omega))] at h
    exact h
theorem run_sliceTo {t e size bytes : Nat} (T : SliceT P t e size bytes) {v : Value} {n : Nat} {xs : List Value} (hv : Reads w size v n xs) {j : Int} {k : IntKind} (h0 : 0 ≤ j) (h1 : j ≤ n) :
    ∃ v', (∀ w', (Instr.sliceAt t v none (some (.int k j)) none).run P w' = .ok v' w') ∧ Reads w size v' j.toNat (xs.take (j.toNat * size)) := by
  obtain ⟨hl, a, cap, rfl, hcap, h00, hc⟩ := hv
  obtain ⟨ti, z, e1, e2, e3, e4, e5⟩ := T.info
  refine ⟨.slice (partAt a size cap 0) j.toNat cap, fun w' => ?_, ?_⟩
  · have r1 : (Instr.sliceBound (.int k j) cap .sliceAcap).run P w' = .ok j.toNat w' := run_sliceBound' _ _ _ _ (by omega) (by omega)
    simp [Instr.sliceAt, Instr.slice, run_underlying T.ht, Instr.sliceBounds, r1, sizeOf, typeInfo, e1, partAt]
  · have h := Reads.part hl hcap h00 hc 0 j.toNat (by omega) (by omega)
    simpa using h
theorem exec_slice2 {v v' i j : Value} {d : Option Tmp} {t ty : TypeId} {pos : String} {aft : Array Edge} {g : Option (Nat × Bool)} {x lo hi : Operand} (hr : ∀ w', (Instr.sliceAt t v (some i) (some j) none).run P w' = .ok v' w')
    (hx : a.eval x = v) (hlo : a.eval lo = i) (hhi : a.eval hi = j) : (execOp a.eval ⟨d, .slice t x (some lo) (some hi) none, ty, pos, aft, g⟩).run P w = .ok (.value v') w := by
  simp [execOp, hx, hlo, hhi, hr]
theorem exec_sliceFrom {v v' i : Value} {d : Option Tmp} {t ty : TypeId} {pos : String} {aft : Array Edge} {g : Option (Nat × Bool)} {x lo : Operand} (hr : ∀ w', (Instr.sliceAt t v (some i) none none).run P w' = .ok v' w')
    (hx : a.eval x = v) (hlo : a.eval lo = i) : (execOp a.eval ⟨d, .slice t x (some lo) none none, ty, pos, aft, g⟩).run P w = .ok (.value v') w := by
  simp [execOp, hx, hlo, hr]
theorem exec_sliceTo {v v' j : Value} {d : Option Tmp} {t ty : TypeId} {pos : String} {aft : Array Edge} {g : Option (Nat × Bool)} {x hi : Operand} (hr : ∀ w', (Instr.sliceAt t v none (some j) none).run P w' = .ok v' w')
    (hx : a.eval x = v) (hhi : a.eval hi = j) : (execOp a.eval ⟨d, .slice t x none (some hi) none, ty, pos, aft, g⟩).run P w = .ok (.value v') w := by
  simp [execOp, hx, hhi, hr]
theorem below_grown {w w' : World} (hg : w.grownBy w' none) : Below w.heap.size w w' := ⟨hg.os, hg.tape, hg.output, hg.size, fun k hk => hg.block k hk (by simp)⟩
/-- 'make([]T, n)'. -/
theorem wpList_makeN {t e size bytes : Nat} (T : SliceT P t e size bytes) {z : Value} (hz : ∀ i, P.info? e = some i → i.zero = some z) {d : Option Tmp} {ty : TypeId} {pos : String} {aft : Array Edge} {x y : Operand} (n : Nat) {k k' : IntKind} {l c : Int} (hl : a.eval x = .int k l) (hc : a.eval y = .int k' c) (hn' : l = n) (hn : c = n)
    (hb : bytes * n ≤ 281474976710656) (hm : n ≤ 140737488355328)
    (h : ∀ v' w', w'.ownsRow w.heap.size e size v' n (madeCells z.cells (n * size)).toList → Below w.heap.size w w' → wpList P ops Q rest (a.put d v') w') :
    wpList P ops Q (⟨d, .makeSlice t x y, ty, pos, aft, none⟩ :: rest) a w := by
  obtain ⟨i, z', h1, h2, h3, h4, h5⟩ := T.info
  obtain rfl : z' = z := by have := hz i h1; rw [h2] at this; exact Option.some.inj this
  exact wpList_make_full w rfl x y t rfl w.heap.size e i z' size T.ht h1 h2 h3 k k' l c n hl hc hn' hn (by rw [h4]; exact hb) (maxLen_of hm) (Nat.le_refl _) fun w' r1 r2 => h _ _ r1 (below_grown r2)
/-- 'v = append(v, x)' where there is room: v stays where it is. -/
theorem wpList_pushFits {t e size bytes : Nat} (T : SliceT P t e size bytes) {d : Option Tmp} {ty : TypeId} {pos : String} {aft : Array Edge} {s x : Operand} {g k cap base : Nat} {xs : List Value} (hown : w.ownsRow base e size (.slice (some ⟨g, 0, none⟩) k cap) k xs)
    (hs : a.eval s = .slice (some ⟨g, 0, none⟩) k cap) (hx : a.eval x = .slice (some ⟨w.heap.size, 0, none⟩) 1 1) {cs : Array Value} (hcs : cs.size = size) (h1 : cs.toList.all (·.oneCell') = true) (hk : k < cap)
    (h : ∀ w', w'.ownsRow base e size (.slice (some ⟨g, 0, none⟩) (k + 1) cap) (k + 1) (xs ++ cs.toList) → w.grownBy w' (some g) → wpList P ops Q rest (a.put d (.slice (some ⟨g, 0, none⟩) (k + 1) cap)) w') :
    wpList P ops Q (⟨d, .call { callee := .builtin .append, args := #[s, x], argTypes := #[t, t] }, ty, pos, aft, none⟩ :: rest) a (w.alloc (.cells cs e)) := by
  obtain ⟨i, z, h1', h2, h3, h4, h5⟩ := T.info
  refine wpList_append_fits _ rfl s x t rfl base e i size T.ht h1' h3 g k cap xs hs (hown.alloc _) ⟨w.heap.size, 0, none⟩ 1 1 cs.toList hx (by simp [hcs]) ?_ (oneCell_list h1) hk ?_
  · intro j u hj
    have e1 : (⟨w.heap.size, 0, none⟩ : Addr).add j = ⟨w.heap.size, j, none⟩ := by unfold Addr.add; split <;> simp_all
    rw [e1]
    simp only [World.cell?]
    rw [show (w.alloc (.cells cs e)).heap[w.heap.size]? = some (.cells cs e) from heap_alloc_new w _]
    simpa using hj
  · intro w' ho hg
    exact h w' ho (grown_of_alloc hg)
theorem grownBy_trans {w1 w2 w3 : World} {row : Option Nat} (h1 : w1.grownBy w2 row) (h2 : w2.grownBy w3 row) : w1.grownBy w3 row :=
  ⟨h2.os.trans h1.os, h2.tape.trans h1.tape, h2.output.trans h1.output, Nat.le_trans h1.size h2.size, fun k hk hr => (h2.block k (Nat.lt_of_lt_of_le hk h1.size) hr).trans (h1.block k hk hr)⟩
theorem grownBy_setCell (w : World) (g o : Nat) (v : Value) : w.grownBy (w.setCell ⟨g, o, none⟩ v) (some g) :=
  ⟨rfl, rfl, rfl, by simp [World.setCell], fun k _ hr => Below.heap_setCell _ _ _ _ (fun e => hr (by simp [e]))⟩
theorem below_of_grown {w w' : World} {row : Option Nat} {B : Nat} (h : w.grownBy w' row) (hB : B ≤ w.heap.size) (hr : ∀ k, row = some k → B ≤ k) : Below B w w' :=
  (Below.refl B w).grown h hB hr
end
end Go.Fd
namespace Go.Proofs.YtimnbnomaajmmaaGreat
open Go.RowKit Go.Fd
/-- A byte as the model holds it. -/
abbrev B (c : UInt8) : Value := .int .u8 (c.toNat : Int)
/-- v reads as the bytes l. -/
def Bs (w : World) (v : Value) (l : List UInt8) : Prop := Reads w 1 v l.length (l.map B)
/-- v owns the bytes l, in a block from 'base' on. -/
def OB (w : World) (base : Nat) (v : Value) (l : List UInt8) : Prop := w.ownsRow base 5 1 v l.length (l.map B)
theorem TB : SliceT Tryz.prog 22 5 1 1 := SliceT.mk' (z := .int .u8 0) (by kernel_rfl) (by kernel_rfl) rfl (by omega)
theorem OB.bs {w : World} {base : Nat} {v : Value} {l : List UInt8} (h : OB w base v l) : Bs w v l := Reads.of_owns h
theorem OB.nil (w : World) (base : Nat) : OB w base (.slice none 0 0) [] := World.ownsRow_nil _ _ _ _
theorem Bs.nil (w : World) : Bs w (.slice none 0 0) [] := Reads.nil w 1
theorem Bs.mono {w w' : World} {v : Value} {l : List UInt8} (h : Bs w v l) (hb : Below w.heap.size w w') : Bs w' v l := Reads.mono h hb
theorem OB.mono {w w' : World} {base : Nat} {v : Value} {l : List UInt8} (h : OB w base v l) (hb : Below w.heap.size w w') : OB w' base v l := owns_mono h hb
theorem OB.base {w : World} {base base' : Nat} {v : Value} {l : List UInt8} (h : OB w base v l) (hb : base' ≤ base) : OB w base' v l := owns_base h hb
/-- A byte slice, opened for a walk. -/
theorem Bs.open {w : World} {v : Value} {l : List UInt8} (h : Bs w v l) : ∃ a cap, v = .slice a l.length cap ∧ l.length ≤ cap ∧ (a = none → cap = 0) ∧
    ∀ i, i < l.length → ∃ b off, a = some ⟨b, off, none⟩ ∧ w.cell? ⟨b, off + i, none⟩ = some (.int .u8 (l[i]?.getD 0).toNat) := by
  obtain ⟨h1, a, cap, h2, h3, h0, h4⟩ := h
  refine ⟨a, cap, h2, h3, h0, fun i hi => ?_⟩
  obtain ⟨b, off, e1, e2⟩ := h4 i (by simpa using hi)
  refine ⟨b, off, e1, e2.trans ?_⟩
  simp [List.getElem?_map, List.getElem?_eq_getElem hi]
theorem OB.open {w : World} {base : Nat} {v : Value} {l : List UInt8} (h : OB w base v l) (hl : 0 < l.length) : ∃ g cap, v = .slice (some ⟨g, 0, none⟩) l.length cap ∧ base ≤ g ∧ g < w.heap.size ∧ l.length ≤ cap ∧
    (∀ i, i < l.length → w.cell? ⟨g, i, none⟩ = some (.int .u8 (l[i]?.getD 0).toNat)) ∧ (∀ i, w.frozen? ⟨g, i, none⟩ = false) := by
  obtain ⟨h1, h2⟩ := id h
  rcases h2 with ⟨rfl, h0⟩ | ⟨g, cap, cur, rfl, hb, hg, hn, hc, hs, ht⟩
  · omega
  · refine ⟨g, cap, rfl, hb, (Array.getElem?_eq_some_iff.1 hg).1, hn, fun i hi => ?_, fun i => ?_⟩
    · rw [World.ownsRow.cellAt h i (by simpa using hi)]
      simp [List.getElem?_map, List.getElem?_eq_getElem hi]
    · exact World.ownsRow.frozenAt h i
theorem OB.stored {w : World} {base g cap : Nat} {l : List UInt8} (h : OB w base (.slice (some ⟨g, 0, none⟩) l.length cap) l) (j : Nat) (c : UInt8) :
    OB (w.setCell ⟨g, j, none⟩ (.int .u8 c.toNat)) base (.slice (some ⟨g, 0, none⟩) l.length cap) (l.set j c) := by
  have := (World.ownsRow.stored h j (B c)).1
  unfold OB
  rw [List.length_set, List.map_set]
  exact this
theorem Bs.shape {w : World} {v : Value} {l : List UInt8} (h : Bs w v l) : ∃ m a cap, Hid (m = l.length) ∧ v = .slice a m cap ∧ m ≤ cap ∧ (a = none → cap = 0) := Reads.shape h
theorem OB.shape {w : World} {base : Nat} {v : Value} {l : List UInt8} (h : OB w base v l) : ∃ m a cap, Hid (m = l.length) ∧ v = .slice a m cap ∧ m ≤ cap ∧ (a = none → cap = 0) := h.bs.shape
def lenV : Value → Nat
  | .slice _ n _ => n
  | _ => 0
/-- A string as the model holds it. -/
abbrev S (l : List UInt8) : Value := .string ⟨l.toArray⟩
theorem wrapEq (x : Int) : IntKind.i64.wrap x = wrap64 x := by rw [IntKind.wrap_i64, wrap64]
theorem take_snoc' {α : Type} (g : List α) (i : Nat) (d : α) (h : g[i]? = some d) : g.take (i + 1) = g.take i ++ [d] := by
  obtain ⟨h1, h2⟩ := List.getElem?_eq_some_iff.1 h
  rw [List.take_succ_eq_append_getElem h1, h2]
theorem u8_of (x : Nat) : (UInt8.ofNat x).toNat = x % 256 := by simp
section
variable {ops : Array Oper} {rest : List Oper} {Q : Exit → Act → World → Prop} {a : Act} {w : World}
theorem wpList_pushB {d : Option Tmp} {ty : TypeId} {pos : String} {aft : Array Edge} {s x : Operand} {v : Value} {base : Nat} {l : List UInt8} (hown : OB w base v l)
    (hs : a.eval s = v) (hx : a.eval x = .slice (some ⟨w.heap.size, 0, none⟩) 1 1) {k : Int} (c : UInt8) (hc : k = c.toNat) (hn : l.length + 1 ≤ 140737488355328) (hb : base ≤ w.heap.size)
    (h : ∀ v' w', OB w' base v' (l ++ [c]) → w.grownBy w' v.ownBlock → Below base w w' → wpList Tryz.prog ops Q rest (a.put d v') w') :
    wpList Tryz.prog ops Q (⟨d, .call { callee := .builtin .append, args := #[s, x], argTypes := #[22, 22] }, ty, pos, aft, none⟩ :: rest) a (w.alloc (.cells #[.int .u8 k] 5)) := by
  refine wpList_push TB hown hs hx rfl rfl (by omega) hn hb fun v' w' h1 h2 h3 => h v' w' ?_ h2 h3
  unfold OB
  rw [List.length_append, List.map_append]
  subst hc
  exact h1
theorem allB (l : List UInt8) : (l.map B).all (·.oneCell') = true := by
  rw [List.all_eq_true]
  intro x hx
  obtain ⟨c, _, rfl⟩ := List.mem_map.1 hx
  rfl
theorem wpList_catB {d : Option Tmp} {ty : TypeId} {pos : String} {aft : Array Edge} {s x : Operand} {v u : Value} {base : Nat} {l m : List UInt8} (hown : OB w base v l) (hy : Bs w u m)
    (hs : a.eval s = v) (hx : a.eval x = u) (hn : l.length + m.length ≤ 140737488355328) (hb : base ≤ w.heap.size)
    (h : ∀ v' w', OB w' base v' (l ++ m) → w.grownBy w' v.ownBlock → Below base w w' → wpList Tryz.prog ops Q rest (a.put d v') w') :
    wpList Tryz.prog ops Q (⟨d, .call { callee := .builtin .append, args := #[s, x], argTypes := #[22, 22] }, ty, pos, aft, none⟩ :: rest) a w := by
  refine wpList_cat TB hown hy hs hx (allB _) (by omega) hn hb fun v' w' h1 h2 h3 => h v' w' ?_ h2 h3
  unfold OB
  rw [List.length_append, List.map_append]
  exact h1
theorem made_zeros (n : Nat) : (madeCells (Value.int .u8 0).cells (n * 1)).toList = (List.replicate n (0 : UInt8)).map B := by
  rw [Nat.mul_one]
  apply List.ext_getElem?
  intro i
  by_cases h : i < n
  · simp [madeCells, Value.cells, h, Nat.mod_one]
  · simp [madeCells, h]
/-- 'make([]byte, n)'. -/
theorem wpList_makeB {d : Option Tmp} {ty : TypeId} {pos : String} {aft : Array Edge} {x y : Operand} (n : Nat) {k k' : IntKind} {l c : Int} (hl : a.eval x = .int k l) (hc : a.eval y = .int k' c) (hn' : l = n) (hn : c = n) (hm : n ≤ 140737488355328)
    (h : ∀ v' w', OB w' w.heap.size v' (List.replicate n 0) → Below w.heap.size w w' → wpList Tryz.prog ops Q rest (a.put d v') w') :
    wpList Tryz.prog ops Q (⟨d, .makeSlice 22 x y, ty, pos, aft, none⟩ :: rest) a w := by
  refine wpList_makeN TB (z := .int .u8 0) (fun i hi => ?_) n hl hc hn' hn (by omega) hm fun v' w' h1 h2 => h v' w' ?_ h2
  · have := info_parts (P := Tryz.prog) (e := 5) (z := .int .u8 0) (size := 1) (bytes := 1) (by kernel_rfl)
    obtain ⟨i', h1, h2, _⟩ := this
    rw [hi] at h1
    cases h1
    exact h2
  · unfold OB
    rw [made_zeros] at h1
    rw [List.length_replicate]
    exact h1
theorem foldl_push (l : List UInt8) (s : ByteArray) : (l.map fun c => (c.toNat : Int)).foldl (fun (r : ByteArray) (n : Int) => r.push (UInt8.ofNat n.toNat)) s = ⟨s.data ++ l.toArray⟩ := by
  induction l generalizing s with
  | nil => simp
  | cons c l ih =>
    rw [List.map_cons, List.foldl_cons, ih]
    have : (s.push (UInt8.ofNat ((c.toNat : Int)).toNat)).data = s.data.push c := by simp [ByteArray.push]
    rw [this]
    simp [List.push_append_toArray]
/-- 'string(b)'. -/
theorem run_str {v : Value} {l : List UInt8} (hv : Bs w v l) : (convert 22 9 v).run Tryz.prog w = .ok (.string ⟨l.toArray⟩) w := by
  obtain ⟨h1, a, cap, rfl, h3, h0, h4⟩ := hv
  rw [run_convert_bytes_string w 22 9 5 a l.length cap (by kernel_rfl) (by kernel_rfl) (by kernel_rfl)]
  cases a with
  | none =>
    have hl : l = [] := by
      cases l with
      | nil => rfl
      | cons c l => obtain ⟨b, off, h, _⟩ := h4 0 (by simp); cases h
    subst hl
    rfl
  | some ad =>
    rw [run_bytesToString w ad l.length cap (l.map fun c => (c.toNat : Int))]
    · rw [foldl_push]; simp
    · have h := run_loadCells_list (P := Tryz.prog) (w := w) ad (l.map B) (fun j v hj => by
        obtain ⟨b, off, e1, e2⟩ := h4 j (List.getElem?_eq_some_iff.1 hj).1
        cases e1
        have e3 : (⟨b, off, none⟩ : Addr).add j = ⟨b, off + j, none⟩ := by unfold Addr.add; split <;> simp_all
        rw [e3, e2, hj])
      rw [List.length_map] at h
      rw [h]
      simp [B]
theorem run_sliceB {v : Value} {l : List UInt8} (hv : Bs w v l) {i j : Int} {k k' : IntKind} (h0 : 0 ≤ i) (h1 : i ≤ j) (h2 : j ≤ l.length) :
    ∃ v', (∀ w', (Instr.sliceAt 22 v (some (.int k i)) (some (.int k' j)) none).run Tryz.prog w' = .ok v' w') ∧ Bs w v' ((l.drop i.toNat).take (j - i).toNat) := by
  obtain ⟨v', h, hr⟩ := run_sliceAt TB hv h0 h1 h2 (k := k) (k' := k')
  refine ⟨v', h, ?_⟩
  unfold Bs
  rw [List.length_take, List.length_drop, List.map_take, List.map_drop, show min (j - i).toNat (l.length - i.toNat) = (j - i).toNat by omega]
  simpa using hr
theorem run_fromB {v : Value} {l : List UInt8} (hv : Bs w v l) {i : Int} {k : IntKind} (h0 : 0 ≤ i) (h1 : i ≤ l.length) :
    ∃ v', (∀ w', (Instr.sliceAt 22 v (some (.int k i)) none none).run Tryz.prog w' = .ok v' w') ∧ Bs w v' (l.drop i.toNat) := by
  obtain ⟨v', h, hr⟩ := run_sliceFrom TB hv h0 h1 (k := k)
  refine ⟨v', h, ?_⟩
  unfold Bs
  rw [List.length_drop, List.map_drop, show l.length - i.toNat = ((l.length : Int) - i).toNat by omega]
  simpa using hr
theorem run_toB {v : Value} {l : List UInt8} (hv : Bs w v l) {j : Int} {k : IntKind} (h0 : 0 ≤ j) (h1 : j ≤ l.length) :
    ∃ v', (∀ w', (Instr.sliceAt 22 v none (some (.int k j)) none).run Tryz.prog w' = .ok v' w') ∧ Bs w v' (l.take j.toNat) := by
  obtain ⟨v', h, hr⟩ := run_sliceTo TB hv h0 h1 (k := k)
  refine ⟨v', h, ?_⟩
  unfold Bs
  rw [List.length_take, List.map_take, show min j.toNat l.length = j.toNat by omega]
  simpa using hr
theorem run_sliceTo_own (g k cap m : Nat) (h : m ≤ cap) (wx : World) : (Instr.sliceAt 22 (.slice (some ⟨g, 0, none⟩) k cap) none (some (.int .i64 m)) none).run Tryz.prog wx = .ok (.slice (some ⟨g, 0, none⟩) m cap) wx := by
  obtain ⟨i, z, h1, h2, h3, h4, h5⟩ := TB.info
  have r1 : (Instr.sliceBound (.int .i64 (m : Int)) cap .sliceAcap).run Tryz.prog wx = .ok m wx := by
    rw [run_sliceBound' _ _ _ _ (by omega) (by omega)]; rfl
  simp [Instr.sliceAt, Instr.slice, run_underlying TB.ht, Instr.sliceBounds, r1, sizeOf, typeInfo, h1, Addr.add]
/-- A literal of bytes. -/
theorem bs_lit (w : World) (l : List UInt8) (cs : Array Value) (n : Nat) (h : cs = (l.map B).toArray) (hn : n = l.length) : Bs (w.alloc (.cells cs 5)) (.slice (some ⟨w.heap.size, 0, none⟩) n n) l := by
  subst h hn
  refine ⟨by simp, _, _, rfl, Nat.le_refl _, (fun h => by cases h), fun j hj => ⟨w.heap.size, 0, rfl, ?_⟩⟩
  rw [Nat.zero_add]
  simp only [World.cell?]
  rw [show (w.alloc (.cells (l.map B).toArray 5)).heap[w.heap.size]? = some (.cells (l.map B).toArray 5) from heap_alloc_new w _]
  simp
/-- .. owned. -/
theorem ob_lit (w : World) (l : List UInt8) (cs : Array Value) (n : Nat) (h : cs = (l.map B).toArray) (hn : n = l.length) (hm : n ≤ 1000000) : OB (w.alloc (.cells cs 5)) w.heap.size (.slice (some ⟨w.heap.size, 0, none⟩) n n) l := by
  subst h hn
  exact ⟨by simp, .inr ⟨w.heap.size, l.length, _, rfl, Nat.le_refl _, heap_alloc_new w _, Nat.le_refl _, by unfold maxLen; omega, by simp, by rw [Nat.mul_one, List.take_of_length_le (by simp)]⟩⟩
end
end Go.Proofs.YtimnbnomaajmmaaGreat
namespace Go.Fd
open Go.RowKit
/-- Of the blocks that were there those alone in S may have turned. -/
structure Stirs (S : Nat → Prop) (w w' : World) : Prop where
  os : w'.os = w.os
  tape : w'.tape = w.tape
  output : w'.output = w.output
  size : w.heap.size ≤ w'.heap.size
  block : ∀ k, k < w.heap.size → ¬ S k → w'.heap[k]? = w.heap[k]?
section
variable {S S' : Nat → Prop} {a w w' w'' : World}
theorem Stirs.refl (S : Nat → Prop) (w : World) : Stirs S w w := ⟨rfl, rfl, rfl, Nat.le_refl _, fun _ _ _ => rfl⟩
theorem Stirs.trans (h : Stirs S w w') (k : Stirs S' w' w'') (hs : ∀ i, i < w.heap.size → S' i → S i) : Stirs S w w'' :=
  ⟨k.os.trans h.os, k.tape.trans h.tape, k.output.trans h.output, Nat.le_trans h.size k.size, fun i hi hn => (k.block i (Nat.lt_of_lt_of_le hi h.size) fun e => hn (hs i hi e)).trans (h.block i hi hn)⟩
theorem Stirs.sub (h : Stirs S w w') (hs : ∀ i, i < w.heap.size → S i → S' i) : Stirs S' w w' := ⟨h.os, h.tape, h.output, h.size, fun i hi hn => h.block i hi fun e => hn (hs i hi e)⟩
theorem Stirs.of_below (h : Below w.heap.size w w') : Stirs S w w' := ⟨h.os, h.tape, h.output, h.size, fun k hk _ => h.block k hk⟩
theorem Stirs.below (h : Stirs S w w') {B : Nat} (hB : B ≤ w.heap.size) (hs : ∀ k, S k → B ≤ k) : Below B w w' := ⟨h.os, h.tape, h.output, h.size, fun k hk => h.block k (by omega) fun e => by have := hs k e; omega⟩
theorem Stirs.of_grown {row : Option Nat} (h : w.grownBy w' row) (hs : ∀ k, row = some k → S k) : Stirs S w w' := ⟨h.os, h.tape, h.output, h.size, fun k hk hn => h.block k hk fun e => hn (hs k e.symm)⟩
theorem stirs_setCell (w : World) (b o : Nat) (v : Value) (hs : S b) : Stirs S w (w.setCell ⟨b, o, none⟩ v) :=
  ⟨rfl, rfl, rfl, by simp [World.setCell], fun k _ hn => Below.heap_setCell _ _ _ _ (fun e => hn (by subst e; exact hs))⟩
theorem Stirs.kept (h : Stirs S w w') {b : Nat} {o : Obj} (hb : w.heap[b]? = some o) (hn : ¬ S b) : w'.heap[b]? = some o := (h.block b (Array.getElem?_eq_some_iff.1 hb).1 hn).trans hb
theorem owns_stirs {base e size n : Nat} {v : Value} {xs : List Value} (h : w.ownsRow base e size v n xs) (ht : Stirs S w w') (hn : ∀ k, v.ownBlock = some k → ¬ S k) : w'.ownsRow base e size v n xs := by
  refine ⟨h.1, ?_⟩
  rcases h.2 with h2 | ⟨g, cap, cur, hv, hg, hh, r⟩
  · exact .inl h2
  · exact .inr ⟨g, cap, cur, hv, hg, ht.kept hh (hn g (by rw [hv]; rfl)), r⟩
end
theorem ret1 {a b : Value} (h : a = b) : Ending.returned a = .returned b := by rw [h]
theorem int_eq {k : IntKind} {a b : Int} (h : a = b) : Value.int k a = .int k b := by rw [h]
theorem bool_eq {a b : Bool} (h : a = b) : Value.bool a = .bool b := by rw [h]
end Go.Fd
namespace Go.Fd
open Go.RowKit
/-- v reads as the list l. -/
def Rd {α : Type} (mk : α → Value) (w : World) (v : Value) (l : List α) : Prop := Reads w 1 v l.length (l.map mk)
/-- v owns the list l, in a block from 'base' on. -/
def Ow {α : Type} (mk : α → Value) (e : TypeId) (w : World) (base : Nat) (v : Value) (l : List α) : Prop := w.ownsRow base e 1 v l.length (l.map mk)
section
variable {α : Type} {mk : α → Value} {e : TypeId} {w w' : World} {base : Nat} {v : Value} {l : List α}
theorem Ow.rd (h : Ow mk e w base v l) : Rd mk w v l := Reads.of_owns h
theorem Ow.nil (mk : α → Value) (e : TypeId) (w : World) (base : Nat) : Ow mk e w base (.slice none 0 0) [] := World.ownsRow_nil _ _ _ _
theorem Rd.mono (h : Rd mk w v l) (hb : Below w.heap.size w w') : Rd mk w' v l := Reads.mono h hb
theorem Ow.mono (h : Ow mk e w base v l) (hb : Below w.heap.size w w') : Ow mk e w' base v l := owns_mono h hb
theorem Ow.rebase {base' : Nat} (h : Ow mk e w base v l) (hb : base' ≤ base) : Ow mk e w base' v l := owns_base h hb
theorem Rd.open (d : α) (h : Rd mk w v l) : ∃ a cap, v = .slice a l.length cap ∧ l.length ≤ cap ∧ (a = none → cap = 0) ∧
    ∀ i, i < l.length → ∃ b off, a = some ⟨b, off, none⟩ ∧ w.cell? ⟨b, off + i, none⟩ = some (mk (l[i]?.getD d)) := by
  obtain ⟨h1, a, cap, h2, h3, h0, h4⟩ := h
  refine ⟨a, cap, h2, h3, h0, fun i hi => ?_⟩
  obtain ⟨b, off, e1, e2⟩ := h4 i (by simpa using hi)
  refine ⟨b, off, e1, e2.trans ?_⟩
  simp [List.getElem?_map, List.getElem?_eq_getElem hi]
theorem Rd.shape (h : Rd mk w v l) : ∃ m a cap, Hid (m = l.length) ∧ v = .slice a m cap ∧ m ≤ cap ∧ (a = none → cap = 0) := Reads.shape h
theorem Ow.shape (h : Ow mk e w base v l) : ∃ m a cap, Hid (m = l.length) ∧ v = .slice a m cap ∧ m ≤ cap ∧ (a = none → cap = 0) := h.rd.shape
theorem Ow.open (d : α) (h : Ow mk e w base v l) (hl : 0 < l.length) : ∃ g cap, v = .slice (some ⟨g, 0, none⟩) l.length cap ∧ base ≤ g ∧ g < w.heap.size ∧ l.length ≤ cap ∧
    (∀ i, i < l.length → w.cell? ⟨g, i, none⟩ = some (mk (l[i]?.getD d))) ∧ (∀ i, w.frozen? ⟨g, i, none⟩ = false) := by
  obtain ⟨h1, h2⟩ := id h
  rcases h2 with ⟨rfl, h0⟩ | ⟨g, cap, cur, rfl, hb, hg, hn, hc, hs, ht⟩
  · omega
  · refine ⟨g, cap, rfl, hb, (Array.getElem?_eq_some_iff.1 hg).1, hn, fun i hi => ?_, fun i => ?_⟩
    · rw [World.ownsRow.cellAt h i (by simpa using hi)]
      simp [List.getElem?_map, List.getElem?_eq_getElem hi]
    · exact World.ownsRow.frozenAt h i
end
section
variable {P : Program} {ops : Array Oper} {rest : List Oper} {Q : Exit → Act → World → Prop} {a : Act} {w : World} {α : Type} {mk : α → Value} {e : TypeId}
/-- 'v = append(v, x)'. -/
theorem wpList_pushE {t bytes : Nat} (T : SliceT P t e 1 bytes) {d : Option Tmp} {ty : TypeId} {pos : String} {aft : Array Edge} {s x : Operand} {v : Value} {base : Nat} {l : List α} (hown : Ow mk e w base v l)
    (hs : a.eval s = v) (hx : a.eval x = .slice (some ⟨w.heap.size, 0, none⟩) 1 1) {u : Value} (c : α) (hc : u = mk c) (h1 : (mk c).oneCell' = true) (hn : (l.length + 1) * bytes ≤ 140737488355328) (hb8 : 1 ≤ bytes) (hb : base ≤ w.heap.size)
    (h : ∀ v' w', Ow mk e w' base v' (l ++ [c]) → w.grownBy w' v.ownBlock → Below base w w' → wpList P ops Q rest (a.put d v') w') :
    wpList P ops Q (⟨d, .call { callee := .builtin .append, args := #[s, x], argTypes := #[t, t] }, ty, pos, aft, none⟩ :: rest) a (w.alloc (.cells #[u] e)) := by
  subst hc
  refine wpList_push T hown hs hx rfl (by simp [h1]) hn (by have := Nat.le_mul_of_pos_right (l.length + 1) hb8; omega) hb fun v' w' h1 h2 h3 => h v' w' ?_ h2 h3
  unfold Ow
  rw [List.length_append, List.map_append]
  exact h1
end
/-- Rows of unlike elements lie in unlike blocks. -/
theorem own_apart {w : World} {b1 b2 e1 e2 s1 s2 n1 n2 : Nat} {v1 v2 : Value} {xs1 xs2 : List Value} (h1 : w.ownsRow b1 e1 s1 v1 n1 xs1) (h2 : w.ownsRow b2 e2 s2 v2 n2 xs2) (hne : e1 ≠ e2) {k : Nat} (hk : v1.ownBlock = some k) : v2.ownBlock ≠ some k := by
  intro hk2
  rcases h1.2 with ⟨rfl, _⟩ | ⟨g1, c1, u1, rfl, _, hg1, _⟩
  · cases hk
  rcases h2.2 with ⟨rfl, _⟩ | ⟨g2, c2, u2, rfl, _, hg2, _⟩
  · cases hk2
  simp only [Value.ownBlock, Option.some.injEq] at hk hk2
  subst hk hk2
  rw [hg1] at hg2
  simp at hg2
  exact hne hg2.2
theorem owns_grown {w w' : World} {base e size n : Nat} {v : Value} {xs : List Value} {row : Option Nat} (h : w.ownsRow base e size v n xs) (hg : w.grownBy w' row) (hne : ∀ k, v.ownBlock = some k → row ≠ some k) : w'.ownsRow base e size v n xs :=
  owns_stirs (S := fun k => row = some k) h (Stirs.of_grown hg fun _ h => h) hne
/-- A row lies in no map's block. -/
theorem own_noMap {w : World} {base e size n : Nat} {v : Value} {xs : List Value} (h : w.ownsRow base e size v n xs) {b : Nat} {es : Array MapEntry} {c : Nat} (hb : w.heap[b]? = some (.map es c)) : v.ownBlock ≠ some b := by
  intro hk
  rcases h.2 with ⟨rfl, _⟩ | ⟨g1, c1, u1, rfl, _, hg1, _⟩
  · cases hk
  simp only [Value.ownBlock, Option.some.injEq] at hk
  subst hk
  rw [hg1] at hb
  cases hb
end Go.Fd
namespace Go.Proofs.YtimnbnomaajmmaaGreat
open Go.RowKit Go.Fd
theorem strCells_mk (m : List UInt8) : Lib.strCells ⟨m.toArray⟩ = m.map B := by simp [Lib.strCells]
/-- 'append(tab, s...)', s a string. -/
theorem wpList_catS {ops : Array Oper} {rest : List Oper} {Q : Exit → Act → World → Prop} {a : Act} {w : World} {d : Option Tmp} {ty : TypeId} {pos : String} {aft : Array Edge} {s x : Operand} {v : Value} {base : Nat} {l m : List UInt8} (hown : OB w base v l)
    (hs : a.eval s = v) (hx : a.eval x = S m) (hn : l.length + m.length ≤ 140737488355328) (hb : base ≤ w.heap.size)
    (h : ∀ v' w', OB w' base v' (l ++ m) → w.grownBy w' v.ownBlock → Below base w w' → wpList Tryz.prog ops Q rest (a.put d v') w') :
    wpList Tryz.prog ops Q (⟨d, .call { callee := .builtin .append, args := #[s, x], argTypes := #[22, 9] }, ty, pos, aft, none⟩ :: rest) a w := by
  obtain ⟨i, z, h1', h2, h3, h4, h5⟩ := TB.info
  have hz : i.zero = some (.int .u8 0) := by
    obtain ⟨i', g1, g2, _⟩ := info_parts (P := Tryz.prog) (e := 5) (z := .int .u8 0) (size := 1) (bytes := 1) (by kernel_rfl)
    rw [h1'] at g1
    cases g1
    exact g2
  have hsz : (⟨m.toArray⟩ : ByteArray).size = m.length := by simp [ByteArray.size]
  refine Lib.wpList_append_own_string _ rfl s x 22 9 rfl base 5 i TB.ht (by kernel_rfl) h1' hz h3 h4 v l.length (l.map B) hs hown ⟨m.toArray⟩ hx (by rw [hsz]; exact maxLen_of hn) (by rw [hsz]; exact hn) hb fun v' w' h1 h2 _ => ?_
  refine h v' w' ?_ h2 (owns_below hown h2 hb)
  unfold OB
  rw [List.length_append, List.map_append, ← strCells_mk, ← hsz]
  exact h1
end Go.Proofs.YtimnbnomaajmmaaGreat
namespace Go.Fd
open Go.RowKit
/-- v reads as the list l, k cells an element. -/
def RdR {α : Type} (k : Nat) (enc : α → List Value) (w : World) (v : Value) (l : List α) : Prop := Reads w k v l.length (l.flatMap enc)
/-- v owns the list l. -/
def OwR {α : Type} (k : Nat) (enc : α → List Value) (e : TypeId) (w : World) (base : Nat) (v : Value) (l : List α) : Prop := w.ownsRow base e k v l.length (l.flatMap enc)
theorem flat_len {α : Type} {k : Nat} {enc : α → List Value} (hk : ∀ x, (enc x).length = k) (l : List α) : (l.flatMap enc).length = l.length * k := by
  induction l with
  | nil => simp
  | cons x l ih => rw [List.flatMap_cons, List.length_append, ih, hk, List.length_cons, Nat.succ_mul]; omega
theorem flat_len' {α β : Type} {k : Nat} {f : α → List β} (hk : ∀ x, (f x).length = k) (l : List α) : (l.flatMap f).length = l.length * k := by
  induction l with
  | nil => simp
  | cons x l ih => rw [List.flatMap_cons, List.length_append, ih, hk, List.length_cons, Nat.succ_mul]; omega
theorem flat_get {α : Type} {k : Nat} {enc : α → List Value} (hk : ∀ x, (enc x).length = k) : ∀ (l : List α) (i c : Nat) (x : α), l[i]? = some x → c < k → (l.flatMap enc)[i * k + c]? = (enc x)[c]? := by
  intro l
  induction l with
  | nil => intro i c x h; simp at h
  | cons y l ih =>
    intro i c x h hc
    rw [List.flatMap_cons]
    cases i with
    | zero =>
      simp at h
      subst h
      rw [Nat.zero_mul, Nat.zero_add, List.getElem?_append_left (by rw [hk]; exact hc)]
    | succ i =>
      have e : (i + 1) * k + c - (enc y).length = i * k + c := by rw [hk, Nat.succ_mul]; omega
      rw [List.getElem?_append_right (by rw [hk, Nat.succ_mul]; omega), e]
      exact ih i c x (by simpa using h) hc
section
variable {α : Type} {k : Nat} {enc : α → List Value} {e : TypeId} {w w' : World} {base : Nat} {v : Value} {l : List α}
theorem OwR.rd (h : OwR k enc e w base v l) : RdR k enc w v l := Reads.of_owns h
theorem OwR.nil (k : Nat) (enc : α → List Value) (e : TypeId) (w : World) (base : Nat) : OwR k enc e w base (.slice none 0 0) [] := World.ownsRow_nil _ _ _ _
theorem RdR.nil (k : Nat) (enc : α → List Value) (w : World) : RdR k enc w (.slice none 0 0) [] := Reads.nil w k
theorem RdR.mono (h : RdR k enc w v l) (hb : Below w.heap.size w w') : RdR k enc w' v l := Reads.mono h hb
theorem OwR.mono (h : OwR k enc e w base v l) (hb : Below w.heap.size w w') : OwR k enc e w' base v l := owns_mono h hb
theorem OwR.rebase {base' : Nat} (h : OwR k enc e w base v l) (hb : base' ≤ base) : OwR k enc e w base' v l := owns_base h hb
theorem RdR.shape (h : RdR k enc w v l) : ∃ m a cap, Hid (m = l.length) ∧ v = .slice a m cap ∧ m ≤ cap ∧ (a = none → cap = 0) := Reads.shape h
theorem OwR.shape (h : OwR k enc e w base v l) : ∃ m a cap, Hid (m = l.length) ∧ v = .slice a m cap ∧ m ≤ cap ∧ (a = none → cap = 0) := h.rd.shape
/-- Opened: the cells of the record at a place. -/
theorem RdR.open (h : RdR k enc w v l) (hk : ∀ x, (enc x).length = k) : ∃ a cap, v = .slice a l.length cap ∧ l.length ≤ cap ∧ (a = none → cap = 0) ∧
    ∀ i x, l[i]? = some x → 0 < k → ∃ b off, a = some ⟨b, off, none⟩ ∧ ∀ c, c < k → w.cell? ⟨b, off + (i * k + c), none⟩ = (enc x)[c]? := by
  obtain ⟨h1, a, cap, h2, h3, h0, h4⟩ := h
  refine ⟨a, cap, h2, h3, h0, fun i x hi hk0 => ?_⟩
  have hlt := (List.getElem?_eq_some_iff.1 hi).1
  have hin : ∀ c, c < k → i * k + c < (l.flatMap enc).length := fun c hc => by
    rw [flat_len hk]
    have : (i + 1) * k ≤ l.length * k := Nat.mul_le_mul_right k hlt
    rw [Nat.succ_mul] at this
    omega
  obtain ⟨b, off, e1, -⟩ := h4 (i * k + 0) (hin 0 hk0)
  refine ⟨b, off, e1, fun c hc => ?_⟩
  obtain ⟨b', off', e2, e3⟩ := h4 (i * k + c) (hin c hc)
  rw [e1] at e2
  cases e2
  rw [e3]
  exact flat_get hk l i c x hi hc
end
section
variable {P : Program} {ops : Array Oper} {rest : List Oper} {Q : Exit → Act → World → Prop} {a : Act} {w : World} {α : Type} {k : Nat} {enc : α → List Value} {e : TypeId}
/-- 'v = append(v, x)', x a record. -/
theorem wpList_pushR {t bytes : Nat} (T : SliceT P t e k bytes) {d : Option Tmp} {ty : TypeId} {pos : String} {aft : Array Edge} {s x : Operand} {v : Value} {base : Nat} {l : List α} (hown : OwR k enc e w base v l)
    (hs : a.eval s = v) (hx : a.eval x = .slice (some ⟨w.heap.size, 0, none⟩) 1 1) {cs : Array Value} (c : α) (hc : cs.toList = enc c) (hk : cs.size = k) (h1 : cs.toList.all (·.oneCell') = true)
    (hn : (l.length + 1) * bytes ≤ 140737488355328) (hm : l.length + 1 ≤ 140737488355328) (hb : base ≤ w.heap.size)
    (h : ∀ v' w', OwR k enc e w' base v' (l ++ [c]) → w.grownBy w' v.ownBlock → Below base w w' → wpList P ops Q rest (a.put d v') w') :
    wpList P ops Q (⟨d, .call { callee := .builtin .append, args := #[s, x], argTypes := #[t, t] }, ty, pos, aft, none⟩ :: rest) a (w.alloc (.cells cs e)) := by
  refine wpList_push T hown hs hx hk h1 hn hm hb fun v' w' h1 h2 h3 => h v' w' ?_ h2 h3
  unfold OwR
  rw [List.length_append, List.flatMap_append, List.flatMap_singleton, ← hc]
  exact h1
end
/-- Records read one behind the other, or the first one's error. -/
def foldU {α : Type} (f : Nat → List α → Except Int (List α)) : Nat → Except Int (List α)
  | 0 => .ok []
  | k + 1 => match foldU f k with
    | .ok L => f k L
    | .error e => .error e
theorem foldU_ok {α : Type} {f : Nat → List α → Except Int (List α)} {k : Nat} {L L' : List α} (h : foldU f k = .ok L) (h2 : f k L = .ok L') : foldU f (k + 1) = .ok L' := by
  rw [foldU, h]; exact h2
theorem foldU_err {α : Type} {f : Nat → List α → Except Int (List α)} {k : Nat} {L : List α} {e : Int} (h : foldU f k = .ok L) (h2 : f k L = .error e) : ∀ n, k < n → foldU f n = .error e := by
  intro n
  induction n with
  | zero => intro h; omega
  | succ n ih =>
    intro hn
    by_cases hk : k = n
    · subst hk
      rw [foldU, h]; exact h2
    · rw [foldU, ih (by omega)]
end Go.Fd
namespace Go.Fd
open Go.RowKit
/-- o depends on operation j. -/
def depB (o : Oper) (j : Nat) : Bool := o.after.any fun e => e.on == j && Region.binds .any e
/-- Slot t holds, when operation i is run, what it held ahead of the region. -/
def oldB (l : List Oper) (i t : Nat) : Bool := l.zipIdx.all fun (o, k) => o.dst != some t || k == i || depB o i
/-- Each operation has a slot of its own, below n, and depends on earlier ones alone. -/
def persB (l : List Oper) (n : Nat) : Bool :=
  l.zipIdx.all fun (o, k) => (match o.dst with | some d => decide (d < n) | none => false) && o.after.all (fun e => !Region.binds .any e || decide (e.on < k)) && l.zipIdx.all fun (o', k') => k == k' || o.dst != o'.dst
def putAll (vs : Nat → Value) : Nat → List Oper → Act → Act
  | _, [], a => a
  | k, o :: r, a => putAll vs (k + 1) r (a.put o.dst (vs k))
theorem put_size (a : Act) (d : Option Tmp) (v : Value) : (a.put d v).tmps.size = a.tmps.size := by cases d <;> simp [Act.put]
theorem put_defers (a : Act) (d : Option Tmp) (v : Value) : (a.put d v).defers = a.defers := by cases d <;> rfl
theorem put_get_ne (a : Act) (d : Option Tmp) (v : Value) (t : Nat) (h : d ≠ some t) : (a.put d v).eval (.tmp t) = a.eval (.tmp t) := by
  cases d with
  | none => rfl
  | some d =>
    have hne : d ≠ t := fun e => h (by rw [e])
    simp [Act.put, Act.eval, Array.getD_eq_getD_getElem?, hne]
theorem put_get_eq (a : Act) (d : Nat) (v : Value) (h : d < a.tmps.size) : (a.put (some d) v).eval (.tmp d) = v := by
  simp [Act.put, Act.eval, Array.getD_eq_getD_getElem?, h]
theorem act_ext {a b : Act} (h1 : a.tmps.size = b.tmps.size) (h2 : a.defers = b.defers) (h3 : ∀ t, a.eval (.tmp t) = b.eval (.tmp t)) : a = b := by
  cases a with
  | mk at_ ad =>
    cases b with
    | mk bt bd =>
      simp only at h1 h2
      subst h2
      congr 1
      apply Array.ext h1
      intro i hi1 hi2
      have := h3 i
      simpa [Act.eval, Array.getD_eq_getD_getElem?, Array.getElem?_eq_getElem hi1, Array.getElem?_eq_getElem hi2] using this
theorem putAll_size (vs : Nat → Value) : ∀ (k : Nat) (l : List Oper) (a : Act), (putAll vs k l a).tmps.size = a.tmps.size
  | _, [], _ => rfl
  | k, o :: r, a => by rw [putAll, putAll_size, put_size]
theorem putAll_defers (vs : Nat → Value) : ∀ (k : Nat) (l : List Oper) (a : Act), (putAll vs k l a).defers = a.defers
  | _, [], _ => rfl
  | k, o :: r, a => by rw [putAll, putAll_defers, put_defers]
theorem putAll_old (vs : Nat → Value) (t : Nat) : ∀ (k : Nat) (l : List Oper) (a : Act), (∀ o ∈ l, o.dst ≠ some t) → (putAll vs k l a).eval (.tmp t) = a.eval (.tmp t)
  | _, [], _, _ => rfl
  | k, o :: r, a, h => by rw [putAll, putAll_old vs t (k + 1) r _ (fun o ho => h o (by simp [ho])), put_get_ne _ _ _ _ (h o (by simp))]
theorem putAll_new (vs : Nat → Value) (t : Nat) : ∀ (k : Nat) (l : List Oper) (a : Act) (j : Nat) (o : Oper), l[j]? = some o → o.dst = some t → t < a.tmps.size → (∀ j' o', l[j']? = some o' → o'.dst = some t → j' = j) →
    (putAll vs k l a).eval (.tmp t) = vs (k + j)
  | _, [], _, _, _, h, _, _, _ => by simp at h
  | k, x :: r, a, 0, o, h, hd, hs, hu => by
    simp at h; subst h
    rw [putAll, putAll_old vs t (k + 1) r]
    · rw [hd]; exact put_get_eq _ _ _ hs
    · intro o' ho' e
      obtain ⟨j', hj'⟩ := List.getElem?_of_mem ho'
      have := hu (j' + 1) o' (by simpa using hj') e
      omega
  | k, x :: r, a, j + 1, o, h, hd, hs, hu => by
    rw [putAll, putAll_new vs t (k + 1) r _ j o (by simpa using h) hd (by rw [put_size]; exact hs) (fun j' o' h1 h2 => by have := hu (j' + 1) o' (by simpa using h1) h2; omega)]
    congr 1; omega
theorem persB_spec {l : List Oper} {n : Nat} (h : persB l n = true) {k : Nat} {o : Oper} (ho : l[k]? = some o) :
    (∃ d, o.dst = some d ∧ d < n) ∧ (∀ e ∈ o.after, Region.binds .any e = true → e.on < k) ∧ ∀ k' o', l[k']? = some o' → k' ≠ k → o'.dst ≠ o.dst := by
  unfold persB at h
  rw [List.all_eq_true] at h
  have hm : (o, k) ∈ l.zipIdx := by rw [List.mem_zipIdx_iff_getElem?]; exact ho
  have := h _ hm
  simp only [Bool.and_eq_true, Array.all_eq_true_iff_forall_mem, List.all_eq_true, Bool.or_eq_true, decide_eq_true_eq, Bool.not_eq_true'] at this
  obtain ⟨⟨h1, h2⟩, h3⟩ := this
  refine ⟨?_, fun e he hb => ?_, fun k' o' ho' hne he => ?_⟩
  · cases hd : o.dst with
    | none => rw [hd] at h1; simp at h1
    | some d => rw [hd] at h1; exact ⟨d, rfl, by simpa using h1⟩
  · rcases h2 e he with h | h
    · rw [hb] at h; cases h
    · exact h
  · have hm' : (o', k') ∈ l.zipIdx := by rw [List.mem_zipIdx_iff_getElem?]; exact ho'
    have := h3 _ hm'
    simp only [beq_iff_eq, bne_iff_ne, ne_eq] at this
    rcases this with h | h
    · exact hne h.symm
    · exact h he.symm
theorem depB_of {o : Oper} {j : Nat} (h : depB o j = true) : ∃ e ∈ o.after, e.on = j ∧ Region.binds .any e = true := by
  unfold depB at h
  rw [Array.any_eq_true'] at h
  obtain ⟨e, he, h⟩ := h
  simp only [Bool.and_eq_true, beq_iff_eq] at h
  exact ⟨e, he, h.1, h.2⟩
section
variable {P : Program} {l : List Oper} {V : Nat → Value → World → Prop} {a0 : Act} {w0 : World}
theorem getD_lt {listed : Array Bool} {i : Nat} (h : i < listed.size) : listed.getD i true = listed.getD i false := by
  simp [Array.getD_eq_getD_getElem?, Array.getElem?_eq_getElem h]
theorem getD_set_true' {listed : Array Bool} {i j : Nat} (h : listed.getD j true = true) : (listed.setIfInBounds i true).getD j true = true := by
  by_cases hij : i = j
  · subst hij
    by_cases hi : i < listed.size
    · simp [Array.getD_eq_getD_getElem?, hi]
    · simp [Array.getD_eq_getD_getElem?, hi]
  · rw [getD_set_ne _ hij]; exact h
theorem getD_set_self {listed : Array Bool} {i : Nat} (d : Bool) (h : i < listed.size) : (listed.setIfInBounds i true).getD i d = true := by
  simp [Array.getD_eq_getD_getElem?, h]
end
/-! ### One operation -/
section
variable {P : Program} {l : List Oper} {o : Oper} {a : Act} {w : World} {R : Value → World → Prop}
end
section
variable {P : Program} {l : List Oper} {a : Act} {w : World} {d : Option Tmp} {ty : TypeId} {pos : String} {aft : Array Edge} {g : Option (Nat × Bool)}
theorem run_bin {x y : Operand} {t t' : TypeId} {op : BinOp} {u v c : Value} (hx : a.eval x = u) (hy : a.eval y = v) (hr : (do eqGuard op t x y u v; binOp op t u v : Sem Value).run P w = .ok c w) : (execOp a.eval ⟨d, .binOp op t x y t', ty, pos, aft, g⟩).run P w = .ok (.value c) w := by
  simp only [execOp, hx, hy]
  rw [Sem.run_bind, hr]
  rfl
theorem run_call {f : FuncId} {fn : Func} {args : Array Operand} {ts : Array TypeId} {vals : Array Value} (hf : P.funcs[f]? = some fn) (hn : (fn.name == "runtime.NumGoroutine") = false) {c : Code} (hb : fn.body = some c) (hx : args.map a.eval = vals) :
    (execOp a.eval ⟨d, .call { callee := .value (.func f), args := args, argTypes := ts }, ty, pos, aft, g⟩).run P w = .ok (.enter f vals) w := by
  have h1 : fn.name ≠ "runtime.NumGoroutine" := by simpa using hn
  have hc : (callFunc f vals).run P w = .ok (.enter f vals) w := by
    simp [callFunc, hf, h1, hb]
  simp only [execOp, resolve, hx]
  show Sem.run P (do let d ← Deferred.ofValue (Value.func (.func f) #[] #[]) vals; invoke d.target d.args) w = _
  simp [Deferred.ofValue, invoke, hc]
end
end Go.Fd
namespace Go.Proofs.YtimnbnomaajmmaaGreat
open Go.RowKit Go.Fd
/-- The bytes ahead of the next 0. -/
def upto0 : List UInt8 → Option (List UInt8)
  | [] => none
  | c :: r => if c = 0 then some [] else (upto0 r).map (c :: ·)
def textR (l : List UInt8) (at_ : Int) : List UInt8 × Int :=
  if at_ < 0 ∨ (l.length : Int) < at_ then ([], 5) else match upto0 (l.drop at_.toNat) with
    | none => ([], 2)
    | some g => (g, 0)
theorem bytesOf_nums (l : List UInt8) : Lib.bytesOf (l.map fun c => (c.toNat : Int)) = l := by
  unfold Lib.bytesOf
  rw [List.map_map]
  conv => rhs; rw [← List.map_id l]
  apply List.map_congr_left
  intro c _
  simp
theorem run_indexByteAt {P : Program} (w : World) (ad : Addr) (c : Nat) (l : List UInt8) (cv : Int) (hc : ∀ j x, (l.map fun c => (c.toNat : Int))[j]? = some x → w.cell? (ad.add j) = some (.int .u8 x)) :
    (Extern.BytealgIndexByte.indexByte #[.slice (some ad) l.length c, .int .u8 cv]).run P w = .ok (.int .i64 (Lib.indexByte l cv.toNat.toUInt8)) w := by
  have hl := Lib.run_loadBytesX (P := P) w (l.map fun c => (c.toNat : Int)) ad .empty hc
  rw [List.length_map] at hl
  have hs := Lib.run_indexByteString (P := P) ⟨l.toArray⟩ cv w
  rw [bytesOf_nums] at hl
  have he : (⟨ByteArray.empty.data ++ l.toArray⟩ : ByteArray) = ⟨l.toArray⟩ := by
    apply ByteArray.ext
    show (#[] : Array UInt8) ++ l.toArray = l.toArray
    simp
  rw [he] at hl
  change Sem.run P (do
    let b ← Extern.Bytes.bytesOf (.slice (some ad) l.length c)
    let c ← Extern.Bytes.asByte (.int .u8 cv)
    match (List.range b.size).find? fun i => b[i]! == c with
    | some i => pure (goInt i)
    | none => pure (goInt (-1))) w = _
  change Sem.run P (do
    let b ← Extern.Bytes.bytesOf (.string ⟨l.toArray⟩)
    let c ← Extern.Bytes.asByte (.int .u8 cv)
    match (List.range b.size).find? fun i => b[i]! == c with
    | some i => pure (goInt i)
    | none => pure (goInt (-1))) w = _ at hs
  simp only [Extern.Bytes.bytesOf, Sem.run_bind, Sem.run_pure, hl, Result.andThen] at hs ⊢
  exact hs
theorem indexByte_any (l : List UInt8) (c : UInt8) (v : Value) (w : World) (hl : l.length ≤ 1000000000) (hv : Bs w v l) :
    Calls Tryz.prog 106 #[v, .int .u8 c.toNat] w fun e w' => e = .returned (.int .i64 (Lib.indexByte l c)) ∧ w = w' := by
  have hrun : ∀ wx, wx = w → (callFunc 113 #[v, .int .u8 c.toNat]).run Tryz.prog wx = .ok (.value (.int .i64 (Lib.indexByte l c))) wx := by
    rintro wx rfl
    rw [run_callFunc_extern Tryz.func113 (by kernel_rfl) (by kernel_rfl) (by kernel_rfl) (e := Extern.BytealgIndexByte.indexByte) (by kernel_rfl)]
    obtain ⟨h1, a, cap, rfl, h3, h0, h4⟩ := hv
    have hcc : UInt8.ofNat (Int.toNat (c.toNat : Int)) = c := by simp
    cases a with
    | none =>
      obtain rfl := h0 rfl
      obtain rfl : l = [] := List.eq_nil_of_length_eq_zero (by omega)
      rw [show (([] : List UInt8).length) = 0 from rfl, Lib.run_indexByteNil wx 0 0 (c.toNat : Int)]
      rfl
    | some ad =>
      rw [run_indexByteAt wx ad cap l (c.toNat : Int) (fun j x hj => by
        rw [List.getElem?_map] at hj
        cases hx : l[j]? with
        | none => rw [hx] at hj; simp at hj
        | some y =>
          rw [hx] at hj
          simp at hj
          subst hj
          have hjl : j < l.length := (List.getElem?_eq_some_iff.1 hx).1
          obtain ⟨b, off, e1, e2⟩ := h4 j (by simpa using hjl)
          cases e1
          have e3 : (⟨b, off, none⟩ : Addr).add j = ⟨b, off + j, none⟩ := by unfold Addr.add; split <;> simp_all
          rw [e3, e2, List.getElem?_map, hx]; rfl)]
      simp [Result.andThen]
  have hrun2 := hrun w rfl
  clear hrun hv
  go_enter Tryz.func106, Tryz.ntmps106
  go_wp2
  go_ret
  exact ⟨rfl, rfl⟩
theorem indexByte_upto0 (l : List UInt8) : Lib.indexByte l 0 = match upto0 l with | none => -1 | some g => (g.length : Int) := by
  induction l with
  | nil => rfl
  | cons c r ih =>
    rw [Lib.indexByte, upto0]
    by_cases h : c = 0
    · simp [h]
    · rw [if_neg h]
      simp only [beq_iff_eq, h, if_false]
      cases hr : upto0 r with
      | none => rw [hr] at ih; simp [ih]
      | some g => rw [hr] at ih; simp only at ih; rw [ih]; simp <;> omega
theorem upto0_prefix (l g : List UInt8) (h : upto0 l = some g) : g = l.take g.length ∧ g.length < l.length := by
  induction l generalizing g with
  | nil => simp [upto0] at h
  | cons c r ih =>
    rw [upto0] at h
    split at h
    · simp at h; subst h; simp
    · cases hr : upto0 r with
      | none => rw [hr] at h; simp at h
      | some x =>
        rw [hr] at h; simp at h; subst h
        obtain ⟨h1, h2⟩ := ih x hr
        refine ⟨?_, by simpa using h2⟩
        rw [List.length_cons, List.take_succ_cons, ← h1]
set_option maxRecDepth 100000 in
theorem octText_any (l : List UInt8) (at_ : Int) (v : Value) (w : World) (hl : l.length ≤ 1000000000) (hv : Bs w v l) :
    Calls Tryz.prog 96 #[v, .int .i64 at_] w fun e w' => e = .returned (.tuple #[S (textR l at_).1, .int .i64 (textR l at_).2]) ∧ w = w' := by
  obtain ⟨a, cap, rfl, hcap, _, _⟩ := hv.open
  by_cases h1 : at_ < 0
  · have HR := Lib.hid (show textR l at_ = ([], 5) by rw [textR, if_pos (.inl h1)])
    go_enter Tryz.func96, Tryz.ntmps96
    go_wp2
    go_ret2
    exact ⟨by rw [HR.out]; rfl, rfl⟩
  by_cases h2 : (l.length : Int) < at_
  · have HR := Lib.hid (show textR l at_ = ([], 5) by rw [textR, if_pos (.inr h2)])
    go_enter Tryz.func96, Tryz.ntmps96
    go_wp2
    go_ret2
    exact ⟨by rw [HR.out]; rfl, rfl⟩
  have htx : textR l at_ = match upto0 (l.drop at_.toNat) with | none => ([], 2) | some g => (g, 0) := by rw [textR, if_neg (by omega)]; try rfl
  obtain ⟨v1, hrun, hv1⟩ := run_fromB hv (i := at_) (k := .i64) (by omega) (by omega)
  have HRUN := Lib.hid hrun
  have hi := indexByte_any _ 0 v1 w (by rw [List.length_drop]; omega) hv1
  rw [indexByte_upto0] at hi
  clear hrun
  cases hs : upto0 (l.drop at_.toNat) with
  | none =>
    rw [hs] at htx hi
    have HR := Lib.hid htx
    have HI := Lib.hid hi
    clear htx hi hs
    go_enter Tryz.func96, Tryz.ntmps96
    go_wp2_with (first
      | (with_reducible show wpList _ _ _ (⟨some 17, _, _, _, _, _⟩ :: _) _ _; go_must (refine wpList_val rfl (exec_sliceFrom HRUN.out rfl rfl) ?_))
      | (go_at_call 106; go_must (refine HI.out.mono ?_; rintro e w' ⟨rfl, rfl⟩)))
    go_ret2
    exact ⟨by rw [HR.out]; rfl, rfl⟩
  | some g =>
    obtain ⟨hg2, hg3⟩ := upto0_prefix _ _ hs
    rw [List.length_drop] at hg3
    have HG := Lib.hid hg2
    rw [hs] at htx hi
    simp only at htx hi
    have HI := Lib.hid hi
    have HR := Lib.hid htx
    clear htx hi hs hg2
    obtain ⟨v2, hrun2, hv2⟩ := run_sliceB hv (i := at_) (j := at_ + g.length) (k := .i64) (k' := .i64) (by omega) (by omega) (by omega)
    have HRUN2 := Lib.hid hrun2
    rw [show (at_ + (g.length : Int) - at_).toNat = g.length by omega, ← HG.out] at hv2
    have hstr := run_str hv2
    clear hrun2
    go_enter Tryz.func96, Tryz.ntmps96
    go_wp2_with (first
      | (with_reducible show wpList _ _ _ (⟨some 17, _, _, _, _, _⟩ :: _) _ _; go_must (refine wpList_val rfl (exec_sliceFrom HRUN.out rfl rfl) ?_))
      | (go_at_call 106; go_must (refine HI.out.mono ?_; rintro e w' ⟨rfl, rfl⟩))
      | (with_reducible show wpList _ _ _ (⟨some 26, _, _, _, _, _⟩ :: _) _ _; go_must (refine wpList_val rfl (exec_slice2 HRUN2.out rfl rfl rfl) ?_)))
    go_ret2
    exact ⟨by rw [HR.out]; rfl, rfl⟩
end Go.Proofs.YtimnbnomaajmmaaGreat
namespace Go.Proofs
open Go.Shelf
def Tryz.lays137_ren : Go.Shelf.Ren := ⟨fun | 137 => 91 | 217 => 104 | 266 => 112 | n => n, fun | 9 => 9 | 5 => 5 | 3 => 3 | n => n, fun | n => n⟩
theorem Tryz.lays137 : Go.Proofs.Lays.n137 Tryz.prog Tryz.lays137_ren := {
  mixed := by kernel_rfl
  f137 := Tryz.func91.trans (congrArg some (by kernel_rfl))
  f217 := Tryz.func104.trans (congrArg some (by kernel_rfl))
  f266 := Tryz.func112.trans (congrArg some (by kernel_rfl))
  t3 := Tryz.underlying3
  a3 := Tryz.isAgg3
  z3 := Tryz.sizeOf3
  v3 := Tryz.zeroValue3
  t5 := Tryz.underlying5
  a5 := Tryz.isAgg5
  z5 := Tryz.sizeOf5
  v5 := Tryz.zeroValue5
  t9 := Tryz.underlying9
  a9 := Tryz.isAgg9
  z9 := Tryz.sizeOf9
  v9 := Tryz.zeroValue9 }
open Go.RowKit in
/-- strings.IndexByte: "IndexByte returns the index of the first instance of c in s, or -1 if c is not present in s.": IT RETURNS 'Lib.indexByte s c'; the world is as it was. (LAID: no walk: one application.) -/
theorem Tryz.strings_IndexByte (s : ByteArray) (c : Int) (w : World) :
    Calls Tryz.prog 91 #[.string s, .int .u8 c] w fun e w' => e = .returned (.int .i64 (Lib.indexByte s.data.toList c.toNat.toUInt8)) ∧ w' = w := Any.strings_IndexByte Tryz.lays137 s c w
def Tryz.lays219_ren : Go.Shelf.Ren := ⟨fun | 219 => 103 | 217 => 104 | 225 => 109 | 224 => 110 | 267 => 111 | 266 => 112 | 314 => 114 | n => n, fun | 9 => 9 | 3 => 3 | 4 => 4 | 5 => 5 | 46 => 97 | 146 => 141 | 51 => 47 | n => n, fun | 1 => 0 | n => n⟩
def Tryz.lays144_ren : Go.Shelf.Ren := ⟨fun | 144 => 45 | 143 => 85 | 219 => 103 | 217 => 104 | 225 => 109 | 224 => 110 | 267 => 111 | 266 => 112 | 314 => 114 | n => n, fun | 9 => 9 | 4 => 4 | 3 => 3 | 5 => 5 | 46 => 97 | 146 => 141 | 51 => 47 | n => n, fun | 1 => 0 | n => n⟩
theorem Tryz.lays144 : Go.Proofs.Lays.n144 Tryz.prog Tryz.lays144_ren := {
  mixed := by kernel_rfl
  f143 := Tryz.func85.trans (congrArg some (by kernel_rfl))
  f144 := Tryz.func45.trans (congrArg some (by kernel_rfl))
  f217 := Tryz.func104.trans (congrArg some (by kernel_rfl))
  f219 := Tryz.func103.trans (congrArg some (by kernel_rfl))
  f224 := Tryz.func110.trans (congrArg some (by kernel_rfl))
  f225 := Tryz.func109.trans (congrArg some (by kernel_rfl))
  f266 := Tryz.func112.trans (congrArg some (by kernel_rfl))
  f267 := Tryz.func111.trans (congrArg some (by kernel_rfl))
  f314 := Tryz.func114.trans (congrArg some (by kernel_rfl))
  t3 := Tryz.underlying3
  a3 := Tryz.isAgg3
  z3 := Tryz.sizeOf3
  v3 := Tryz.zeroValue3
  t4 := Tryz.underlying4
  a4 := Tryz.isAgg4
  z4 := Tryz.sizeOf4
  v4 := Tryz.zeroValue4
  t5 := Tryz.underlying5
  a5 := Tryz.isAgg5
  z5 := Tryz.sizeOf5
  v5 := Tryz.zeroValue5
  t9 := Tryz.underlying9
  a9 := Tryz.isAgg9
  z9 := Tryz.sizeOf9
  v9 := Tryz.zeroValue9
  t46 := Tryz.underlying97
  a46 := Tryz.isAgg97
  z46 := Tryz.sizeOf97
  v46 := Tryz.zeroValue97
  t51 := Tryz.underlying47
  a51 := Tryz.isAgg47
  z51 := Tryz.sizeOf47
  v51 := Tryz.zeroValue47
  t146 := Tryz.underlying141
  a146 := Tryz.isAgg141
  z146 := Tryz.sizeOf141
  v146 := Tryz.zeroValue141
  g1 := by kernel_rfl }
open Go.RowKit Go.Lib in
/-- strings.Contains: "Contains reports whether substr is within s.": AT A substr OF ONE BYTE c: IT RETURNS 'decide (0 ≤ Lib.indexByte s c)'; the world is as it was. (LAID: no walk: one application.) -/
theorem Tryz.strings_Contains_one (s : ByteArray) (c : UInt8) (w : World) :
    Calls Tryz.prog 45 #[.string s, .string ⟨#[c]⟩] w fun e w' => e = .returned (.bool (decide (0 ≤ Lib.indexByte s.data.toList c))) ∧ w' = w := Any.strings_Contains_one Tryz.lays144 s c w
def Tryz.lays206_ren : Go.Shelf.Ren := ⟨fun | 206 => 97 | n => n, fun | 9 => 9 | 4 => 4 | 3 => 3 | n => n, fun | n => n⟩
def Tryz.lays99_ren : Go.Shelf.Ren := ⟨fun | 99 => 90 | 206 => 97 | n => n, fun | 9 => 9 | 4 => 4 | 3 => 3 | n => n, fun | n => n⟩
theorem Tryz.lays99 : Go.Proofs.Lays.n99 Tryz.prog Tryz.lays99_ren := {
  mixed := by kernel_rfl
  f99 := Tryz.func90.trans (congrArg some (by kernel_rfl))
  f206 := Tryz.func97.trans (congrArg some (by kernel_rfl))
  t3 := Tryz.underlying3
  a3 := Tryz.isAgg3
  z3 := Tryz.sizeOf3
  v3 := Tryz.zeroValue3
  t4 := Tryz.underlying4
  a4 := Tryz.isAgg4
  z4 := Tryz.sizeOf4
  v4 := Tryz.zeroValue4
  t9 := Tryz.underlying9
  a9 := Tryz.isAgg9
  z9 := Tryz.sizeOf9
  v9 := Tryz.zeroValue9 }
open Go.RowKit Go.Lib in
/-- strings.HasPrefix: "HasPrefix reports whether the string s begins with prefix.": IT RETURNS 'Lib.hasPrefix s prefix'; the world is as it was. (LAID: no walk: one application.) -/
theorem Tryz.strings_HasPrefix (s p : ByteArray) (w : World) :
    Calls Tryz.prog 90 #[.string s, .string p] w fun e w' => e = .returned (.bool (Lib.hasPrefix s.data.toList p.data.toList)) ∧ w' = w := Any.strings_HasPrefix Tryz.lays99 s p w
def Tryz.lays101_ren : Go.Shelf.Ren := ⟨fun | 101 => 34 | 208 => 65 | 206 => 97 | n => n, fun | 9 => 9 | 4 => 4 | 3 => 3 | n => n, fun | n => n⟩
theorem Tryz.lays101 : Go.Proofs.Lays.n101 Tryz.prog Tryz.lays101_ren := {
  mixed := by kernel_rfl
  f101 := Tryz.func34.trans (congrArg some (by kernel_rfl))
  f206 := Tryz.func97.trans (congrArg some (by kernel_rfl))
  f208 := Tryz.func65.trans (congrArg some (by kernel_rfl))
  t3 := Tryz.underlying3
  a3 := Tryz.isAgg3
  z3 := Tryz.sizeOf3
  v3 := Tryz.zeroValue3
  t4 := Tryz.underlying4
  a4 := Tryz.isAgg4
  z4 := Tryz.sizeOf4
  v4 := Tryz.zeroValue4
  t9 := Tryz.underlying9
  a9 := Tryz.isAgg9
  z9 := Tryz.sizeOf9
  v9 := Tryz.zeroValue9 }
open Go.RowKit Go.Lib in
/-- strings.TrimPrefix: "TrimPrefix returns s without the provided leading prefix string. If s doesn't start with prefix, s is returned unchanged.": IT RETURNS 'Lib.trimPrefix s prefix'; the world is as it was. (LAID: no walk: one application.) -/
theorem Tryz.strings_TrimPrefix (s p : ByteArray) (w : World) :
    Calls Tryz.prog 34 #[.string s, .string p] w fun e w' => e = .returned (.string ⟨(Lib.trimPrefix s.data.toList p.data.toList).toArray⟩) ∧ w' = w := Any.strings_TrimPrefix Tryz.lays101 s p w
def Tryz.lays115_ren : Go.Shelf.Ren := ⟨fun | 115 => 16 | n => n, fun | 37 => 22 | 4 => 4 | 9 => 9 | 5 => 5 | n => n, fun | n => n⟩
theorem Tryz.lays115 : Go.Proofs.Lays.n115 Tryz.prog Tryz.lays115_ren := {
  mixed := by kernel_rfl
  f115 := Tryz.func16.trans (congrArg some (by kernel_rfl))
  t4 := Tryz.underlying4
  a4 := Tryz.isAgg4
  z4 := Tryz.sizeOf4
  v4 := Tryz.zeroValue4
  t9 := Tryz.underlying9
  a9 := Tryz.isAgg9
  z9 := Tryz.sizeOf9
  v9 := Tryz.zeroValue9
  t37 := Tryz.underlying22
  a37 := Tryz.isAgg22
  z37 := Tryz.sizeOf22
  v37 := Tryz.zeroValue22 }
open Go.Proofs Go.RowKit Go.Lib in
/-- bytes.Equal, each argument with what 'string(..)' of it gives. (LAID: no walk: one application.) -/
theorem Tryz.bytes_Equal_strs (v1 v2 : Value) (t1 t2 : ByteArray) (w : World) (h1 : (convert 22 9 v1).run Tryz.prog w = .ok (.string t1) w) (h2 : (convert 22 9 v2).run Tryz.prog w = .ok (.string t2) w) :
    Calls Tryz.prog 16 #[v1, v2] w fun e w' => e = .returned (.bool (t1.toList == t2.toList)) ∧ w' = w := Any.bytes_Equal_strs Tryz.lays115 v1 v2 t1 t2 w h1 h2
end Go.Proofs
namespace Go.Proofs.YtimnbnomaajmmaaGreat
open Go.RowKit Go.Fd
/-- May it be a name? -/
def mayS (s : List UInt8) : Bool := decide (s.length ≤ 128) && !decide (0 ∈ s)
theorem mayS_len {s : List UInt8} (h : mayS s = true) : s.length ≤ 128 := by unfold mayS at h; simp at h; exact h.1
theorem contains0 (s : List UInt8) (w : World) : Calls Tryz.prog 45 #[S s, .string ⟨#[0]⟩] w fun e w' => e = .returned (.bool (decide (0 ∈ s))) ∧ w = w' := by
  refine (Tryz.strings_Contains_one ⟨s.toArray⟩ 0 w).mono fun e w' ⟨he, hw⟩ => ⟨?_, hw.symm⟩
  rw [he]
  simp only [← Lib.contains_iff_indexByte, List.contains_eq_mem]
theorem sizeS (s : List UInt8) : (⟨s.toArray⟩ : ByteArray).size = s.length := by simp [ByteArray.size]
theorem strsMay_any (s : List UInt8) (w : World) : Calls Tryz.prog 86 #[S s] w fun e w' => e = .returned (.bool (mayS s)) ∧ w = w' := by
  by_cases h : s.length ≤ 128
  · have HR := Lib.hid (show mayS s = !decide (0 ∈ s) by unfold mayS; rw [decide_eq_true h, Bool.true_and])
    have h2 : (⟨s.toArray⟩ : ByteArray).size ≤ 128 := by rw [sizeS]; exact h
    go_enter Tryz.func86, Tryz.ntmps86
    go_wp2_with (go_at_call 45; go_must (refine (contains0 s _).mono ?_; rintro e w1 ⟨rfl, rfl⟩))
    go_ret
    exact ⟨by rw [HR.out]; rfl, rfl⟩
  · have HR := Lib.hid (show mayS s = false by unfold mayS; rw [decide_eq_false h, Bool.false_and])
    have h2 : ¬ (⟨s.toArray⟩ : ByteArray).size ≤ 128 := by rw [sizeS]; exact h
    go_enter Tryz.func86, Tryz.ntmps86
    go_wp2
    go_ret
    exact ⟨by rw [HR.out]; rfl, rfl⟩
theorem ref3May_any (s : List UInt8) (w : World) (hs : s.length ≤ 9223372036854775807) : Calls Tryz.prog 99 #[S s] w fun e w' => e = .returned (.bool (mayS s)) ∧ w = w' := by
  go_enter Tryz.func99, Tryz.ntmps99
  go_wp2
  go_loop [3] (fun i => ∃ k : Nat, i = .int .i64 k ∧ k ≤ s.length ∧ Hid (0 ∉ s.take k)) (fun i => s.length - (intOf i).toNat)
  case atStart => exact ⟨0, rfl, Nat.zero_le _, by simp [Hid]⟩
  case round =>
    obtain ⟨k, rfl, hk, HK⟩ := hrel
    by_cases hlt : k < s.length
    · have hb : ∀ h, (⟨s.toArray⟩ : ByteArray)[k]'h = s[k] := fun _ => rfl
      have HB := Lib.hid hb
      clear hb
      go_wp2
      · rename_i hz _
        have h0 : s[k] = 0 := by
          have h1 := hz
          rw [HB.out] at h1
          exact UInt8.toNat_inj.1 (by simpa using h1)
        have HR := Lib.hid (show mayS s = false by unfold mayS; rw [decide_eq_true (show (0 : UInt8) ∈ s by rw [← h0]; exact List.getElem_mem hlt)]; simp)
        go_ret
        exact ⟨by rw [HR.out]; rfl, rfl⟩
      · rename_i hz
        have h0 : s[k] ≠ 0 := by
          intro e
          have h1 := hz
          rw [HB.out, e] at h1
          simp at h1
        go_round
        case rel =>
          refine ⟨k + 1, by go_num, by omega, ?_⟩
          show 0 ∉ _
          rw [take_snoc' s k s[k] (List.getElem?_eq_getElem hlt)]
          intro hm
          rcases List.mem_append.1 hm with hm | hm
          · exact HK.out hm
          · simp at hm; exact h0 hm.symm
        case measure => simp [intOf] <;> omega
    · obtain rfl : k = s.length := by omega
      have HR := Lib.hid (show mayS s = decide (s.length ≤ 128) by
        have := HK.out
        rw [List.take_length] at this
        unfold mayS
        rw [decide_eq_false this]; simp)
      go_wp2
      go_ret
      refine ⟨by rw [HR.out]; exact ret1 (bool_eq (by simp; omega)), rfl⟩
end Go.Proofs.YtimnbnomaajmmaaGreat
namespace Go.Fd
open Go.RowKit Go.MapKept
open Go.ChangeMaps (setBlock heap_setBlock_same heap_setBlock_other modify_eq_set)
open Go.Maps (Keyed)
section
variable {κ : Type}
/-- A map's type, and how its keys are written. -/
structure KeyT (P : Program) (t k e : TypeId) (mk : κ → Value) : Prop where
  ht : P.underlying t = some (.map k e)
  K : Keyed P k
  inj : ∀ a b, mk a = mk b → a = b
/-- Block b is a map with the entries E, in the order in which they came. -/
def MapIs (P : Program) (k : TypeId) (mk : κ → Value) (w : World) (b : Nat) (E : List (κ × Value)) : Prop :=
  ∃ es clock, w.heap[b]? = some (.map es clock) ∧ es.toList.map (fun x => (x.key, x.val)) = E.map (fun p => (mk p.1, p.2)) ∧ es.size ≤ maxLen ∧ Stamped es clock ∧ ∀ x ∈ es.toList, ∃ l, keyOf P k x.key = some l
/-- An entry put in: in its key's place, or behind. -/
def putE [DecidableEq κ] (E : List (κ × Value)) (x : κ) (v : Value) : List (κ × Value) :=
  if x ∈ E.map (·.1) then E.map (fun p => if p.1 = x then (x, v) else p) else E ++ [(x, v)]
theorem lookup_of_mem [DecidableEq κ] {E : List (κ × Value)} (hn : (E.map (·.1)).Nodup) {x : κ} {v : Value} (h : (x, v) ∈ E) : E.lookup x = some v := by
  induction E with
  | nil => cases h
  | cons p E ih =>
    obtain ⟨y, u⟩ := p
    simp only [List.map_cons, List.nodup_cons] at hn
    rw [List.lookup_cons]
    rcases List.mem_cons.1 h with h | h
    · cases h; simp
    · have hne : ¬ x = y := fun e => hn.1 (e ▸ List.mem_map.2 ⟨_, h, rfl⟩)
      rw [show (x == y) = false by simpa using hne]
      exact ih hn.2 h
theorem lookup_none_of [DecidableEq κ] {E : List (κ × Value)} {x : κ} (h : x ∉ E.map (·.1)) : E.lookup x = none := by
  induction E with
  | nil => rfl
  | cons p E ih =>
    obtain ⟨y, u⟩ := p
    simp only [List.map_cons, List.mem_cons, not_or] at h
    rw [List.lookup_cons, show (x == y) = false by simpa using h.1]
    exact ih h.2
theorem lookup_mem [DecidableEq κ] {E : List (κ × Value)} {x : κ} {v : Value} (h : E.lookup x = some v) : (x, v) ∈ E := by
  induction E with
  | nil => cases h
  | cons p E ih =>
    obtain ⟨y, u⟩ := p
    rw [List.lookup_cons] at h
    by_cases e : x = y
    · subst e; simp at h; subst h; simp
    · rw [show (x == y) = false by simpa using e] at h
      exact List.mem_cons_of_mem _ (ih h)
theorem lookup_key [DecidableEq κ] {E : List (κ × Value)} {x : κ} : (∃ v, E.lookup x = some v) ↔ x ∈ E.map (·.1) := by
  constructor
  · rintro ⟨v, h⟩
    exact List.mem_map.2 ⟨_, lookup_mem h, rfl⟩
  · intro h
    cases hl : E.lookup x with
    | some v => exact ⟨v, rfl⟩
    | none =>
      exfalso
      induction E with
      | nil => cases h
      | cons p E ih =>
        obtain ⟨y, u⟩ := p
        rw [List.lookup_cons] at hl
        by_cases e : x = y
        · subst e; simp at hl
        · rw [show (x == y) = false by simpa using e] at hl
          simp only [List.map_cons, List.mem_cons] at h
          rcases h with h | h
          · exact e h
          · exact ih h hl
variable {P : Program} {t k e : TypeId} {mk : κ → Value} {w : World} {b : Nat} {E : List (κ × Value)}
theorem MapIs.lt (h : MapIs P k mk w b E) : b < w.heap.size := by
  obtain ⟨es, clock, hb, _⟩ := h
  exact (Array.getElem?_eq_some_iff.1 hb).1
theorem MapIs.kept {w' : World} {row : Option Nat} (h : MapIs P k mk w b E) (hg : w.grownBy w' row) (hne : some b ≠ row) : MapIs P k mk w' b E := by
  have hlt := h.lt
  obtain ⟨es, clock, hb, r⟩ := h
  exact ⟨es, clock, (hg.block b hlt hne).trans hb, r⟩
theorem MapIs.mono {w' : World} (h : MapIs P k mk w b E) (hb : Below w.heap.size w w') : MapIs P k mk w' b E := by
  have hlt := h.lt
  obtain ⟨es, clock, hb', r⟩ := h
  exact ⟨es, clock, (hb.block b hlt).trans hb', r⟩
theorem MapIs.block {w' : World} (h : MapIs P k mk w b E) (hb : w'.heap[b]? = w.heap[b]?) : MapIs P k mk w' b E := by
  obtain ⟨es, clock, hb', r⟩ := h
  exact ⟨es, clock, hb.trans hb', r⟩
theorem MapIs.nodup (h : MapIs P k mk w b E) : (E.map (·.1)).Nodup := by
  obtain ⟨es, clock, _, he, _, hs, _⟩ := h
  have h2 : (es.toList.map (·.key)).Nodup := hs.2.2
  have e1 : es.toList.map (·.key) = (E.map (·.1)).map mk := by
    have := congrArg (List.map (·.1)) he
    simpa [List.map_map, Function.comp_def] using this
  rw [e1] at h2
  unfold List.Nodup at h2 ⊢
  rw [List.pairwise_map] at h2
  exact h2.imp (fun hne e => hne (by rw [e]))
theorem MapIs.made (w : World) : MapIs P k mk (w.alloc (.map #[] 0)) w.heap.size ([] : List (κ × Value)) :=
  ⟨#[], 0, (MapKept.heap_alloc w _).1, by simp, by simp, stamped_empty 0, by simp⟩
/-- What a look-up gives. -/
def lookV (c : Bool) (z : Value) : Option Value → Value
  | some v => if c then .tuple #[v, .bool true] else v
  | none => if c then .tuple #[z, .bool false] else z
theorem MapIs.look [DecidableEq κ] (c : Bool) (h : MapIs P k mk w b E) (T : KeyT P t k e mk) {z : Value} (hz : (zeroValue e).run P w = .ok z w) {x : κ} {l : Lit} (hkey : keyOf P k (mk x) = some l) :
    (Instr.lookup t (.map (some b)) (mk x) c).run P w = .ok (lookV c z (E.lookup x)) w := by
  have hn := h.nodup
  obtain ⟨es, clock, hb, he, hsz, hs, hk⟩ := h
  rcases T.K.find w hkey es.toList hk with ⟨h1, h2⟩ | ⟨j, e0, h1, h2, h3⟩
  · have : E.lookup x = none := lookup_none_of fun hm => by
      obtain ⟨p, hp, rfl⟩ := List.mem_map.1 hm
      have : (mk p.1, p.2) ∈ es.toList.map (fun x => (x.key, x.val)) := by rw [he]; exact List.mem_map.2 ⟨p, hp, rfl⟩
      obtain ⟨y, hy, e1⟩ := List.mem_map.1 this
      exact h2 y hy (congrArg Prod.fst e1)
    rw [this]
    simp [Instr.lookup, run_underlying T.ht, MapKept.run_getObj_map hb, T.K.check w _ hkey, h1, hz, Result.andThen, lookV]
  · have hE : (E.map (fun p => (mk p.1, p.2)))[j]? = some (e0.key, e0.val) := by rw [← he, List.getElem?_map, h2]; rfl
    rw [List.getElem?_map] at hE
    obtain ⟨p, hp, e1⟩ := Option.map_eq_some_iff.1 hE
    obtain ⟨y, v⟩ := p
    simp only [Prod.mk.injEq] at e1
    obtain ⟨e1, rfl⟩ := e1
    obtain rfl := T.inj _ _ (e1.trans h3)
    rw [lookup_of_mem hn (List.mem_of_getElem? hp)]
    simp [Instr.lookup, run_underlying T.ht, MapKept.run_getObj_map hb, T.K.check w _ hkey, h1, Result.andThen, lookV]
theorem set_eq_map [DecidableEq κ] {E : List (κ × Value)} (hn : (E.map (·.1)).Nodup) {j : Nat} {x : κ} {u v : Value} (h : E[j]? = some (x, u)) : E.set j (x, v) = E.map (fun p => if p.1 = x then (x, v) else p) := by
  apply List.ext_getElem?
  intro i
  rw [List.getElem?_set, List.getElem?_map]
  have hj := (List.getElem?_eq_some_iff.1 h).1
  by_cases hij : j = i
  · subst hij
    rw [if_pos rfl, if_pos hj, h]
    simp
  · rw [if_neg hij]
    cases hi : E[i]? with
    | none => rfl
    | some p =>
      have hne : p.1 ≠ x := by
        intro e
        have hi' := (List.getElem?_eq_some_iff.1 hi).1
        unfold List.Nodup at hn
        rw [List.pairwise_map, List.pairwise_iff_getElem] at hn
        have g1 : E[i] = p := (List.getElem?_eq_some_iff.1 hi).2
        have g2 : E[j] = (x, u) := (List.getElem?_eq_some_iff.1 h).2
        rcases Nat.lt_or_gt_of_ne hij with hlt | hlt
        · exact hn j i hj hi' hlt (by rw [g1, g2, e])
        · exact hn i j hi' hj hlt (by rw [g1, g2, e])
      simp [hne]
theorem MapIs.store [DecidableEq κ] (h : MapIs P k mk w b E) (T : KeyT P t k e mk) (hroom : E.length < maxLen) {x : κ} {l : Lit} (hkey : keyOf P k (mk x) = some l) (v : Value) :
    ∃ w', (Instr.mapUpdate t (.map (some b)) (mk x) v).run P w = .ok () w' ∧ MapIs P k mk w' b (putE E x v) ∧ w.grownBy w' (some b) ∧ w'.heap.size = w.heap.size := by
  have hn := h.nodup
  obtain ⟨es, clock, hb, he, hsz, hs, hk⟩ := h
  have hlen : es.size = E.length := by have := congrArg List.length he; simpa using this
  rcases T.K.find w hkey es.toList hk with ⟨h1, h2⟩ | ⟨j, e0, h1, h2, h3⟩
  · have hnot : x ∉ E.map (·.1) := fun hm => by
      obtain ⟨p, hp, rfl⟩ := List.mem_map.1 hm
      have : (mk p.1, p.2) ∈ es.toList.map (fun x => (x.key, x.val)) := by rw [he]; exact List.mem_map.2 ⟨p, hp, rfl⟩
      obtain ⟨y, hy, e1⟩ := List.mem_map.1 this
      exact h2 y hy (congrArg Prod.fst e1)
    refine ⟨setBlock w b (.map (es.push ⟨mk x, v, clock⟩) (clock + 1)), ?_, ⟨_, _, heap_setBlock_same hb _, ?_, by simp; omega, stamped_push hs h2, ?_⟩, ⟨rfl, rfl, rfl, by simp [setBlock], fun i _ hi => heap_setBlock_other hb _ (fun e => hi (by rw [e]))⟩, by simp [setBlock]⟩
    · simp [Instr.mapUpdate, run_underlying T.ht, MapKept.run_getObj_map hb, T.K.check w false hkey, h1, MapKept.run_setObj_map _ hb, Result.andThen, setBlock]
    · rw [putE, if_neg hnot, Array.toList_push, List.map_append, he]; simp
    · intro y hy
      simp only [Array.toList_push, List.mem_append, List.mem_singleton] at hy
      rcases hy with hy | rfl
      · exact hk y hy
      · exact ⟨l, hkey⟩
  · have hj : es[j]? = some e0 := by simpa using h2
    have hE : (E.map (fun p => (mk p.1, p.2)))[j]? = some (e0.key, e0.val) := by rw [← he, List.getElem?_map, h2]; rfl
    rw [List.getElem?_map] at hE
    obtain ⟨p, hp, e1⟩ := Option.map_eq_some_iff.1 hE
    obtain ⟨y, u⟩ := p
    simp only [Prod.mk.injEq] at e1
    obtain ⟨e1, rfl⟩ := e1
    obtain rfl := T.inj _ _ (e1.trans h3)
    have hin : y ∈ E.map (·.1) := List.mem_map.2 ⟨_, List.mem_of_getElem? hp, rfl⟩
    have hkeyf : ∀ e', es[j]? = some e' → ({ e' with key := mk y, val := v } : MapEntry).key = e'.key := fun e' he' => by rw [hj] at he'; cases he'; exact h3.symm
    have hlist : (es.modify j (fun e' => { e' with key := mk y, val := v })).toList = es.toList.set j { e0 with key := mk y, val := v } := by rw [Array.toList_modify, modify_eq_set _ _ _ _ h2]
    refine ⟨setBlock w b (.map (es.modify j (fun e' => { e' with key := mk y, val := v })) clock), ?_, ⟨_, _, heap_setBlock_same hb _, ?_, by simpa using hsz, stamped_modify hs _ _ (fun _ _ => rfl) (fun e' _ he' => hkeyf e' he'), ?_⟩, ⟨rfl, rfl, rfl, by simp [setBlock], fun i _ hi => heap_setBlock_other hb _ (fun e => hi (by rw [e]))⟩, by simp [setBlock]⟩
    · simp [Instr.mapUpdate, run_underlying T.ht, MapKept.run_getObj_map hb, T.K.check w false hkey, h1, hj, h3, T.K.stays w hkey, MapKept.run_setObj_map _ hb, Result.andThen, setBlock]
    · rw [putE, if_pos hin, hlist, List.map_set, he, ← set_eq_map hn hp, List.map_set]
    · intro z hz
      rw [hlist] at hz
      rcases List.mem_or_eq_of_mem_set hz with hz | rfl
      · exact hk z hz
      · exact ⟨l, hkey⟩
section
variable {ops : Array Oper} {rest : List Oper} {Q : Exit → Act → World → Prop} {a : Act} {d : Option Tmp} {ty : TypeId} {pos : String} {aft : Array Edge} {m x : Operand}
/-- 'm[k]', 'v, ok := m[k]'. -/
theorem wpList_lookM [DecidableEq κ] (T : KeyT P t k e mk) (h : MapIs P k mk w b E) {z : Value} (hz : (zeroValue e).run P w = .ok z w) {key : κ} {l : Lit} (hkey : keyOf P k (mk key) = some l) {c : Bool} {v : Value} (hv : lookV c z (E.lookup key) = v) (hm : a.eval m = .map (some b)) (hx : a.eval x = mk key)
    (hK : wpList P ops Q rest (a.put d v) w) : wpList P ops Q (⟨d, .lookup t m x c, ty, pos, aft, none⟩ :: rest) a w := by
  refine wpList_val rfl (v := v) (w' := w) ?_ hK
  have := h.look c T hz hkey
  rw [hv] at this
  simp [execOp, hm, hx, this, Result.andThen]
/-- A map literal's entry. -/
theorem wpList_insertM [DecidableEq κ] (T : KeyT P t k e mk) (h : MapIs P k mk w b E) (hroom : E.length < maxLen) {v : Operand} {key : κ} {l : Lit} {val : Value} (hkey : keyOf P k (mk key) = some l) (hm : a.eval m = .map (some b)) (hx : a.eval x = mk key) (hv : a.eval v = val)
    (hK : ∀ w', MapIs P k mk w' b (putE E key val) → w.grownBy w' (some b) → w'.heap.size = w.heap.size → wpList P ops Q rest (a.put d undef) w') :
    wpList P ops Q (⟨d, .insert t m x v, ty, pos, aft, none⟩ :: rest) a w := by
  obtain ⟨w', hrun, r1, r2, r3⟩ := h.store T hroom hkey val
  refine wpList_did rfl (w' := w') ?_ (hK w' r1 r2 r3)
  simp [execOp, hm, hx, hv, hrun, Result.andThen]
/-- 'm[k] = v'. -/
theorem wpList_storeM [DecidableEq κ] (T : KeyT P t k e mk) (h : MapIs P k mk w b E) (hroom : E.length < maxLen) {v : Operand} {key : κ} {l : Lit} {val : Value} (hkey : keyOf P k (mk key) = some l) (hm : a.eval m = .map (some b)) (hx : a.eval x = mk key) (hv : a.eval v = val)
    (hK : ∀ w', MapIs P k mk w' b (putE E key val) → w.grownBy w' (some b) → w'.heap.size = w.heap.size → wpList P ops Q rest (a.put d undef) w') :
    wpList P ops Q (⟨d, .mapUpdate t m x v, ty, pos, aft, none⟩ :: rest) a w := by
  obtain ⟨w', hrun, r1, r2, r3⟩ := h.store T hroom hkey val
  refine wpList_did rfl (w' := w') ?_ (hK w' r1 r2 r3)
  simp [execOp, hm, hx, hv, hrun, Result.andThen]
end
end
end Go.Fd
namespace Go.Proofs.YtimnbnomaajmmaaGreat
open Go.RowKit Go.Fd
abbrev I64 (n : Nat) : Value := .int .i64 (n : Int)
theorem TI : SliceT Tryz.prog 94 3 1 8 := SliceT.mk' (z := .int .i64 0) (by kernel_rfl) (by kernel_rfl) rfl (by omega)
/-- A name's place in a list of them. -/
abbrev lkp {κ ν : Type} [DecidableEq κ] (E : List (κ × ν)) (x : κ) : Option ν := @List.lookup κ ν instBEqOfDecidableEq x E
/-- A table under way: its bytes, the places of names, what is told. -/
structure Tab where
  tab : List UInt8
  at_ : List (List UInt8 × Nat)
  out : List Nat
def stepB (t : Tab) (s : List UInt8) : Tab := match lkp t.at_ s with
  | some p => ⟨t.tab, t.at_, t.out ++ [p]⟩
  | none => ⟨t.tab ++ s ++ [0], t.at_ ++ [(s, t.tab.length)], t.out ++ [t.tab.length]⟩
def startB : Tab := ⟨[0], [([], 0)], []⟩
def buildT (names : List (List UInt8)) : Tab := names.foldl stepB startB
def buildR (names : List (List UInt8)) : List UInt8 × List Nat × Int :=
  if names.all mayS = true then (if 1048576 < (buildT names).tab.length then ([], [], 6) else ((buildT names).tab, (buildT names).out, 0)) else ([], [], 7)
theorem buildT_snoc (l : List (List UInt8)) (s : List UInt8) : buildT (l ++ [s]) = stepB (buildT l) s := by simp [buildT]
theorem step_len (t : Tab) (s : List UInt8) : (stepB t s).tab.length ≤ t.tab.length + s.length + 1 ∧ (stepB t s).out.length = t.out.length + 1 ∧ (stepB t s).at_.length ≤ t.at_.length + 1 := by
  unfold stepB
  split <;> simp <;> omega
theorem buildT_len (l : List (List UInt8)) (h : ∀ s ∈ l, s.length ≤ 128) : (buildT l).tab.length ≤ 1 + 129 * l.length ∧ (buildT l).out.length = l.length ∧ (buildT l).at_.length ≤ 1 + l.length := by
  unfold buildT
  have : ∀ (l : List (List UInt8)) (t : Tab), (∀ s ∈ l, s.length ≤ 128) → (l.foldl stepB t).tab.length ≤ t.tab.length + 129 * l.length ∧ (l.foldl stepB t).out.length = t.out.length + l.length ∧ (l.foldl stepB t).at_.length ≤ t.at_.length + l.length := by
    intro l
    induction l with
    | nil => intro t _; simp
    | cons s l ih =>
      intro t h
      have h1 := step_len t s
      have h2 := ih (stepB t s) (fun x hx => h x (by simp [hx]))
      have h3 := h s (by simp)
      rw [List.foldl_cons, List.length_cons]
      omega
  have h1 := this l startB h
  have e1 : startB.tab.length = 1 := rfl
  have e2 : startB.out.length = 0 := rfl
  have e3 : startB.at_.length = 1 := rfl
  omega
def entE (p : List UInt8 × Nat) : List UInt8 × Value := (p.1, I64 p.2)
theorem lkp_map {κ ν ν' : Type} [DecidableEq κ] (f : ν → ν') (A : List (κ × ν)) (s : κ) : lkp (A.map fun p => (p.1, f p.2)) s = (lkp A s).map f := by
  induction A with
  | nil => rfl
  | cons p A ih =>
    obtain ⟨q, n⟩ := p
    unfold lkp at *
    rw [List.map_cons, List.lookup_cons, List.lookup_cons]
    by_cases h : s = q
    · simp [h]
    · rw [show (s == q) = false by simpa using h]
      exact ih
theorem lookup_ent (A : List (List UInt8 × Nat)) (s : List UInt8) : lkp (A.map entE) s = (lkp A s).map I64 := lkp_map I64 A s
theorem putE_ent {A : List (List UInt8 × Nat)} {s : List UInt8} (h : lkp A s = none) (n : Nat) : putE (A.map entE) s (I64 n) = (A ++ [(s, n)]).map entE := by
  rw [putE, if_neg, List.map_append]
  · rfl
  · intro hm
    obtain ⟨v, hv⟩ := lookup_key.2 hm
    have hv2 : lkp (A.map entE) s = some v := hv
    rw [lookup_ent, h] at hv2
    cases hv2
theorem lkp_app {κ ν : Type} [DecidableEq κ] {A : List (κ × ν)} {s : κ} (h : lkp A s = none) (n : ν) : lkp (A ++ [(s, n)]) s = some n := by
  induction A with
  | nil => simp [lkp]
  | cons p A ih =>
    obtain ⟨q, x⟩ := p
    unfold lkp at *
    rw [List.lookup_cons] at h
    rw [List.cons_append, List.lookup_cons]
    by_cases e : s = q
    · rw [show (s == q) = true by simpa using e] at h
      cases h
    · rw [show (s == q) = false by simpa using e] at h ⊢
      exact ih h
theorem own_noMap' {κ : Type} {mk : κ → Value} {w : World} {base e size n : Nat} {v : Value} {xs : List Value} {P : Program} {k : TypeId} {b : Nat} {E : List (κ × Value)} (h : w.ownsRow base e size v n xs) (hm : MapIs P k mk w b E) : some b ≠ v.ownBlock := by
  obtain ⟨es, c, hb, _⟩ := hm
  exact fun e => own_noMap h hb e.symm
theorem TMS : KeyT Tryz.prog 78 9 3 S := ⟨by kernel_rfl, Maps.string_keyed (by kernel_rfl), fun a b h => by simpa [S] using h⟩
theorem zeroI (w : World) : (zeroValue 3).run Tryz.prog w = .ok (.int .i64 0) w := by kernel_rfl
theorem keyS (s : List UInt8) (h : s.length ≤ 128) : ∃ l, keyOf Tryz.prog 9 (S s) = some l := ⟨_, Go.WideMaps.keyOf_string_mk (by kernel_rfl) (by rw [sizeS]; unfold maxLen; omega)⟩
set_option maxRecDepth 100000 in
set_option maxHeartbeats 1000000 in
theorem build_any (names : List (List UInt8)) (v : Value) (w : World) (hn : names.length ≤ 100000) (hv : Rd S w v names) :
    Calls Tryz.prog 49 #[v] w fun e w' => ∃ v1 v2, e = .returned (.tuple #[v1, v2, .int .i64 (buildR names).2.2]) ∧ OB w' w.heap.size v1 (buildR names).1 ∧ Ow I64 3 w' w.heap.size v2 (buildR names).2.1 ∧ Below w.heap.size w w' := by
  have HV := Lib.hid hv
  obtain ⟨m, ad, cap, hm, rfl, hmc, _⟩ := hv.shape
  have hm' : m ≤ 100000 := by have := hm.out; omega
  have hmm := @run_makeMap Tryz.prog
  obtain ⟨k0, hk0⟩ := keyS [] (by simp)
  have hmd := MapIs.made (P := Tryz.prog) (k := 9) (mk := S) (w.alloc (.cells #[.int .u8 0] 5))
  rw [World.size_alloc] at hmd
  have HMD := Lib.hid hmd
  clear hmd
  go_enter Tryz.func49, Tryz.ntmps49
  go_wp2_with (with_reducible show wpList _ _ _ (⟨_, .insert _ _ _ _, _, _, _, _⟩ :: _) _ _; go_must (refine wpList_insertM TMS HMD.out (by unfold maxLen; simp) (key := []) hk0 rfl rfl rfl ?_; intro w1 hm1 hg1 hs1))
  have hbm := hm1.lt
  have HB0 : Hid (Below w.heap.size w w1) := by
    refine ((below_alloc w (.cells #[.int .u8 0] 5)).trans ((below_alloc (w.alloc (.cells #[.int .u8 0] 5)) (.map #[] 0)).mono (by simp))).trans (below_of_grown hg1 (by simp; omega) fun k hk => by cases hk; omega)
  have hob : OB (w.alloc (.cells #[.int .u8 0] 5)) w.heap.size (.slice (some ⟨w.heap.size, 0, none⟩) 1 1) [0] := ob_lit w [0] _ 1 rfl rfl (by omega)
  have HOB := Lib.hid (show OB w1 w.heap.size (.slice (some ⟨w.heap.size, 0, none⟩) 1 1) [0] from owns_grown (hob.mono (below_alloc _ _)) hg1 fun k hk h => by simp only [Value.ownBlock, Option.some.injEq] at hk h; omega)
  have HM1 := Lib.hid hm1
  clear hm1 hg1 hs1 hob
  go_loopw [5, 7, 17] (fun vt vl i wr => ∃ k : Nat, i = .int .i64 k ∧ k ≤ m ∧ Hid ((names.take k).all mayS = true) ∧ Hid (OB wr w.heap.size vt (buildT (names.take k)).tab) ∧ Hid (Ow I64 3 wr w.heap.size vl (buildT (names.take k)).out) ∧
    Hid (MapIs Tryz.prog 9 S wr (w.heap.size + 1) ((buildT (names.take k)).at_.map entE)) ∧ Hid (Below w.heap.size w wr)) (fun _ _ i _ => m - (intOf i).toNat)
  case atStart => exact ⟨0, rfl, Nat.zero_le _, rfl, HOB.out, Ow.nil _ _ _ _, HM1.out, HB0.out⟩
  case round =>
    obtain ⟨k, rfl, hk, HALL, HOW, HOL, HMP, HB⟩ := hrel
    by_cases hlt : k < m
    · obtain ⟨ad', cap', e1, _, _, hc⟩ := (HV.out.mono HB.out).open []
      simp only [Value.slice.injEq] at e1
      obtain ⟨rfl, -, rfl⟩ := e1
      obtain ⟨b, off, rfl, hcell⟩ := hc k (by have := hm.out; omega)
      have HT := Lib.hid (take_snoc' names k (names[k]?.getD []) (by rw [List.getElem?_eq_getElem (by have := hm.out; omega)]; rfl))
      clear hc
      generalize names[k]?.getD [] = s at *
      cases hmay : mayS s with
      | false =>
        have HR := Lib.hid (show buildR names = ([], [], 7) by
          unfold buildR
          rw [if_neg]
          intro hall
          have h1 : (names.take (k + 1)).all mayS = true := by
            rw [List.all_eq_true] at hall ⊢
            exact fun x hx => hall x (List.mem_of_mem_take hx)
          rw [HT.out, List.all_append] at h1
          simp [hmay] at h1)
        have HC := Lib.hid (strsMay_any s wr)
        rw [hmay] at HC
        clear hmay
        go_wp2_with (go_at_call 86; go_must (refine HC.out.mono ?_; rintro e w2 ⟨rfl, rfl⟩))
        go_ret3
        rw [HR.out]
        exact ⟨_, _, rfl, OB.nil _ _, Ow.nil _ _ _ _, HB.out⟩
      | true =>
        have HC := Lib.hid (strsMay_any s wr)
        rw [hmay] at HC
        have HLS := Lib.hid (mayS_len hmay)
        have HALL2 := Lib.hid (show (names.take (k + 1)).all mayS = true by rw [HT.out, List.all_append, HALL.out]; simp [hmay])
        have HLEN := Lib.hid (buildT_len (names.take k) (fun x hx => mayS_len (List.all_eq_true.1 HALL.out x hx)))
        have HKL := Lib.hid (show (names.take k).length = k by rw [List.length_take]; have := hm.out; omega)
        have HBT := Lib.hid (show buildT (names.take (k + 1)) = stepB (buildT (names.take k)) s by rw [HT.out, buildT_snoc])
        clear hmay
        obtain ⟨kl, hkl⟩ := keyS s HLS.out
        generalize buildT (names.take k) = t at *
        have hlenT : t.tab.length ≤ 12900001 := by have := HLEN.out.1; have := HKL.out; omega
        have hlenO : t.out.length ≤ 100000 := by have := HLEN.out.2.1; have := HKL.out; omega
        have hlenA : (t.at_.map entE).length < maxLen := by have := HLEN.out.2.2; have := HKL.out; rw [List.length_map]; unfold maxLen; omega
        have HLA := Lib.hid hlenA
        clear hlenA
        have hls := HLS.out
        have hBw : w.heap.size ≤ wr.heap.size := HB.out.size
        cases hlk : lkp t.at_ s with
        | some p =>
          have HK1 := Lib.hid (show lkp (t.at_.map entE) s = some (I64 p) by rw [lookup_ent, hlk]; rfl)
          have HL1 : Hid (lookV true (.int .i64 0) (lkp (t.at_.map entE) s) = .tuple #[I64 p, .bool true]) := congrArg (lookV true (.int .i64 0)) HK1.out
          have HL2 : Hid (lookV false (.int .i64 0) (lkp (t.at_.map entE) s) = I64 p) := congrArg (lookV false (.int .i64 0)) HK1.out
          have HST := Lib.hid (show stepB t s = ⟨t.tab, t.at_, t.out ++ [p]⟩ by unfold stepB; rw [hlk])
          clear hlk
          go_wp2_with (first
            | (go_at_call 86; go_must (refine HC.out.mono ?_; rintro e w2 ⟨rfl, rfl⟩))
            | ((with_reducible show wpList _ _ _ (⟨some 27, _, _, _, _, _⟩ :: _) _ _); go_must (refine wpList_lookM TMS HMP.out (zeroI _) hkl HL1.out rfl rfl ?_))
            | ((with_reducible show wpList _ _ _ (⟨some 44, _, _, _, _, _⟩ :: _) _ _); go_must (refine wpList_lookM TMS HMP.out (zeroI _) hkl HL2.out rfl rfl ?_))
            | ((with_reducible show wpList _ _ _ (⟨some 46, _, _, _, _, _⟩ :: _) _ _); go_must (refine wpList_pushE TI HOL.out rfl rfl p rfl rfl (by omega) (by omega) hBw ?_; intro v3 w3 hv3 hg3 hb3)))
          have ht : buildT (names.take (k + 1)) = ⟨t.tab, t.at_, t.out ++ [p]⟩ := HBT.out.trans HST.out
          have G1 : Hid (OB w3 w.heap.size u5 (buildT (names.take (k + 1))).tab) := by rw [ht]; exact owns_grown HOW.out hg3 (fun q hq h => own_apart HOW.out HOL.out (by decide) hq h)
          have G2 : Hid (Ow I64 3 w3 w.heap.size v3 (buildT (names.take (k + 1))).out) := by rw [ht]; exact hv3
          have G3 : Hid (MapIs Tryz.prog 9 S w3 (w.heap.size + 1) ((buildT (names.take (k + 1))).at_.map entE)) := by rw [ht]; exact HMP.out.kept hg3 (own_noMap' HOL.out HMP.out)
          have G4 := Lib.hid (HB.out.trans hb3)
          clear ht
          go_roundw
          case rel =>
            first
              | exact ⟨k + 1, by go_num, by omega, HALL2.out, G1.out, G2.out, G3.out, G4.out⟩
              | ((repeat apply Exists.intro); exact ⟨⟨k + 1, by go_num, by omega, HALL2.out, G1.out, G2.out, G3.out, G4.out⟩, rfl⟩)
          case measure => simp [intOf] <;> omega
        | none =>
          have HK1 := Lib.hid (show lkp (t.at_.map entE) s = none by rw [lookup_ent, hlk]; rfl)
          have HL1 : Hid (lookV true (.int .i64 0) (lkp (t.at_.map entE) s) = .tuple #[.int .i64 0, .bool false]) := congrArg (lookV true (.int .i64 0)) HK1.out
          have HPE := Lib.hid (putE_ent hlk t.tab.length)
          have HK2 := Lib.hid (show lkp ((t.at_ ++ [(s, t.tab.length)]).map entE) s = some (I64 t.tab.length) by rw [lookup_ent, lkp_app hlk]; rfl)
          have HL2 : Hid (lookV false (.int .i64 0) (lkp ((t.at_ ++ [(s, t.tab.length)]).map entE) s) = I64 t.tab.length) := congrArg (lookV false (.int .i64 0)) HK2.out
          have HST := Lib.hid (show stepB t s = ⟨t.tab ++ s ++ [0], t.at_ ++ [(s, t.tab.length)], t.out ++ [t.tab.length]⟩ by unfold stepB; rw [hlk])
          obtain ⟨mt, vta, capt, hmt, rfl, _, _⟩ := HOW.out.shape
          clear hlk
          go_wp2_with (first
            | (go_at_call 86; go_must (refine HC.out.mono ?_; rintro e w2 ⟨rfl, rfl⟩))
            | ((with_reducible show wpList _ _ _ (⟨some 27, _, _, _, _, _⟩ :: _) _ _); go_must (refine wpList_lookM TMS HMP.out (zeroI _) hkl HL1.out rfl rfl ?_))
            | (at_mapUpdate; go_must (refine wpList_storeM TMS HMP.out HLA.out (key := s) (val := I64 mt) hkl rfl rfl rfl ?_; intro w3 hm3 hg3 hs3; rw [hmt.out, HPE.out] at hm3; have hb3 := below_of_grown (B := w.heap.size) hg3 hBw (fun q hq => by cases hq; omega); have HM3 := Lib.hid hm3; have HO3 := Lib.hid (show OB w3 w.heap.size (.slice vta mt capt) t.tab from owns_grown HOW.out hg3 (fun q hq h => by cases h; exact own_noMap' HOW.out HMP.out hq.symm)); have HL3 := Lib.hid (show Ow I64 3 w3 w.heap.size u7 t.out from owns_grown HOL.out hg3 (fun q hq h => by cases h; exact own_noMap' HOL.out HMP.out hq.symm)); have hB3 : w.heap.size ≤ w3.heap.size := (by omega); clear hm3 hg3 hs3))
            | ((with_reducible show wpList _ _ _ (⟨some 38, _, _, _, _, _⟩ :: _) _ _); go_must (refine wpList_catS HO3.out rfl rfl (by omega) hB3 ?_; intro v4 w4 hv4 hg4 hb4; have HO4 := Lib.hid hv4; have HL4 := Lib.hid (show Ow I64 3 w4 w.heap.size u7 t.out from owns_grown HL3.out hg4 (fun q hq h => own_apart HL3.out HO3.out (by decide) hq h)); have HM4 := Lib.hid (HM3.out.kept hg4 (own_noMap' HO3.out HM3.out)); have hB4 : w.heap.size ≤ w4.heap.size := Nat.le_trans hB3 hg4.size; clear hv4 hg4))
            | ((with_reducible show wpList _ _ _ (⟨some 40, _, _, _, _, _⟩ :: _) _ _); go_must (refine wpList_pushB HO4.out rfl rfl 0 rfl (by simp; omega) hB4 ?_; intro v5 w5 hv5 hg5 hb5; have HO5 := Lib.hid hv5; have HL5 := Lib.hid (show Ow I64 3 w5 w.heap.size u7 t.out from owns_grown HL4.out hg5 (fun q hq h => own_apart HL4.out HO4.out (by decide) hq h)); have HM5 := Lib.hid (HM4.out.kept hg5 (own_noMap' HO4.out HM4.out)); have hB5 : w.heap.size ≤ w5.heap.size := Nat.le_trans hB4 hg5.size; clear hv5 hg5))
            | ((with_reducible show wpList _ _ _ (⟨some 44, _, _, _, _, _⟩ :: _) _ _); go_must (refine wpList_lookM TMS HM5.out (zeroI _) hkl HL2.out rfl rfl ?_))
            | ((with_reducible show wpList _ _ _ (⟨some 46, _, _, _, _, _⟩ :: _) _ _); go_must (refine wpList_pushE TI HL5.out rfl rfl t.tab.length rfl rfl (by omega) (by omega) hB5 ?_; intro v6 w6 hv6 hg6 hb6)))
          have ht : buildT (names.take (k + 1)) = ⟨t.tab ++ s ++ [0], t.at_ ++ [(s, t.tab.length)], t.out ++ [t.tab.length]⟩ := HBT.out.trans HST.out
          have G1 : Hid (OB w6 w.heap.size v5 (buildT (names.take (k + 1))).tab) := by rw [ht]; exact owns_grown HO5.out hg6 (fun q hq h => own_apart HO5.out HL5.out (by decide) hq h)
          have G2 : Hid (Ow I64 3 w6 w.heap.size v6 (buildT (names.take (k + 1))).out) := by rw [ht]; exact hv6
          have G3 : Hid (MapIs Tryz.prog 9 S w6 (w.heap.size + 1) ((buildT (names.take (k + 1))).at_.map entE)) := by rw [ht]; exact HM5.out.kept hg6 (own_noMap' HL5.out HM5.out)
          have G4 := Lib.hid (HB.out.trans (hb3.trans (hb4.trans (hb5.trans hb6))))
          clear ht
          go_roundw
          case rel =>
            first
              | exact ⟨k + 1, by go_num, by omega, HALL2.out, G1.out, G2.out, G3.out, G4.out⟩
              | ((repeat apply Exists.intro); exact ⟨⟨k + 1, by go_num, by omega, HALL2.out, G1.out, G2.out, G3.out, G4.out⟩, rfl⟩)
          case measure => simp [intOf] <;> omega
    · have hkm : k = m := by omega
      have HKM := Lib.hid (show names.take k = names by rw [hkm, hm.out, List.take_length])
      rw [HKM.out] at HALL HOW HOL
      have HLN := Lib.hid (buildT_len names (fun x hx => mayS_len (List.all_eq_true.1 HALL.out x hx)))
      obtain ⟨mt, vta, capt, hmt, rfl, _, _⟩ := HOW.out.shape
      clear hkm
      by_cases hbig : 1048576 < mt
      · have HR := Lib.hid (show buildR names = ([], [], 6) by unfold buildR; rw [if_pos HALL.out, if_pos (by rw [← hmt.out]; exact hbig)])
        go_wp2
        go_ret3
        rw [HR.out]
        exact ⟨_, _, rfl, OB.nil _ _, Ow.nil _ _ _ _, HB.out⟩
      · have HR := Lib.hid (show buildR names = ((buildT names).tab, (buildT names).out, 0) by unfold buildR; rw [if_pos HALL.out, if_neg (by rw [← hmt.out]; exact hbig)])
        go_wp2
        go_ret3
        rw [HR.out]
        exact ⟨_, _, rfl, HOW.out, HOL.out, HB.out⟩
end Go.Proofs.YtimnbnomaajmmaaGreat
namespace Go.Proofs.YtimnbnomaajmmaaGreat
open Go.RowKit Go.Fd
theorem snoc_ind {α : Type} {P : List α → Prop} (h0 : P []) (h1 : ∀ l x, P l → P (l ++ [x])) (l : List α) : P l := by
  have h : ∀ l : List α, P l.reverse := by
    intro l
    induction l with
    | nil => exact h0
    | cons x l ih => rw [List.reverse_cons]; exact h1 _ _ ih
  have := h l.reverse
  rwa [List.reverse_reverse] at this
theorem lkp_cons {κ ν : Type} [DecidableEq κ] (q : κ) (n : ν) (A : List (κ × ν)) (x : κ) : lkp ((q, n) :: A) x = if x = q then some n else lkp A x := by
  unfold lkp
  rw [List.lookup_cons]
  by_cases e : x = q
  · simp [e]
  · rw [show (x == q) = false by simpa using e, if_neg e]
theorem lkp_other {κ ν : Type} [DecidableEq κ] {x s : κ} (h : x ≠ s) (n : ν) (A : List (κ × ν)) : lkp (A ++ [(s, n)]) x = lkp A x := by
  induction A with
  | nil => rw [List.nil_append, lkp_cons, if_neg h]
  | cons q A ih =>
    obtain ⟨q, m⟩ := q
    rw [List.cons_append, lkp_cons, lkp_cons, ih]
theorem step_at (t : Tab) (s x : List UInt8) : lkp (stepB t s).at_ x = if x = s then some (match lkp t.at_ s with | some p => p | none => t.tab.length) else lkp t.at_ x := by
  unfold stepB
  cases h : lkp t.at_ s with
  | some p =>
    simp only
    by_cases e : x = s
    · subst e; rw [if_pos rfl, h]
    · rw [if_neg e]
  | none =>
    simp only
    by_cases e : x = s
    · subst e; rw [if_pos rfl, lkp_app h]
    · rw [if_neg e]
      exact lkp_other e _ _
theorem step_out (t : Tab) (s : List UInt8) : (stepB t s).out = t.out ++ [match lkp t.at_ s with | some p => p | none => t.tab.length] := by
  unfold stepB
  cases lkp t.at_ s <;> rfl
/-- Each name's place is the one that is told. -/
theorem build_places (names : List (List UInt8)) : (buildT names).out.length = names.length ∧ (∀ (j : Nat) (s : List UInt8) (p : Nat), names[j]? = some s → (buildT names).out[j]? = some p → lkp (buildT names).at_ s = some p) ∧ (∀ s, s ∉ names → s ≠ [] → lkp (buildT names).at_ s = none) ∧ lkp (buildT names).at_ [] = some 0 := by
  refine snoc_ind (P := fun names => (buildT names).out.length = names.length ∧ (∀ (j : Nat) (s : List UInt8) (p : Nat), names[j]? = some s → (buildT names).out[j]? = some p → lkp (buildT names).at_ s = some p) ∧ (∀ s, s ∉ names → s ≠ [] → lkp (buildT names).at_ s = none) ∧ lkp (buildT names).at_ [] = some 0) ?_ (fun names x ih => ?_) names
  · refine ⟨rfl, fun j s p h => by simp at h, fun s _ h => ?_, ?_⟩
    · show lkp [([], 0)] s = none
      rw [lkp_cons, if_neg h]; rfl
    · show lkp [([], 0)] [] = some 0
      rw [lkp_cons, if_pos rfl]
  · obtain ⟨h1, h2, h3, h4⟩ := ih
    rw [buildT_snoc]
    refine ⟨by rw [step_out, List.length_append, List.length_append, h1]; rfl, fun j s p hj hp => ?_, fun s hs hne => ?_, ?_⟩
    · rw [step_at]
      rw [step_out] at hp
      by_cases hjl : j < names.length
      · rw [List.getElem?_append_left hjl] at hj
        rw [List.getElem?_append_left (by omega)] at hp
        have := h2 j s p hj hp
        by_cases e : s = x
        · subst e; rw [if_pos rfl, this]
        · rw [if_neg e, this]
      · have hje : j = names.length := by
          have := (List.getElem?_eq_some_iff.1 hj).1
          simp at this
          omega
        subst hje
        rw [List.getElem?_append_right (Nat.le_refl _), Nat.sub_self] at hj
        rw [← h1, List.getElem?_append_right (Nat.le_refl _), Nat.sub_self] at hp
        simp at hj hp
        subst hj
        rw [if_pos rfl, hp]
    · rw [step_at, if_neg (by intro e; exact hs (by simp [e])), h3 s (fun hm => hs (by simp [hm])) hne]
    · rw [step_at]
      by_cases e : ([] : List UInt8) = x
      · subst e; rw [if_pos rfl, h4]
      · rw [if_neg e, h4]
theorem step_mono (t : Tab) (s : List UInt8) : t.tab.length ≤ (stepB t s).tab.length := by
  unfold stepB
  split <;> simp <;> omega
theorem build_mono (a b : List (List UInt8)) : (buildT a).tab.length ≤ (buildT (a ++ b)).tab.length := by
  refine snoc_ind (P := fun b => (buildT a).tab.length ≤ (buildT (a ++ b)).tab.length) ?_ (fun b x ih => ?_) b
  · rw [List.append_nil]; exact Nat.le_refl _
  · rw [← List.append_assoc, buildT_snoc]
    exact Nat.le_trans ih (step_mono _ _)
/-- No place lies behind the table. -/
theorem build_bound (names : List (List UInt8)) : (∀ p ∈ (buildT names).out, p ≤ (buildT names).tab.length) ∧ (∀ s p, lkp (buildT names).at_ s = some p → p ≤ (buildT names).tab.length) := by
  refine snoc_ind (P := fun names => (∀ p ∈ (buildT names).out, p ≤ (buildT names).tab.length) ∧ (∀ s p, lkp (buildT names).at_ s = some p → p ≤ (buildT names).tab.length)) ?_ (fun names x ih => ?_) names
  · refine ⟨(fun p h => by cases h), fun s p h => ?_⟩
    have h' : lkp [([], 0)] s = some p := h
    rw [lkp_cons] at h'
    split at h'
    · cases h'; exact Nat.zero_le _
    · cases h'
  · obtain ⟨h1, h2⟩ := ih
    have hm := step_mono (buildT names) x
    rw [buildT_snoc]
    have hx : (match lkp (buildT names).at_ x with | some p => p | none => (buildT names).tab.length) ≤ (stepB (buildT names) x).tab.length := by
      cases hl : lkp (buildT names).at_ x with
      | some p => exact Nat.le_trans (h2 x p hl) hm
      | none => exact hm
    refine ⟨fun p hp => ?_, fun s p hp => ?_⟩
    · rw [step_out] at hp
      rcases List.mem_append.1 hp with hp | hp
      · exact Nat.le_trans (h1 p hp) hm
      · rw [List.mem_singleton.1 hp]; exact hx
    · rw [step_at] at hp
      split at hp
      · cases hp; exact hx
      · exact Nat.le_trans (h2 s p hp) hm
end Go.Proofs.YtimnbnomaajmmaaGreat
namespace Go.Proofs.YtimnbnomaajmmaaGreat
open Go.RowKit Go.Fd
/-- How far the names have been looked at for an equal one: none so far, or its place. -/
def Sought (names : List (List UInt8)) (out : List Nat) (s : List UInt8) (k : Nat) (z : Int) : Prop :=
  (z = -1 ∧ ∀ j, j < k → names[j]? ≠ some s) ∨ (∃ (j p : Nat), names[j]? = some s ∧ out[j]? = some p ∧ z = (p : Int))
theorem below_drewN {B : Nat} {a w : World} (h : Below B a w) (n : Nat) : Below B a (w.drewN n) := ⟨h.os, h.tape, h.output, h.size, h.block⟩
set_option maxRecDepth 100000 in
set_option maxHeartbeats 2000000 in
theorem ref3Build_any (names : List (List UInt8)) (v : Value) (w : World) (hn : names.length ≤ 100000) (hs : ∀ s ∈ names, s.length ≤ 9223372036854775807) (hv : Rd S w v names) :
    Calls Tryz.prog 71 #[v] w fun e w' => ∃ v1 v2, e = .returned (.tuple #[v1, v2, .int .i64 (buildR names).2.2]) ∧ OB w' w.heap.size v1 (buildR names).1 ∧ Ow I64 3 w' w.heap.size v2 (buildR names).2.1 ∧ Below w.heap.size w w' := by
  have HV := Lib.hid hv
  have HSL := Lib.hid hs
  obtain ⟨m, ad, cap, hm, rfl, hmc, _⟩ := hv.shape
  have hm' : m ≤ 100000 := by have := hm.out; omega
  clear hs hv
  go_enter Tryz.func71, Tryz.ntmps71
  go_wp2
  have hba := below_alloc w (.cells #[.int .u8 0] 5)
  have HOB := Lib.hid (show OB (w.alloc (.cells #[.int .u8 0] 5)) w.heap.size (.slice (some ⟨w.heap.size, 0, none⟩) 1 1) [0] from ob_lit w [0] _ 1 rfl rfl (by omega))
  obtain ⟨w1, hw1⟩ : ∃ w1, w1 = w.alloc (.cells #[.int .u8 0] 5) := ⟨_, rfl⟩
  rw [← hw1] at hba HOB
  have HBA := Lib.hid hba
  have hcell1 : ∀ k, k < m → ∃ b off, Hid (ad = some ⟨b, off, none⟩) ∧ w.cell? ⟨b, off + k, none⟩ = some (S (names[k]?.getD [])) := fun k hk => by
    obtain ⟨ad', cap', e1, _, _, hc⟩ := HV.out.open []
    simp only [Value.slice.injEq] at e1
    obtain ⟨rfl, -, rfl⟩ := e1
    exact hc k (by have := hm.out; omega)
  have HC1 := Lib.hid hcell1
  rw [← hw1]
  clear hcell1 hw1 hba
  go_loop [7] (fun i => ∃ k : Nat, i = .int .i64 k ∧ k ≤ m ∧ Hid ((names.take k).all mayS = true)) (fun i => m - (intOf i).toNat)
  case atStart => exact ⟨0, rfl, Nat.zero_le _, rfl⟩
  case round =>
    obtain ⟨k, rfl, hk, HALL⟩ := hrel
    by_cases hlt : k < m
    · obtain ⟨b, off, had, hcell0⟩ := HC1.out k hlt
      obtain rfl := had.out
      have hcell := (HBA.out.cell (block_lt hcell0)).trans hcell0
      clear hcell0
      have HT := Lib.hid (take_snoc' names k (names[k]?.getD []) (by rw [List.getElem?_eq_getElem (by have := hm.out; omega)]; rfl))
      have HSL2 := Lib.hid (show (names[k]?.getD []).length ≤ 9223372036854775807 by rw [List.getElem?_eq_getElem (by have := hm.out; omega)]; exact HSL.out _ (List.getElem_mem _))
      generalize names[k]?.getD [] = s at *
      have HC := Lib.hid (ref3May_any s w1 HSL2.out)
      cases hmay : mayS s with
      | false =>
        have HR := Lib.hid (show buildR names = ([], [], 7) by
          unfold buildR
          rw [if_neg]
          intro hall
          have h1 : (names.take (k + 1)).all mayS = true := by
            rw [List.all_eq_true] at hall ⊢
            exact fun x hx => hall x (List.mem_of_mem_take hx)
          rw [HT.out, List.all_append] at h1
          simp [hmay] at h1)
        rw [hmay] at HC
        clear hmay
        go_wp2_with (go_at_call 99; go_must (refine HC.out.mono ?_; rintro e w2 ⟨rfl, rfl⟩))
        go_ret3
        rw [HR.out]
        exact ⟨_, _, rfl, OB.nil _ _, Ow.nil _ _ _ _, HBA.out⟩
      | true =>
        have HALL2 := Lib.hid (show (names.take (k + 1)).all mayS = true by rw [HT.out, List.all_append, HALL.out]; simp [hmay])
        rw [hmay] at HC
        clear hmay
        go_wp2_with (go_at_call 99; go_must (refine HC.out.mono ?_; rintro e w2 ⟨rfl, rfl⟩))
        go_round
        case rel => exact ⟨k + 1, by go_num, by omega, HALL2.out⟩
        case measure => simp [intOf] <;> omega
    · have hkm : k = m := by omega
      have HALLN := Lib.hid (show names.all mayS = true by have := HALL.out; rw [hkm, hm.out, List.take_length] at this; exact this)
      clear hkm HALL
      go_wp2
      go_loopw [5, 6, 8] (fun vt vl i wr => ∃ k : Nat, i = .int .i64 k ∧ k ≤ m ∧ Hid ((buildT (names.take k)).tab.length ≤ 1048576) ∧ Hid (OB wr w.heap.size vt (buildT (names.take k)).tab) ∧ Hid (Ow I64 3 wr w.heap.size vl (buildT (names.take k)).out) ∧
        Hid (Below w.heap.size w wr) ∧ Hid (Below w.heap.size w1 wr)) (fun _ _ i _ => m - (intOf i).toNat)
      case atStart => exact ⟨0, rfl, Nat.zero_le _, (by decide : startB.tab.length ≤ 1048576), HOB.out, Ow.nil _ _ _ _, HBA.out, Below.refl _ _⟩
      case round =>
        obtain ⟨k, rfl, hk, HLT, HOW, HOL, HB, HB1⟩ := hrel
        obtain ⟨wo, rfl⟩ : ∃ wo : World, wo = wr := ⟨_, rfl⟩
        by_cases hlt : k < m
        · obtain ⟨b, off, had, hcell0⟩ := HC1.out k hlt
          obtain rfl := had.out
          have hcell := (HB.out.cell (block_lt hcell0)).trans hcell0
          clear hcell0
          have HNK := Lib.hid (show names[k]? = some (names[k]?.getD []) by rw [List.getElem?_eq_getElem (by have := hm.out; omega)]; rfl)
          have HT := Lib.hid (take_snoc' names k (names[k]?.getD []) HNK.out)
          have HMY := Lib.hid (show mayS (names[k]?.getD []) = true by rw [List.getElem?_eq_getElem (by have := hm.out; omega)]; exact List.all_eq_true.1 HALLN.out _ (List.getElem_mem _))
          have HLEN := Lib.hid (buildT_len (names.take k) (fun x hx => mayS_len (List.all_eq_true.1 HALLN.out x (List.mem_of_mem_take hx))))
          have HKL := Lib.hid (show (names.take k).length = k by rw [List.length_take]; have := hm.out; omega)
          have HBT := Lib.hid (show buildT (names.take (k + 1)) = stepB (buildT (names.take k)) (names[k]?.getD []) by rw [HT.out, buildT_snoc])
          have HPL := Lib.hid (build_places (names.take k))
          generalize names[k]?.getD [] = s at *
          have hlenO : (buildT (names.take k)).out.length ≤ 100000 := by have := HLEN.out.2.1; have := HKL.out; omega
          have HLO := Lib.hid hlenO
          have hBo := HB.out.size
          have hls := mayS_len HMY.out
          clear hlenO
          by_cases hnil : s = []
          · subst hnil
            go_wp2_with (((with_reducible show wpList _ _ _ (⟨some 37, _, _, _, _, _⟩ :: _) _ _); go_must (refine wpList_pushE TI HOL.out rfl rfl 0 rfl rfl (by have := HLO.out; omega) (by omega) hBo ?_; intro v3 w3 hv3 hg3 hb3)))
            have ht : buildT (names.take (k + 1)) = ⟨(buildT (names.take k)).tab, (buildT (names.take k)).at_, (buildT (names.take k)).out ++ [0]⟩ := by
              rw [HBT.out]; unfold stepB; rw [HPL.out.2.2.2]
            have G1 : Hid (OB w3 w.heap.size u5 (buildT (names.take (k + 1))).tab) := by rw [ht]; exact owns_grown HOW.out hg3 (fun q hq h => own_apart HOW.out HOL.out (by decide) hq h)
            have G2 : Hid (Ow I64 3 w3 w.heap.size v3 (buildT (names.take (k + 1))).out) := by rw [ht]; exact hv3
            have G3 : Hid ((buildT (names.take (k + 1))).tab.length ≤ 1048576) := by rw [ht]; exact HLT.out
            have G4 := Lib.hid (HB.out.trans hb3)
            have G5 := Lib.hid (HB1.out.trans hb3)
            clear ht
            go_roundw
            case rel =>
              first
                | exact ⟨k + 1, by go_num, by omega, G3.out, G1.out, G2.out, G4.out, G5.out⟩
                | ((repeat apply Exists.intro); exact ⟨⟨k + 1, by go_num, by omega, G3.out, G1.out, G2.out, G4.out, G5.out⟩, rfl⟩)
            case measure => simp [intOf] <;> omega
          · obtain ⟨mt, vta, capt, hmt, rfl, _, _⟩ := HOW.out.shape
            have hne : s.isEmpty = false := by simpa using hnil
            have HNN := Lib.hid hnil
            clear hnil
            go_wp2
            go_loopw [9, 10] (fun pv iv wr => ∃ (z : Int) (j : Nat), pv = .int .i64 z ∧ iv = .int .i64 j ∧ j ≤ k ∧ -1 ≤ z ∧ z ≤ 100000000 ∧ Hid (Sought (names.take k) (buildT (names.take k)).out s j z) ∧ Hid (Below wo.heap.size wo wr)) (fun _ iv _ => k - (intOf iv).toNat)
            case atStart => exact ⟨-1, 0, rfl, rfl, Nat.zero_le _, by omega, by omega, .inl ⟨rfl, fun j h => by omega⟩, Below.refl _ _⟩
            case round =>
              obtain ⟨z, j, rfl, rfl, hj, hz1, hz2, HSO, HBI⟩ := hrel
              by_cases hjk : j < k
              · by_cases hz : z < 0
                · obtain ⟨bj, offj, hadj, hcj0⟩ := HC1.out j (by omega)
                  cases hadj.out
                  have hbw := HB.out.trans (HBI.out.mono hBo)
                  have hcj := (hbw.cell (block_lt hcj0)).trans hcj0
                  have hck := (HBI.out.cell (block_lt hcell)).trans hcell
                  have HNJ := Lib.hid (show names[j]? = some (names[j]?.getD []) by rw [List.getElem?_eq_getElem (by have := hm.out; omega)]; rfl)
                  have hjo : j < (buildT (names.take k)).out.length := by have := HLEN.out.2.1; have := HKL.out; omega
                  clear hcj0 hbw
                  generalize names[j]?.getD [] = s2 at *
                  by_cases he : s2 = s
                  · have hb : (s2 == s) = true := by simpa using he
                    have HE := Lib.hid he
                    clear he
                    obtain ⟨g, capo, rfl, _, _, _, hoc, _⟩ := (HOL.out.mono HBI.out).open 0 (by omega)
                    have hcp := hoc j hjo
                    have HPJ := Lib.hid (show (buildT (names.take k)).out[j]? = some ((buildT (names.take k)).out[j]?.getD 0) by rw [List.getElem?_eq_getElem hjo]; rfl)
                    generalize (buildT (names.take k)).out[j]?.getD 0 = p at *
                    have hpb : p ≤ 1048576 := Nat.le_trans ((build_bound _).1 p (List.mem_of_getElem? HPJ.out)) HLT.out
                    clear hoc
                    go_wp2
                    go_quiet (fail)
                    go_wp2
                    go_roundw
                    case rel =>
                      have GS : Sought (names.take k) (buildT (names.take k)).out s (j + 1) p := .inr ⟨j, p, by rw [List.getElem?_take, if_pos hjk, HNJ.out, HE.out], HPJ.out, rfl⟩
                      first
                        | exact ⟨(p : Int), j + 1, rfl, by go_num, by omega, by omega, by omega, GS, below_drewN HBI.out _⟩
                        | ((repeat apply Exists.intro); exact ⟨⟨(p : Int), j + 1, rfl, by go_num, by omega, by omega, by omega, GS, below_drewN HBI.out _⟩, rfl⟩)
                    case measure => simp [intOf] <;> omega
                  · have hb : (s2 == s) = false := by simpa using he
                    have HE := Lib.hid he
                    clear he
                    go_wp2
                    go_quiet (fail)
                    go_wp2
                    go_roundw
                    case rel =>
                      have GS : Sought (names.take k) (buildT (names.take k)).out s (j + 1) z := by
                        rcases HSO.out with ⟨h0, h1⟩ | ⟨j', p, _, _, g3⟩
                        · refine .inl ⟨h0, fun q hq hn => ?_⟩
                          by_cases e : q = j
                          · subst e
                            rw [List.getElem?_take, if_pos hjk, HNJ.out] at hn
                            exact HE.out (Option.some.inj hn)
                          · exact h1 q (by omega) hn
                        · omega
                      first
                        | exact ⟨z, j + 1, rfl, by go_num, by omega, hz1, hz2, GS, below_drewN HBI.out _⟩
                        | ((repeat apply Exists.intro); exact ⟨⟨z, j + 1, rfl, by go_num, by omega, hz1, hz2, GS, below_drewN HBI.out _⟩, rfl⟩)
                    case measure => simp [intOf] <;> omega
                · skip
                  have HSR : Hid (∃ p : Nat, z = (p : Int) ∧ lkp (buildT (names.take k)).at_ s = some p) := by
                    rcases HSO.out with ⟨h, _⟩ | ⟨j', p, g1, g2, g3⟩
                    · omega
                    · exact ⟨p, g3, HPL.out.2.1 j' s p g1 g2⟩
                  obtain ⟨p, hp, hlk⟩ := HSR.out
                  have HPZ := Lib.hid hp
                  have ht : buildT (names.take (k + 1)) = ⟨(buildT (names.take k)).tab, (buildT (names.take k)).at_, (buildT (names.take k)).out ++ [p]⟩ := by
                    rw [HBT.out]; unfold stepB; rw [hlk]
                  have HTT := Lib.hid ht
                  clear hp hlk ht HSR
                  have HOWr := Lib.hid (HOW.out.mono HBI.out)
                  have HOLr := Lib.hid (HOL.out.mono HBI.out)
                  have hBr : w.heap.size ≤ wr.heap.size := Nat.le_trans hBo HBI.out.size
                  have hmtb : mt ≤ 1048576 := by have := hmt.out; have := HLT.out; omega
                  go_wp2_with (((with_reducible show wpList _ _ _ (⟨some 76, _, _, _, _, _⟩ :: _) _ _); go_must (refine wpList_pushE TI HOLr.out rfl rfl p (congrArg (Value.int .i64) HPZ.out) rfl (by have := HLO.out; omega) (by omega) hBr ?_; intro v3 w3 hv3 hg3 hb3)))
                  have G1 : Hid (OB w3 w.heap.size (.slice vta mt capt) (buildT (names.take (k + 1))).tab) := by rw [HTT.out]; exact owns_grown HOWr.out hg3 (fun q hq h => own_apart HOWr.out HOLr.out (by decide) hq h)
                  have G2 : Hid (Ow I64 3 w3 w.heap.size v3 (buildT (names.take (k + 1))).out) := by rw [HTT.out]; exact hv3
                  have G3 : Hid ((buildT (names.take (k + 1))).tab.length ≤ 1048576) := by rw [HTT.out]; exact HLT.out
                  have G4 := Lib.hid ((HB.out.trans (HBI.out.mono hBo)).trans hb3)
                  have G5 := Lib.hid ((HB1.out.trans (HBI.out.mono hBo)).trans hb3)
                  go_roundw
                  case rel =>
                    first
                      | exact ⟨k + 1, by go_num, by omega, G3.out, G1.out, G2.out, G4.out, G5.out⟩
                      | ((repeat apply Exists.intro); exact ⟨⟨k + 1, by go_num, by omega, G3.out, G1.out, G2.out, G4.out, G5.out⟩, rfl⟩)
                  case measure => simp [intOf] <;> omega
              · have hjk2 : j = k := by omega
                have HJK := Lib.hid hjk2
                clear hjk2
                by_cases hz : z < 0
                · skip
                  have HSR : Hid (lkp (buildT (names.take k)).at_ s = none) := by
                    rcases HSO.out with ⟨_, h⟩ | ⟨j', p, g1, g2, g3⟩
                    · refine HPL.out.2.2.1 s (fun hm => ?_) HNN.out
                      obtain ⟨q, hq, e⟩ := List.getElem_of_mem hm
                      exact h q (by have := HKL.out; have := HJK.out; omega) (by rw [← e]; exact List.getElem?_eq_getElem hq)
                    · omega
                  have ht : buildT (names.take (k + 1)) = ⟨(buildT (names.take k)).tab ++ s ++ [0], (buildT (names.take k)).at_ ++ [(s, (buildT (names.take k)).tab.length)], (buildT (names.take k)).out ++ [(buildT (names.take k)).tab.length]⟩ := by
                    rw [HBT.out]; unfold stepB; rw [HSR.out]
                  have HTT := Lib.hid ht
                  clear ht HSR
                  have HOWr := Lib.hid (HOW.out.mono HBI.out)
                  have HOLr := Lib.hid (HOL.out.mono HBI.out)
                  have hBr : w.heap.size ≤ wr.heap.size := Nat.le_trans hBo HBI.out.size
                  have hmtb : mt ≤ 1048576 := by have := hmt.out; have := HLT.out; omega
                  have hck := (HBI.out.cell (block_lt hcell)).trans hcell
                  go_wp2_with (first
                    | ((with_reducible show wpList _ _ _ (⟨some 69, _, _, _, _, _⟩ :: _) _ _); go_must (refine wpList_catS HOWr.out rfl rfl (by have := HLT.out; omega) hBr ?_; intro v3 w3 hv3 hg3 hb3; have HO3 := Lib.hid hv3; have HL3 := Lib.hid (show Ow I64 3 w3 w.heap.size u6 (buildT (names.take k)).out from owns_grown HOLr.out hg3 (fun q hq h => own_apart HOLr.out HOWr.out (by decide) hq h)); have hB3 : w.heap.size ≤ w3.heap.size := Nat.le_trans hBr hg3.size; clear hv3 hg3))
                    | ((with_reducible show wpList _ _ _ (⟨some 72, _, _, _, _, _⟩ :: _) _ _); go_must (refine wpList_pushB HO3.out rfl rfl 0 rfl (by have := HLT.out; simp; omega) hB3 ?_; intro v4 w4 hv4 hg4 hb4; have HO4 := Lib.hid hv4; have HL4 := Lib.hid (show Ow I64 3 w4 w.heap.size u6 (buildT (names.take k)).out from owns_grown HL3.out hg4 (fun q hq h => own_apart HL3.out HO3.out (by decide) hq h)); have hB4 : w.heap.size ≤ w4.heap.size := Nat.le_trans hB3 hg4.size; obtain ⟨mt4, vta4, capt4, hmt4, rfl, _, _⟩ := HO4.out.shape; clear hv4 hg4))
                    | ((with_reducible show wpList _ _ _ (⟨some 76, _, _, _, _, _⟩ :: _) _ _); go_must (refine wpList_pushE TI HL4.out rfl rfl mt rfl rfl (by have := HLO.out; omega) (by omega) hB4 ?_; intro v5 w5 hv5 hg5 hb5)))
                  all_goals
                    have G1 : Hid (OB w5 w.heap.size (.slice vta4 mt4 capt4) (buildT (names.take (k + 1))).tab) := by rw [HTT.out]; exact owns_grown HO4.out hg5 (fun q hq h => own_apart HO4.out HL4.out (by decide) hq h)
                    have G2 : Hid (Ow I64 3 w5 w.heap.size v5 (buildT (names.take (k + 1))).out) := by rw [HTT.out, ← hmt.out]; exact hv5
                    have G4 := Lib.hid ((HB.out.trans (HBI.out.mono hBo)).trans (hb3.trans (hb4.trans hb5)))
                    have G5 := Lib.hid ((HB1.out.trans (HBI.out.mono hBo)).trans (hb3.trans (hb4.trans hb5)))
                    have HM4 := Lib.hid (show mt4 = (buildT (names.take (k + 1))).tab.length by rw [HTT.out]; exact hmt4.out)
                    first
                      | (have hbig : 1048576 < mt4 := by omega
                         have HR := Lib.hid (show buildR names = ([], [], 6) by
                           unfold buildR
                           rw [if_pos HALLN.out, if_pos]
                           have h1 := build_mono (names.take (k + 1)) (names.drop (k + 1))
                           rw [List.take_append_drop] at h1
                           have := HM4.out
                           omega)
                         go_ret3
                         rw [HR.out]
                         exact ⟨_, _, rfl, OB.nil _ _, Ow.nil _ _ _ _, G4.out⟩)
                      | (have G3 : Hid ((buildT (names.take (k + 1))).tab.length ≤ 1048576) := by
                           have := HM4.out
                           show _ ≤ _
                           omega
                         go_roundw
                         case rel =>
                           first
                             | exact ⟨k + 1, by go_num, by omega, G3.out, G1.out, G2.out, G4.out, G5.out⟩
                             | ((repeat apply Exists.intro); exact ⟨⟨k + 1, by go_num, by omega, G3.out, G1.out, G2.out, G4.out, G5.out⟩, rfl⟩)
                         case measure => simp [intOf] <;> omega)
                · skip
                  have HSR : Hid (∃ p : Nat, z = (p : Int) ∧ lkp (buildT (names.take k)).at_ s = some p) := by
                    rcases HSO.out with ⟨h, _⟩ | ⟨j', p, g1, g2, g3⟩
                    · omega
                    · exact ⟨p, g3, HPL.out.2.1 j' s p g1 g2⟩
                  obtain ⟨p, hp, hlk⟩ := HSR.out
                  have HPZ := Lib.hid hp
                  have ht : buildT (names.take (k + 1)) = ⟨(buildT (names.take k)).tab, (buildT (names.take k)).at_, (buildT (names.take k)).out ++ [p]⟩ := by
                    rw [HBT.out]; unfold stepB; rw [hlk]
                  have HTT := Lib.hid ht
                  clear hp hlk ht HSR
                  have HOWr := Lib.hid (HOW.out.mono HBI.out)
                  have HOLr := Lib.hid (HOL.out.mono HBI.out)
                  have hBr : w.heap.size ≤ wr.heap.size := Nat.le_trans hBo HBI.out.size
                  have hmtb : mt ≤ 1048576 := by have := hmt.out; have := HLT.out; omega
                  go_wp2_with (((with_reducible show wpList _ _ _ (⟨some 76, _, _, _, _, _⟩ :: _) _ _); go_must (refine wpList_pushE TI HOLr.out rfl rfl p (congrArg (Value.int .i64) HPZ.out) rfl (by have := HLO.out; omega) (by omega) hBr ?_; intro v3 w3 hv3 hg3 hb3)))
                  have G1 : Hid (OB w3 w.heap.size (.slice vta mt capt) (buildT (names.take (k + 1))).tab) := by rw [HTT.out]; exact owns_grown HOWr.out hg3 (fun q hq h => own_apart HOWr.out HOLr.out (by decide) hq h)
                  have G2 : Hid (Ow I64 3 w3 w.heap.size v3 (buildT (names.take (k + 1))).out) := by rw [HTT.out]; exact hv3
                  have G3 : Hid ((buildT (names.take (k + 1))).tab.length ≤ 1048576) := by rw [HTT.out]; exact HLT.out
                  have G4 := Lib.hid ((HB.out.trans (HBI.out.mono hBo)).trans hb3)
                  have G5 := Lib.hid ((HB1.out.trans (HBI.out.mono hBo)).trans hb3)
                  go_roundw
                  case rel =>
                    first
                      | exact ⟨k + 1, by go_num, by omega, G3.out, G1.out, G2.out, G4.out, G5.out⟩
                      | ((repeat apply Exists.intro); exact ⟨⟨k + 1, by go_num, by omega, G3.out, G1.out, G2.out, G4.out, G5.out⟩, rfl⟩)
                  case measure => simp [intOf] <;> omega
        · have hkm : k = m := by omega
          have HKM := Lib.hid (show names.take k = names by rw [hkm, hm.out, List.take_length])
          rw [HKM.out] at HOW HOL HLT
          have HR := Lib.hid (show buildR names = ((buildT names).tab, (buildT names).out, 0) by unfold buildR; rw [if_pos HALLN.out, if_neg (by have := HLT.out; omega)])
          clear hkm
          go_wp2
          go_ret3
          rw [HR.out]
          exact ⟨_, _, rfl, HOW.out, HOL.out, HB.out⟩
end Go.Proofs.YtimnbnomaajmmaaGreat
namespace Go.Proofs.YtimnbnomaajmmaaGreat
open Go.RowKit Go.Fd
/-- The name at a place. -/
def atR (tab : List UInt8) (at_ : Int) : List UInt8 × Int :=
  if at_ < 0 ∨ (tab.length : Int) ≤ at_ then ([], 5) else match upto0 (tab.drop at_.toNat) with
    | none => ([], 4)
    | some g => if 128 < g.length then ([], 7) else (g, 0)
theorem strsAt_any (tab : List UInt8) (at_ : Int) (v : Value) (w : World) (hl : tab.length ≤ 1000000000) (hv : Bs w v tab) :
    Calls Tryz.prog 64 #[v, .int .i64 at_] w fun e w' => e = .returned (.tuple #[S (atR tab at_).1, .int .i64 (atR tab at_).2]) ∧ w = w' := by
  have HT := Lib.hid (octText_any tab at_ v w hl hv)
  obtain ⟨m, ad, cap, hm, rfl, hcap, _⟩ := hv.shape
  clear hv
  by_cases h1 : at_ < 0
  · have HR := Lib.hid (show atR tab at_ = ([], 5) by rw [atR, if_pos (.inl h1)])
    go_enter Tryz.func64, Tryz.ntmps64
    go_wp2
    go_ret2
    exact ⟨by rw [HR.out]; rfl, rfl⟩
  by_cases h2 : (m : Int) ≤ at_
  · have HR := Lib.hid (show atR tab at_ = ([], 5) by rw [atR, if_pos (.inr (by rw [← hm.out]; exact h2))])
    go_enter Tryz.func64, Tryz.ntmps64
    go_wp2
    go_ret2
    exact ⟨by rw [HR.out]; rfl, rfl⟩
  have hat : atR tab at_ = match upto0 (tab.drop at_.toNat) with | none => ([], 4) | some g => if 128 < g.length then ([], 7) else (g, 0) := by
    rw [atR, if_neg (by rw [← hm.out]; omega)]
  have htx : textR tab at_ = match upto0 (tab.drop at_.toNat) with | none => ([], 2) | some g => (g, 0) := by rw [textR, if_neg (by rw [← hm.out]; omega)]; (try rfl)
  cases hu : upto0 (tab.drop at_.toNat) with
  | none =>
    rw [hu] at hat htx
    have HR := Lib.hid hat
    rw [htx] at HT
    clear hat htx hu
    go_enter Tryz.func64, Tryz.ntmps64
    go_wp2_with (go_at_call 96; go_must (refine HT.out.mono ?_; rintro e w1 ⟨rfl, rfl⟩))
    go_ret2
    exact ⟨by rw [HR.out]; rfl, rfl⟩
  | some g =>
    rw [hu] at hat htx
    simp only at hat
    rw [htx] at HT
    have hgl := (upto0_prefix _ _ hu).2
    rw [List.length_drop] at hgl
    have hgb : g.length ≤ 1000000000 := by omega
    clear htx hu hgl
    by_cases hg : 128 < g.length
    · rw [if_pos hg] at hat
      have HR := Lib.hid hat
      clear hat
      go_enter Tryz.func64, Tryz.ntmps64
      go_wp2_with (go_at_call 96; go_must (refine HT.out.mono ?_; rintro e w1 ⟨rfl, rfl⟩))
      go_ret2
      exact ⟨by rw [HR.out]; rfl, rfl⟩
    · rw [if_neg hg] at hat
      have HR := Lib.hid hat
      clear hat
      go_enter Tryz.func64, Tryz.ntmps64
      go_wp2_with (go_at_call 96; go_must (refine HT.out.mono ?_; rintro e w1 ⟨rfl, rfl⟩))
      go_ret2
      exact ⟨by rw [HR.out]; rfl, rfl⟩
theorem upto0_hit (l : List UInt8) (k : Nat) (hk : k < l.length) (h : l[k]?.getD 0 = 0) : upto0 (l.drop k) = some [] := by
  rw [List.drop_eq_getElem_cons hk, upto0]
  rw [List.getElem?_eq_getElem hk, Option.getD_some] at h
  rw [if_pos h]
theorem upto0_miss (l : List UInt8) (k : Nat) (hk : k < l.length) (h : ¬ l[k]?.getD 0 = 0) : upto0 (l.drop k) = (upto0 (l.drop (k + 1))).map ((l[k]?.getD 0) :: ·) := by
  rw [List.drop_eq_getElem_cons hk, upto0]
  rw [List.getElem?_eq_getElem hk, Option.getD_some] at h ⊢
  rw [if_neg h]
theorem u8_zero (c : UInt8) : ((c.toNat : Int) == 0) = decide (c = 0) := by
  by_cases h : c = 0
  · subst h; rfl
  · rw [decide_eq_false h]
    have : c.toNat ≠ 0 := fun e => h (UInt8.toNat_inj.1 e)
    exact beq_eq_false_iff_ne.2 (by omega)
set_option maxRecDepth 100000 in
theorem ref3At_any (l : List UInt8) (at_ : Int) (v : Value) (w : World) (hl : l.length ≤ 1000000000) (hv : Bs w v l) :
    Calls Tryz.prog 68 #[v, .int .i64 at_] w fun e w' => e = .returned (.tuple #[S (atR l at_).1, .int .i64 (atR l at_).2]) ∧ w = w' := by
  have hv0 := hv
  obtain ⟨a, cap, rfl, hcap, _, hc⟩ := hv.open
  have HC := Lib.hid hc
  clear hc
  by_cases h1 : at_ < 0
  · have HR := Lib.hid (show atR l at_ = ([], 5) by rw [atR, if_pos (.inl h1)])
    go_enter Tryz.func68, Tryz.ntmps68
    go_wp2
    go_ret2
    exact ⟨by rw [HR.out]; rfl, rfl⟩
  by_cases h2 : (l.length : Int) ≤ at_
  · have HR := Lib.hid (show atR l at_ = ([], 5) by rw [atR, if_pos (.inr h2)])
    go_enter Tryz.func68, Tryz.ntmps68
    go_wp2
    go_ret2
    exact ⟨by rw [HR.out]; rfl, rfl⟩
  obtain ⟨s, rfl⟩ := Int.eq_ofNat_of_zero_le (by omega : 0 ≤ at_)
  have HR := Lib.hid (show atR l s = match upto0 (l.drop s) with | none => ([], 4) | some g => if 128 < g.length then ([], 7) else (g, 0) by rw [atR, if_neg (by omega), Int.toNat_natCast])
  have hs : s ≤ l.length := by omega
  go_enter Tryz.func68, Tryz.ntmps68
  go_wp2
  go_loop [6] (fun i => ∃ k : Nat, s ≤ k ∧ k ≤ l.length ∧ i = .int .i64 k ∧ Hid (upto0 (l.drop s) = (upto0 (l.drop k)).map ((l.drop s).take (k - s) ++ ·))) (fun i => l.length - (intOf i).toNat)
  case atStart => exact ⟨s, Nat.le_refl _, hs, rfl, by show _ = _; simp⟩
  case round =>
    obtain ⟨k, hsk, hk, rfl, HP⟩ := hrel
    by_cases hlt : k < l.length
    · obtain ⟨b, off, rfl, hcell⟩ := HC.out k hlt
      have HHIT := Lib.hid (upto0_hit l k hlt)
      have HMISS := Lib.hid (upto0_miss l k hlt)
      have HTL := Lib.hid (show ((l.drop s).take (k - s)).length = k - s by rw [List.length_take, List.length_drop]; omega)
      have HTK := Lib.hid (show (l.drop s).take (k + 1 - s) = (l.drop s).take (k - s) ++ [l[k]?.getD 0] by
        rw [show k + 1 - s = (k - s) + 1 by omega]
        refine take_snoc' _ _ _ ?_
        rw [List.getElem?_drop, show s + (k - s) = k by omega, List.getElem?_eq_getElem hlt]; rfl)
      have hz := u8_zero (l[k]?.getD 0)
      generalize l[k]?.getD 0 = c at *
      by_cases hc0 : c = 0
      · rw [decide_eq_true hc0] at hz
        have hr2 : atR l s = if 128 < k - s then ([], 7) else ((l.drop s).take (k - s), 0) := by rw [HR.out, HP.out, HHIT.out hc0]; simp only [Option.map_some, List.append_nil]; rw [HTL.out]
        clear hc0
        by_cases hbig : 128 < k - s
        · rw [if_pos hbig] at hr2
          have HR2 := Lib.hid hr2
          have hb2 : (128 : Int) < (k : Int) - s := by omega
          clear hr2
          go_wp2
          go_ret2
          exact ⟨by rw [HR2.out]; rfl, rfl⟩
        · rw [if_neg hbig] at hr2
          have HR2 := Lib.hid hr2
          have hb2 : ¬ (128 : Int) < (k : Int) - s := by omega
          clear hr2
          obtain ⟨v', hrun, hv'⟩ := run_sliceB hv0 (i := s) (j := k) (k := .i64) (k' := .i64) (by omega) (by omega) (by omega)
          have HRUN := Lib.hid hrun
          have hstr := run_str hv'
          rw [show ((s : Int)).toNat = s from rfl, show ((k : Int) - (s : Int)).toNat = k - s by omega] at hstr
          clear hrun
          go_wp2_with (with_reducible show wpList _ _ _ (⟨some 34, _, _, _, _, _⟩ :: _) _ _; refine wpList_val rfl (exec_slice2 HRUN.out rfl rfl rfl) ?_)
          go_ret2
          exact ⟨by rw [HR2.out]; rfl, rfl⟩
      · rw [decide_eq_false hc0] at hz
        have HP2 := Lib.hid (show upto0 (l.drop s) = (upto0 (l.drop (k + 1))).map ((l.drop s).take (k + 1 - s) ++ ·) by rw [HP.out, HMISS.out hc0, HTK.out]; simp [Function.comp_def])
        clear hc0
        go_wp2
        go_round
        case rel => exact ⟨k + 1, by omega, by omega, by go_num, HP2.out⟩
        case measure => simp [intOf] <;> omega
    · obtain rfl : k = l.length := by omega
      have HR2 := Lib.hid (show atR l s = ([], 4) by rw [HR.out, HP.out]; simp [upto0])
      go_wp2
      go_ret2
      exact ⟨by rw [HR2.out]; rfl, rfl⟩
theorem _root_.Go.RowKit.Below.drewN {B : Nat} {a w : World} (h : Below B a w) (n : Nat) : Below B a (w.drewN n) := ⟨h.os, h.tape, h.output, h.size, h.block⟩
end Go.Proofs.YtimnbnomaajmmaaGreat
namespace Go.Proofs.YtimnbnomaajmmaaGreat
open Go.RowKit Go.Fd
/-- A twin: bytes in memory of their own, a mark behind. -/
def Twined (w : World) (base : Nat) (t : Value) (l : List UInt8) : Prop := ∃ g cap, t = .slice (some ⟨g, 0, none⟩) l.length cap ∧ l.length < cap ∧ base ≤ g ∧ OB w base (.slice (some ⟨g, 0, none⟩) (l.length + 1) cap) (l ++ [0x5a])
theorem Twined.mono {w w' : World} {base : Nat} {t : Value} {l : List UInt8} (h : Twined w base t l) (hb : Below w.heap.size w w') : Twined w' base t l := by
  obtain ⟨g, cap, h1, h2, h3, h4⟩ := h
  exact ⟨g, cap, h1, h2, h3, h4.mono hb⟩
theorem Twined.bs {w : World} {base : Nat} {t : Value} {l : List UInt8} (h : Twined w base t l) : Bs w t l := by
  obtain ⟨g, cap, rfl, h2, h3, h4⟩ := h
  refine ⟨by simp, _, _, rfl, by omega, (fun h => by cases h), fun j hj => ⟨g, 0, rfl, ?_⟩⟩
  have := World.ownsRow.cellAt (g := g) (cap := cap) (n := (l ++ [0x5a]).length) (by simpa [OB] using h4) j (by simp at hj ⊢; omega)
  rw [Nat.zero_add, this]
  exact List.getElem?_append_left (by simpa using hj)
set_option maxRecDepth 100000 in
theorem twin_any (l : List UInt8) (v : Value) (w : World) (hl : l.length ≤ 1000000000) (hv : Bs w v l) :
    Calls Tryz.prog 5 #[v] w fun e w' => ∃ t, e = .returned t ∧ Twined w' w.heap.size t l ∧ Below w.heap.size w w' := by
  obtain ⟨m, a, cap, hm, rfl, hmc, _⟩ := hv.shape
  go_enter Tryz.func5, Tryz.ntmps5
  go_wp2_with (first
    | (with_reducible show wpList _ _ _ (⟨some 4, _, _, _, _, _⟩ :: _) _ _; go_must (refine wpList_catB (OB.nil _ w.heap.size) hv rfl rfl (by simp; omega) (Nat.le_refl _) ?_; intro v1 w1 hv1 _ hb1))
    | (with_reducible show wpList _ _ _ (⟨some 6, _, _, _, _, _⟩ :: _) _ _; go_must (refine wpList_pushB hv1 rfl rfl 0x5a rfl (by simp; omega) hb1.size ?_; intro v2 w2 hv2 _ hb2; obtain ⟨g, cap2, rfl, hg, _, hc2, _, _⟩ := hv2.open (by simp)))
    | (with_reducible show wpList _ _ _ (⟨some 9, _, _, _, _, _⟩ :: _) _ _; go_must (refine wpList_val rfl (exec_sliceTo (v' := .slice (some ⟨g, 0, none⟩) m cap2) (run_sliceTo_own g _ cap2 m (by have := hm.out; simp at hc2; omega)) rfl rfl) ?_)))
  go_ret
  have hm' := hm.out
  subst hm'
  simp at hc2 hv2
  exact ⟨_, rfl, ⟨g, cap2, rfl, by omega, hg, hv2⟩, hb1.trans hb2⟩
theorem ob_push {w : World} {base g k cap : Nat} {r : List UInt8} (hk : k = r.length) (c : UInt8) (h : w.ownsRow base 5 1 (.slice (some ⟨g, 0, none⟩) (k + 1) cap) (k + 1) (r.map B ++ [B c])) : OB w base (.slice (some ⟨g, 0, none⟩) (k + 1) cap) (r ++ [c]) := by
  subst hk
  unfold OB
  simpa using h
set_option maxHeartbeats 1000000 in
set_option maxRecDepth 100000 in
theorem spoil_any (l : List UInt8) (base : Nat) (v : Value) (w : World) (hl : l.length ≤ 1000000000) (hv : OB w base v l) :
    Calls Tryz.prog 20 #[v] w fun e w' => e = .returned (.tuple #[]) ∧ w.grownBy w' v.ownBlock := by
  obtain ⟨m, a, cap, hm, rfl, hmc, hnil⟩ := hv.shape
  cases a with
  | none =>
    obtain rfl := hnil rfl
    obtain rfl : m = 0 := by omega
    go_enter Tryz.func20, Tryz.ntmps20
    go_wp2
    refine wp_loop_rounds 1 ?_
    rw [rounds_succ]
    go_wp2
    refine wp_loop_rounds 1 ?_
    rw [rounds_succ]
    go_wp2
    go_end0
    exact ⟨rfl, World.grownBy.refl _ _⟩
  | some ad =>
    have hown := hv
    obtain ⟨_, h2⟩ := hown
    rcases h2 with ⟨h2, _⟩ | ⟨g, cap', cur, h2, hbg, hgw, hnc, hcm, _, _⟩
    · cases h2
    simp only [Value.slice.injEq, Option.some.injEq] at h2
    obtain ⟨rfl, rfl, rfl⟩ := h2
    unfold maxLen at hcm
    clear hm
    by_cases hmin : cap ≤ l.length + 2000
    all_goals
      go_enter Tryz.func20, Tryz.ntmps20
      go_wp2
      go_loopw [0] (fun v wr => ∃ (k : Nat) (r : List UInt8), v = .slice (some ⟨g, 0, none⟩) k cap ∧ k ≤ cap ∧ Hid (k = r.length) ∧ k ≤ 2000 + l.length ∧ OB wr base (.slice (some ⟨g, 0, none⟩) k cap) r ∧ w.grownBy wr (some g)) (fun v _ => cap - lenV v)
      case atStart => exact ⟨l.length, l, rfl, hmc, rfl, by omega, hv, World.grownBy.refl _ _⟩
      case round =>
        obtain ⟨k, r, rfl, hk, HK, hk2, hown, hg⟩ := hrel
        have HO := Lib.hid (show wr.ownsRow base 5 1 (.slice (some ⟨g, 0, none⟩) k cap) k (r.map B) by have := hown; unfold OB at this; rw [← HK.out] at this; exact this)
        have HOB := Lib.hid hown
        clear hown
        by_cases hlt : k < cap ∧ k < l.length + 2000
        · obtain ⟨hlt1, hlt2⟩ := hlt
          go_wp2_with (at_builtin; go_must (refine wpList_pushFits TB HO.out rfl rfl rfl rfl hlt1 ?_; intro w1 hw1 hg1))
          go_roundw
          case rel => exact ⟨k + 1, r ++ [0], rfl, by omega, by have := HK.out; show _ = _; simp; omega, by omega, ob_push HK.out 0 hw1, grownBy_trans hg hg1⟩
          case measure => simp [lenV] <;> omega
        · have HLT := Lib.hid hlt
          have hge : cap ≤ k ∨ l.length + 2000 ≤ k := by omega
          clear hlt
          have HGE := Lib.hid hge
          first
            | (have hx : cap ≤ k := by omega)
            | (have hx : l.length + 2000 ≤ k := by omega)
          clear hge
          go_wp2
          go_loopw [3] (fun i wr => ∃ (i' : Nat) (r : List UInt8), i = .int .i64 i' ∧ i' ≤ k ∧ Hid (k = r.length) ∧ OB wr base (.slice (some ⟨g, 0, none⟩) k cap) r ∧ w.grownBy wr (some g)) (fun i _ => k - (intOf i).toNat)
          case atStart => exact ⟨0, r, rfl, Nat.zero_le _, HK, HOB.out, hg⟩
          case round =>
            obtain ⟨i, r2, rfl, hi, HK2, hown2, hg2⟩ := hrel
            by_cases hlt2 : i < k
            · have hr2 := HK2.out
              obtain ⟨g', cap', e1, _, _, _, hcell, hfz⟩ := hown2.open (by omega)
              simp only [Value.slice.injEq, Option.some.injEq, Addr.mk.injEq, and_true] at e1
              obtain ⟨rfl, _, rfl⟩ := e1
              have hci := hcell i (by omega)
              have hfi := hfz i
              have HO2 := Lib.hid hown2
              clear hcell hfz hown2 hr2
              go_wp2
              go_roundw
              case rel => exact ⟨i + 1, r2.set i 0xee, by go_num, by omega, by show _ = _; rw [List.length_set]; exact HK2.out, by have := HO2.out; rw [HK2.out] at this ⊢; exact this.stored i 0xee, grownBy_trans hg2 (grownBy_setCell _ _ _ _)⟩
              case measure => simp [intOf] <;> omega
            · go_wp2
              go_end0
              exact ⟨rfl, hg2⟩
set_option maxRecDepth 100000 in
theorem kept_any (l : List UInt8) (base : Nat) (t v : Value) (w : World) (hl : l.length ≤ 1000000000) (ht : Twined w base t l) (hv : Bs w v l) :
    Calls Tryz.prog 9 #[t, v] w fun e w' => e = .returned (.bool true) ∧ w = w' := by
  have hs1 := run_str ht.bs
  have hs2 := run_str hv
  obtain ⟨g, cap, rfl, h2, h3, h4⟩ := ht
  obtain ⟨m, a, cap2, hm, rfl, hmc, _⟩ := hv.shape
  have hcell : w.cell? ⟨g, m, none⟩ = some (.int .u8 90) := by
    rw [hm.out]
    have := World.ownsRow.cellAt (g := g) (cap := cap) (n := (l ++ [0x5a]).length) (by simpa [OB] using h4) l.length (by simp)
    rw [this]
    simp
  have hsl := run_sliceTo_own g l.length cap (m + 1) (by have := hm.out; omega)
  rw [show ((m + 1 : Nat) : Int) = (m : Int) + 1 by omega] at hsl
  have HSL := Lib.hid hsl
  have hmb : m ≤ 1000000000 := by have := hm.out; omega
  clear hsl h4 hv
  go_enter Tryz.func9, Tryz.ntmps9
  go_wp2_with (with_reducible show wpList _ _ _ (⟨some 15, _, _, _, _, _⟩ :: _) _ _; go_must (refine wpList_val rfl (exec_sliceTo HSL.out rfl rfl) ?_))
  go_ret
  exact ⟨rfl, rfl⟩
end Go.Proofs.YtimnbnomaajmmaaGreat
namespace Go.Proofs.YtimnbnomaajmmaaGreat
open Go.RowKit Go.Fd
theorem rd_lit {α : Type} (mk : α → Value) (w : World) (l : List α) (cs : Array Value) (n : Nat) (e : TypeId) (h : cs = (l.map mk).toArray) (hn : n = l.length) : Rd mk (w.alloc (.cells cs e)) (.slice (some ⟨w.heap.size, 0, none⟩) n n) l := by
  subst h hn
  refine ⟨by simp, _, _, rfl, Nat.le_refl _, (fun h => by cases h), fun j hj => ⟨w.heap.size, 0, rfl, ?_⟩⟩
  rw [Nat.zero_add]
  exact (Go.World.cell?_alloc_new _ _ _ _).trans (by simp)
end Go.Proofs.YtimnbnomaajmmaaGreat
namespace Go.Proofs.YtimnbnomaajmmaaGreat
open Go.RowKit Go.Fd
theorem buildR_len (names : List (List UInt8)) : (buildR names).1.length ≤ 1 + 129 * names.length ∧ (buildR names).2.1.length ≤ names.length := by
  unfold buildR
  split
  · next h =>
    have hb := buildT_len names (fun x hx => mayS_len (List.all_eq_true.1 h x hx))
    split
    · simp
    · exact ⟨hb.1, Nat.le_of_eq hb.2.1⟩
  · simp
end Go.Proofs.YtimnbnomaajmmaaGreat
namespace Go.Fd
structure SymM where
  name : List UInt8
  bind : Int
  typ : Int
  sec : Int
  value : Nat
  size : Nat
deriving DecidableEq
structure RelaM where
  off : Nat
  typ : Int
  sym : Int
  add : Int
deriving DecidableEq
abbrev encSym (s : SymM) : List Value := [.string ⟨s.name.toArray⟩, .int .i64 s.bind, .int .i64 s.typ, .int .i64 s.sec, .int .u64 (s.value : Int), .int .u64 (s.size : Int)]
abbrev encRela (r : RelaM) : List Value := [.int .u64 (r.off : Int), .int .i64 r.typ, .int .i64 r.sym, .int .i64 r.add]
section
variable {P : Program} {ops : Array Oper} {C : World → Prop}
theorem wpQuiet_run {Q : Act → Prop} {a : Act} {o : Oper} {rest : List Oper} {v : Value} (hg : o.guard = none) (hr : ∀ w, C w → (execOp a.eval o).run P w = .ok (.value v) w)
    (h : wpQuiet P ops C Q rest (a.put o.dst v)) : wpQuiet P ops C Q (o :: rest) a := by
  unfold wpQuiet
  rw [if_pos (by simp [Region.wanted, hg])]
  refine ⟨v, fun w hw => ?_, h⟩
  unfold Oper.quietAt
  rw [hr w hw]
  exact ⟨rfl, rfl⟩
end
/-- Fields of one cell each, compared: a result each. -/
def eqT (P : Program) (d : Nat) (xs ys : Array Value) (w : World) : List (String × TypeId × Nat) → List Bool → Prop
  | [], [] => True
  | (n, t, o) :: ts, r :: rs => n ≠ "_" ∧ (isAgg t).run P w = .ok false w ∧ (∃ a b, xs[o]? = some a ∧ ys[o]? = some b ∧ (Op.equalIn d t a b).run P w = .ok r w) ∧ eqT P d xs ys w ts rs
  | _, _ => False
theorem run_part1 {P : Program} {w : World} {t : TypeId} {xs : Array Value} {o : Nat} {a : Value} (h : (isAgg t).run P w = .ok false w) (ha : xs[o]? = some a) : (part t xs o).run P w = .ok a w := by
  unfold part
  rw [Sem.run_bind, h, Result.andThen_ok, if_neg (by decide), ha]
  rfl
theorem run_eqFields_flat {P : Program} {d : Nat} {xs ys : Array Value} {w : World} : ∀ (fs : List Field) (ts : List (String × TypeId × Nat)) (rs : List Bool), fs.map (fun f => (f.name, f.type, f.offset)) = ts → eqT P d xs ys w ts rs →
    (Op.eqFields d xs ys fs).run P w = .ok (rs.all id) w := by
  intro fs
  induction fs with
  | nil =>
    rintro ts rs rfl h
    cases rs with
    | nil => rfl
    | cons r rs => exact h.elim
  | cons f fs ih =>
    rintro ts rs rfl h
    cases rs with
    | nil => exact h.elim
    | cons r rs =>
      obtain ⟨hn, hg, ⟨a, b, ha, hb, hr⟩, h⟩ := h
      unfold Op.eqFields
      rw [if_pos hn]
      simp only [Sem.run_bind, run_part1 hg ha, run_part1 hg hb, hr, Result.andThen_ok, Sem.run_ite, List.all_cons, id]
      cases r with
      | false => simp
      | true =>
        simp only [Bool.not_true, Bool.false_eq_true, if_false, Bool.true_and]
        exact ih _ rs rfl h
end Go.Fd
namespace Go.Proofs.YtimnbnomaajmmaaGreat
open Go.RowKit Go.Fd
theorem sym_fields : Tryz.prog.underlying 41 = some (.struct (Tryz.prog.fieldsOf 41)) := by kernel_rfl
set_option maxRecDepth 100000 in
theorem neq_sym (x y : SymM) (p q : Operand) (w : World) : (do eqGuard .neq 41 p q (.agg (encSym x).toArray) (.agg (encSym y).toArray); binOp .neq 41 (.agg (encSym x).toArray) (.agg (encSym y).toArray) : Sem Value).run Tryz.prog w = .ok (.bool (!decide (x = y))) w := by
  have h1 : Tryz.prog.eqGuardType Tryz.prog.depth 41 = false := by kernel_rfl
  have h2 : Tryz.prog.stoodInHeld 41 = false := by kernel_rfl
  have h3 : (Tryz.prog.fieldsOf 41).toList.map (fun f => (f.name, f.type, f.offset)) = [("Name", 9, 0), ("Bind", 3, 1), ("Type", 3, 2), ("Sec", 3, 3), ("Value", 39, 4), ("Size", 39, 5)] := by kernel_rfl
  have h4 := sym_fields
  have a9 : ∀ w, (isAgg 9).run Tryz.prog w = .ok false w := fun w => by kernel_rfl
  have a3 : ∀ w, (isAgg 3).run Tryz.prog w = .ok false w := fun w => by kernel_rfl
  have a53 : ∀ w, (isAgg 39).run Tryz.prog w = .ok false w := fun w => by kernel_rfl
  have u9 : Tryz.prog.underlying 9 = some .string := by kernel_rfl
  have u3 : Tryz.prog.underlying 3 = some (.int .i64) := by kernel_rfl
  have u53 : Tryz.prog.underlying 39 = some (.int .u64) := by kernel_rfl
  have h5 := run_eqFields_flat (P := Tryz.prog) (d := 9999) (xs := (encSym x).toArray) (ys := (encSym y).toArray) (w := w) _ _ [((⟨x.name.toArray⟩ : ByteArray).toList == (⟨y.name.toArray⟩ : ByteArray).toList), x.bind == y.bind, x.typ == y.typ, x.sec == y.sec, (x.value : Int) == y.value, (x.size : Int) == y.size] h3
    ⟨by decide, a9 w, ⟨_, _, rfl, rfl, run_equalIn_string w 9998 _ _ _ u9⟩, by decide, a3 w, ⟨_, _, rfl, rfl, run_equalIn_int w 9998 _ _ _ _ _ u3⟩, by decide, a3 w, ⟨_, _, rfl, rfl, run_equalIn_int w 9998 _ _ _ _ _ u3⟩, by decide, a3 w, ⟨_, _, rfl, rfl, run_equalIn_int w 9998 _ _ _ _ _ u3⟩, by decide, a53 w, ⟨_, _, rfl, rfl, run_equalIn_int w 9998 _ _ _ _ _ u53⟩, by decide, a53 w, ⟨_, _, rfl, rfl, run_equalIn_int w 9998 _ _ _ _ _ u53⟩, trivial⟩
  rw [Sem.run_bind, run_eqGuard_agg _ _ _ _ _ _ _ h1, Result.andThen_ok, run_neq_struct, run_equalIn_agg _ 9999 _ _ _ h4 h2, h5, Result.andThen_ok]
  congr 3
  rw [Bool.eq_iff_iff, decide_eq_true_iff]
  cases x
  cases y
  simp [ByteArray.toList_eq]
  omega
set_option maxRecDepth 100000 in
theorem neq_rela (x y : RelaM) (p q : Operand) (w : World) : (do eqGuard .neq 57 p q (.agg (encRela x).toArray) (.agg (encRela y).toArray); binOp .neq 57 (.agg (encRela x).toArray) (.agg (encRela y).toArray) : Sem Value).run Tryz.prog w = .ok (.bool (!decide (x = y))) w := by
  have h1 : Tryz.prog.eqGuardType Tryz.prog.depth 57 = false := by kernel_rfl
  have h2 : Tryz.prog.stoodInHeld 57 = false := by kernel_rfl
  have h3 : (Tryz.prog.fieldsOf 57).toList.map (fun f => (f.name, f.type, f.offset)) = [("Off", 39, 0), ("Type", 3, 1), ("Sym", 3, 2), ("Add", 2, 3)] := by kernel_rfl
  have h4 : Tryz.prog.underlying 57 = some (.struct (Tryz.prog.fieldsOf 57)) := by kernel_rfl
  have a3 : ∀ w, (isAgg 3).run Tryz.prog w = .ok false w := fun w => by kernel_rfl
  have a2 : ∀ w, (isAgg 2).run Tryz.prog w = .ok false w := fun w => by kernel_rfl
  have a53 : ∀ w, (isAgg 39).run Tryz.prog w = .ok false w := fun w => by kernel_rfl
  have u3 : Tryz.prog.underlying 3 = some (.int .i64) := by kernel_rfl
  have u2 : Tryz.prog.underlying 2 = some (.int .i64) := by kernel_rfl
  have u53 : Tryz.prog.underlying 39 = some (.int .u64) := by kernel_rfl
  have h5 := run_eqFields_flat (P := Tryz.prog) (d := 9999) (xs := (encRela x).toArray) (ys := (encRela y).toArray) (w := w) _ _ [(x.off : Int) == y.off, x.typ == y.typ, x.sym == y.sym, x.add == y.add] h3
    ⟨by decide, a53 w, ⟨_, _, rfl, rfl, run_equalIn_int w 9998 _ _ _ _ _ u53⟩, by decide, a3 w, ⟨_, _, rfl, rfl, run_equalIn_int w 9998 _ _ _ _ _ u3⟩, by decide, a3 w, ⟨_, _, rfl, rfl, run_equalIn_int w 9998 _ _ _ _ _ u3⟩, by decide, a2 w, ⟨_, _, rfl, rfl, run_equalIn_int w 9998 _ _ _ _ _ u2⟩, trivial⟩
  rw [Sem.run_bind, run_eqGuard_agg _ _ _ _ _ _ _ h1, Result.andThen_ok, run_neq_struct, run_equalIn_agg _ 9999 _ _ _ h4 h2, h5, Result.andThen_ok]
  congr 3
  rw [Bool.eq_iff_iff, decide_eq_true_iff]
  cases x
  cases y
  simp
  omega
end Go.Proofs.YtimnbnomaajmmaaGreat
namespace Go.Proofs.YtimnbnomaajmmaaGreat
open Go.RowKit Go.Fd
def fixed : Nat → Nat → List UInt8
  | _, 0 => []
  | n, k + 1 => UInt8.ofNat n :: fixed (n / 256) k
theorem length_fixed (n s : Nat) : (fixed n s).length = s := by
  induction s generalizing n with
  | zero => rfl
  | succ s ih => simp [fixed, ih]
theorem fixed_snoc (n s : Nat) : fixed n (s + 1) = fixed n s ++ [UInt8.ofNat (n / 256 ^ s)] := by
  induction s generalizing n with
  | zero => simp [fixed]
  | succ s ih => rw [fixed, ih (n / 256), fixed, List.cons_append, Nat.div_div_eq_div_mul]; congr 4; rw [Nat.pow_succ, Nat.mul_comm]
theorem fixed_any (n : Nat) (s : Nat) (w : World) (hn : n < 18446744073709551616) (hs : s ≤ 8) :
    Calls Tryz.prog 101 #[.int .u64 n, .int .i64 s] w fun e w' =>
      ∃ v, e = .returned v ∧ OB w' w.heap.size v (fixed n s) ∧ Below w.heap.size w w' := by
  go_enter Tryz.func101, Tryz.ntmps101
  go_wp2
  go_loopw [0, 5, 6] (fun m v i wr => ∃ k : Nat, k ≤ s ∧ i = .int .i64 k ∧ m = .int .u64 ((n / 256 ^ k : Nat)) ∧ OB wr w.heap.size v (fixed n k) ∧ Below w.heap.size w wr) (fun _ _ i _ => s - (intOf i).toNat)
  case atStart => exact ⟨0, Nat.zero_le _, rfl, by simp, OB.nil _ _, Below.refl _ _⟩
  case round =>
    obtain ⟨k, hk, rfl, rfl, hown, hb⟩ := hrel
    have hm : n / 256 ^ k < 18446744073709551616 := Nat.lt_of_le_of_lt (Nat.div_le_self _ _) hn
    have HF := Lib.hid (fixed_snoc n k)
    have HP := Lib.hid (show n / 256 ^ k / 256 = n / 256 ^ (k + 1) by rw [Nat.div_div_eq_div_mul, Nat.pow_succ])
    have hL := length_fixed n k
    have HL := Lib.hid hL
    clear hL
    generalize n / 256 ^ k = m at *
    by_cases hlt : k < s
    · go_wp2_with (at_builtin; refine wpList_pushB hown rfl rfl (UInt8.ofNat m) (by rw [u8_of]; omega) (by rw [HL.out]; omega) hb.size ?_; intro v1 w1 hown1 _ hb1)
      go_roundw
      case rel => exact ⟨k + 1, by omega, by go_num, by rw [← HP.out]; go_num, by rw [HF.out]; exact hown1, hb.trans hb1⟩
      case measure => simp [intOf] <;> omega
    · obtain rfl : k = s := by omega
      go_wp2
      go_ret
      exact ⟨_, rfl, hown, hb⟩
end Go.Proofs.YtimnbnomaajmmaaGreat
namespace Go.Proofs.YtimnbnomaajmmaaGreat
open Go.RowKit Go.Fd
def numLE : List UInt8 → Nat
  | [] => 0
  | c :: r => c.toNat + 256 * numLE r
theorem numLE_lt (l : List UInt8) : numLE l < 256 ^ l.length := by
  induction l with
  | nil => simp [numLE]
  | cons c r ih =>
    have := c.toNat_lt
    rw [numLE, List.length_cons, Nat.pow_succ]
    omega
theorem numLE_drop (l : List UInt8) (k : Nat) (h : k < l.length) : numLE (l.drop k) = (l[k]?.getD 0).toNat + 256 * numLE (l.drop (k + 1)) := by
  rw [List.drop_eq_getElem_cons h, numLE, List.getElem?_eq_getElem h]; rfl
theorem numLE_lt' (l : List UInt8) (m : Nat) (h : l.length ≤ m) : numLE l < 256 ^ m := Nat.lt_of_lt_of_le (numLE_lt l) (Nat.pow_le_pow_right (by omega) h)
theorem or_byte (n : Nat) (c : UInt8) (hn : n < 72057594037927936) : bits .or .u64 ((n : Int) * 256) (c.toNat : Int) = ((c.toNat + 256 * n : Nat) : Int) := by
  have hc := c.toNat_lt
  rw [show (n : Int) * 256 = ((n * 256 : Nat) : Int) by omega, u64_or_nat _ _ (by omega) (by omega), nat_join 8 _ _ (by omega) (by omega)]
  congr 1; omega
theorem num_any (l : List UInt8) (v : Value) (w : World) (hl : l.length ≤ 8) (hv : Bs w v l) : Calls Tryz.prog 77 #[v] w fun e w' =>
    e = .returned (.int .u64 (numLE l)) ∧ w = w' := by
  obtain ⟨a, cap, rfl, hcap, _, hc⟩ := hv.open
  have HC := Lib.hid hc
  clear hc
  go_enter Tryz.func77, Tryz.ntmps77
  go_wp2
  go_loop [3, 4] (fun n i => ∃ k : Nat, k ≤ l.length ∧ i = .int .i64 ((k : Int) - 1) ∧ n = .int .u64 (numLE (l.drop k))) (fun _ i => (intOf i + 1).toNat)
  case atStart => exact ⟨l.length, Nat.le_refl _, rfl, by simp [numLE]⟩
  case round =>
    obtain ⟨k, hk, rfl, rfl⟩ := hrel
    by_cases h : 0 < k
    · obtain ⟨k, rfl⟩ : ∃ j, k = j + 1 := ⟨k - 1, by omega⟩
      obtain ⟨b, off, rfl, hcell⟩ := HC.out k (by omega)
      have hb : numLE (l.drop (k + 1)) < 256 ^ 7 := numLE_lt' _ 7 (by rw [List.length_drop]; omega)
      have HB := Lib.hid (numLE_drop l k (by omega))
      have HO := Lib.hid (or_byte (numLE (l.drop (k + 1))) (l[k]?.getD 0) hb)
      have hb' : (numLE (l.drop (k + 1)) : Int) < 72057594037927936 := by omega
      have hu := (l[k]?.getD 0).toNat_lt
      generalize numLE (l.drop (k + 1)) = m at *
      go_wp2
      go_round
      case rel => exact ⟨k, by omega, by go_num, by rw [HB.out, ← HO.out]⟩
      case measure => simp [intOf] <;> omega
    · obtain rfl : k = 0 := by omega
      go_wp2
      go_ret
      exact ⟨rfl, rfl⟩
end Go.Proofs.YtimnbnomaajmmaaGreat
namespace Go.Proofs.YtimnbnomaajmmaaGreat
open Go.RowKit Go.Fd
/-- May a number have so many bytes? -/
def Sized (n : Int) : Prop := n = 1 ∨ n = 2 ∨ n = 4 ∨ n = 8
instance (n : Int) : Decidable (Sized n) := by unfold Sized; infer_instance
theorem octSized_yes (n : Int) (w : World) (h : Sized n) : Calls Tryz.prog 105 #[.int .i64 n] w fun e w' => e = .returned (.bool true) ∧ w = w' := by
  rcases h with rfl | rfl | rfl | rfl
  all_goals
    go_enter Tryz.func105, Tryz.ntmps105
    go_wp2
    go_ret
    exact ⟨rfl, rfl⟩
theorem octSized_no (n : Int) (w : World) (h : ¬ Sized n) : Calls Tryz.prog 105 #[.int .i64 n] w fun e w' => e = .returned (.bool false) ∧ w = w' := by
  unfold Sized at h
  have h1 : (n == 1) = false := beq_eq_false_iff_ne.2 (by omega)
  have h2 : (n == 2) = false := beq_eq_false_iff_ne.2 (by omega)
  have h3 : (n == 4) = false := beq_eq_false_iff_ne.2 (by omega)
  have h4 : (n == 8) = false := beq_eq_false_iff_ne.2 (by omega)
  clear h
  go_enter Tryz.func105, Tryz.ntmps105
  go_wp2
  go_ret
  exact ⟨rfl, rfl⟩
theorem sized_bounds {size : Int} (h : Sized size) : 1 ≤ size ∧ size ≤ 8 := by unfold Sized at h; omega
def getR (l : List UInt8) (at_ size : Int) (big : Bool) : Nat × Int :=
  if Sized size then (if at_ < 0 ∨ (l.length : Int) < at_ then (0, 5) else if (l.length : Int) - at_ < size then (0, 2)
    else (numLE (if big then ((l.drop at_.toNat).take size.toNat).reverse else (l.drop at_.toNat).take size.toNat), 0)) else (0, 1)
theorem cut_len (l : List UInt8) (at_ size : Int) (hs : Sized size) : ((l.drop at_.toNat).take size.toNat).length ≤ 8 := by
  rw [List.length_take]; have := sized_bounds hs; omega
def fieldR (l : List UInt8) (at_ size : Int) : List UInt8 × Int :=
  if Sized size then (if at_ < 0 ∨ (l.length : Int) < at_ then ([], 5) else if (l.length : Int) - at_ < size then ([], 2) else ((l.drop at_.toNat).take size.toNat, 0)) else ([], 1)
theorem getR_eq (l : List UInt8) (at_ size : Int) (big : Bool) : getR l at_ size big = (numLE (if big then (fieldR l at_ size).1.reverse else (fieldR l at_ size).1), (fieldR l at_ size).2) := by
  unfold getR fieldR
  split
  · split
    · cases big <;> rfl
    · split
      · cases big <;> rfl
      · rfl
  · cases big <;> rfl
theorem fieldR_len (l : List UInt8) (at_ size : Int) : (fieldR l at_ size).1.length ≤ 8 := by
  unfold fieldR
  split
  · next h =>
    split
    · simp
    · split
      · simp
      · exact cut_len l at_ size h
  · simp
set_option maxRecDepth 100000 in
theorem field_any (l : List UInt8) (at_ size : Int) (v : Value) (w : World) (hl : l.length ≤ 1000000000) (hv : Bs w v l) :
    Calls Tryz.prog 92 #[v, .int .i64 at_, .int .i64 size] w fun e w' =>
      ∃ v', e = .returned (.tuple #[v', .int .i64 (fieldR l at_ size).2]) ∧ Bs w v' (fieldR l at_ size).1 ∧ w = w' := by
  by_cases hs : Sized size
  · have hb1 := (sized_bounds hs).1
    have hb2 := (sized_bounds hs).2
    obtain ⟨a, cap, rfl, hcap, _, _⟩ := hv.open
    by_cases h1 : at_ < 0
    · have HR := Lib.hid (show fieldR l at_ size = ([], 5) by rw [fieldR, if_pos hs, if_pos (.inl h1)])
      go_enter Tryz.func92, Tryz.ntmps92
      go_wp2_with (go_at_call 105; refine (octSized_yes _ _ hs).mono ?_; rintro e w' ⟨rfl, rfl⟩)
      go_ret2
      exact ⟨_, by rw [HR.out]; rfl, by rw [HR.out]; exact Bs.nil _, rfl⟩
    by_cases h2 : (l.length : Int) < at_
    · have HR := Lib.hid (show fieldR l at_ size = ([], 5) by rw [fieldR, if_pos hs, if_pos (.inr h2)])
      go_enter Tryz.func92, Tryz.ntmps92
      go_wp2_with (go_at_call 105; refine (octSized_yes _ _ hs).mono ?_; rintro e w' ⟨rfl, rfl⟩)
      go_ret2
      exact ⟨_, by rw [HR.out]; rfl, by rw [HR.out]; exact Bs.nil _, rfl⟩
    by_cases h3 : (l.length : Int) - at_ < size
    · have HR := Lib.hid (show fieldR l at_ size = ([], 2) by rw [fieldR, if_pos hs, if_neg (by omega), if_pos h3])
      go_enter Tryz.func92, Tryz.ntmps92
      go_wp2_with (go_at_call 105; refine (octSized_yes _ _ hs).mono ?_; rintro e w' ⟨rfl, rfl⟩)
      go_ret2
      exact ⟨_, by rw [HR.out]; rfl, by rw [HR.out]; exact Bs.nil _, rfl⟩
    have HR := Lib.hid (show fieldR l at_ size = ((l.drop at_.toNat).take size.toNat, 0) by rw [fieldR, if_pos hs, if_neg (by omega), if_neg h3])
    obtain ⟨v', hrun, hv'⟩ := run_sliceB hv (i := at_) (j := at_ + size) (k := .i64) (k' := .i64) (by omega) (by omega) (by omega)
    rw [show at_ + size - at_ = size by omega] at hv'
    have HRUN := Lib.hid hrun
    clear hrun
    go_enter Tryz.func92, Tryz.ntmps92
    go_wp2_with (first
      | (go_at_call 105; refine (octSized_yes _ _ hs).mono ?_; rintro e w' ⟨rfl, rfl⟩)
      | (with_reducible show wpList _ _ _ (⟨some 33, _, _, _, _, _⟩ :: _) _ _; go_must (refine wpList_val rfl (exec_slice2 HRUN.out rfl rfl rfl) ?_)))
    go_ret2
    exact ⟨_, by rw [HR.out]; rfl, by rw [HR.out]; exact hv', rfl⟩
  · have HR := Lib.hid (show fieldR l at_ size = ([], 1) by rw [fieldR, if_neg hs])
    go_enter Tryz.func92, Tryz.ntmps92
    go_wp2_with (go_at_call 105; refine (octSized_no _ _ hs).mono ?_; rintro e w' ⟨rfl, rfl⟩)
    go_ret2
    exact ⟨_, by rw [HR.out]; rfl, by rw [HR.out]; exact Bs.nil _, rfl⟩
set_option maxRecDepth 100000 in
theorem octU_any (l : List UInt8) (at_ size : Int) (v : Value) (w : World) (hl : l.length ≤ 1000000000) (hv : Bs w v l) :
    Calls Tryz.prog 59 #[v, .int .i64 at_, .int .i64 size] w fun e w' =>
      e = .returned (.tuple #[.int .u64 (getR l at_ size false).1, .int .i64 (getR l at_ size false).2]) ∧ w = w' := by
  have HW := Lib.hid (field_any l at_ size v w hl hv)
  have HL := Lib.hid (fieldR_len l at_ size)
  have HP := Lib.hid (getR_eq l at_ size false)
  generalize fieldR l at_ size = r at *
  obtain ⟨x, e⟩ := r
  have hx : x.length ≤ 8 := HL.out
  go_enter Tryz.func59, Tryz.ntmps59
  go_wp2_with (go_at_call 92; go_must (refine HW.out.mono ?_; rintro e w1 ⟨v1, rfl, hf, rfl⟩; obtain ⟨a, cap, rfl, hcap, _, hc⟩ := hf.open; have HC := Lib.hid hc; clear hc))
  go_loop [10, 11] (fun n i => ∃ k : Nat, k ≤ x.length ∧ i = .int .i64 ((k : Int) - 1) ∧ n = .int .u64 (numLE (x.drop k))) (fun _ i => (intOf i + 1).toNat)
  case atStart => exact ⟨x.length, Nat.le_refl _, rfl, by simp [numLE]⟩
  case round =>
    obtain ⟨k, hk, rfl, rfl⟩ := hrel
    by_cases h : 0 < k
    · obtain ⟨k, rfl⟩ : ∃ j, k = j + 1 := ⟨k - 1, by omega⟩
      obtain ⟨b, off, rfl, hcell⟩ := HC.out k (by omega)
      have hb : numLE (x.drop (k + 1)) < 256 ^ 7 := numLE_lt' _ 7 (by rw [List.length_drop]; omega)
      have HB := Lib.hid (numLE_drop x k (by omega))
      have HO := Lib.hid (or_byte (numLE (x.drop (k + 1))) (x[k]?.getD 0) hb)
      have hb' : (numLE (x.drop (k + 1)) : Int) < 72057594037927936 := by omega
      have hu := (x[k]?.getD 0).toNat_lt
      generalize numLE (x.drop (k + 1)) = m at *
      go_wp2
      go_round
      case rel => exact ⟨k, by omega, by go_num, by rw [HB.out, ← HO.out]⟩
      case measure => simp [intOf] <;> omega
    · obtain rfl : k = 0 := by omega
      go_wp2
      go_ret2
      exact ⟨by rw [HP.out]; rfl, rfl⟩
end Go.Proofs.YtimnbnomaajmmaaGreat
namespace Go.Proofs.YtimnbnomaajmmaaGreat
open Go.RowKit Go.Fd
/-- Are there such a Bind and Type? -/
def kindB (b t : Int) : Bool := decide (0 ≤ b) && decide (b ≤ 2) && (decide (0 ≤ t) && decide (t ≤ 3) || decide (t = 6))
set_option maxRecDepth 100000 in
theorem kind_any (b t : Int) (w : World) : Calls Tryz.prog 47 #[.int .i64 b, .int .i64 t] w fun e w' => e = .returned (.bool (kindB b t)) ∧ w = w' := by
  by_cases h1 : b < 0
  · have HR := Lib.hid (show kindB b t = false by rw [Bool.eq_false_iff]; intro h; unfold kindB at h; simp at h; omega)
    go_enter Tryz.func47, Tryz.ntmps47
    go_wp2
    go_ret
    exact ⟨by rw [HR.out]; rfl, rfl⟩
  by_cases h2 : 2 < b
  · have HR := Lib.hid (show kindB b t = false by rw [Bool.eq_false_iff]; intro h; unfold kindB at h; simp at h; omega)
    go_enter Tryz.func47, Tryz.ntmps47
    go_wp2
    go_ret
    exact ⟨by rw [HR.out]; rfl, rfl⟩
  by_cases h5 : t = 6
  · have HR := Lib.hid (show kindB b t = true by unfold kindB; simp; omega)
    subst h5
    go_enter Tryz.func47, Tryz.ntmps47
    go_wp2
    go_ret
    exact ⟨by rw [HR.out]; rfl, rfl⟩
  have hz : (t == 6) = false := by simpa using h5
  by_cases h3 : t < 0
  · have HR := Lib.hid (show kindB b t = false by rw [Bool.eq_false_iff]; intro h; unfold kindB at h; simp at h; omega)
    go_enter Tryz.func47, Tryz.ntmps47
    go_wp2
    go_ret
    exact ⟨by rw [HR.out]; rfl, rfl⟩
  by_cases h4 : t ≤ 3
  · have HR := Lib.hid (show kindB b t = true by unfold kindB; simp; omega)
    go_enter Tryz.func47, Tryz.ntmps47
    go_wp2
    go_ret
    exact ⟨by rw [HR.out]; rfl, rfl⟩
  · have HR := Lib.hid (show kindB b t = false by rw [Bool.eq_false_iff]; intro h; unfold kindB at h; simp at h; omega)
    go_enter Tryz.func47, Tryz.ntmps47
    go_wp2
    go_ret
    exact ⟨by rw [HR.out]; rfl, rfl⟩
set_option maxRecDepth 100000 in
theorem kinds_any (b t : Int) (w : World) : Calls Tryz.prog 78 #[.int .i64 b, .int .i64 t] w fun e w' => e = .returned (.bool (kindB b t)) ∧ w = w' := by
  by_cases h1 : b < 0
  · have HR := Lib.hid (show kindB b t = false by rw [Bool.eq_false_iff]; intro h; unfold kindB at h; simp at h; omega)
    go_enter Tryz.func78, Tryz.ntmps78
    go_wp2
    go_ret
    exact ⟨by rw [HR.out]; rfl, rfl⟩
  by_cases h2 : 2 < b
  · have HR := Lib.hid (show kindB b t = false by rw [Bool.eq_false_iff]; intro h; unfold kindB at h; simp at h; omega)
    go_enter Tryz.func78, Tryz.ntmps78
    go_wp2
    go_ret
    exact ⟨by rw [HR.out]; rfl, rfl⟩
  by_cases h5 : t = 6
  · have HR := Lib.hid (show kindB b t = true by unfold kindB; simp; omega)
    subst h5
    go_enter Tryz.func78, Tryz.ntmps78
    go_wp2
    go_ret
    exact ⟨by rw [HR.out]; rfl, rfl⟩
  have hz : (t == 6) = false := by simpa using h5
  by_cases h3 : t < 0
  · have HR := Lib.hid (show kindB b t = false by rw [Bool.eq_false_iff]; intro h; unfold kindB at h; simp at h; omega)
    go_enter Tryz.func78, Tryz.ntmps78
    go_wp2
    go_ret
    exact ⟨by rw [HR.out]; rfl, rfl⟩
  by_cases h4 : t ≤ 3
  · have HR := Lib.hid (show kindB b t = true by unfold kindB; simp; omega)
    go_enter Tryz.func78, Tryz.ntmps78
    go_wp2
    go_ret
    exact ⟨by rw [HR.out]; rfl, rfl⟩
  · have HR := Lib.hid (show kindB b t = false by rw [Bool.eq_false_iff]; intro h; unfold kindB at h; simp at h; omega)
    go_enter Tryz.func78, Tryz.ntmps78
    go_wp2
    go_ret
    exact ⟨by rw [HR.out]; rfl, rfl⟩
set_option maxRecDepth 100000 in
theorem u_any (l : List UInt8) (at_ size : Int) (v : Value) (w : World) (hl : l.length ≤ 1000000000) (hv : Bs w v l) :
    Calls Tryz.prog 63 #[v, .int .i64 at_, .int .i64 size] w fun e w' => e = .returned (.int .u64 (getR l at_ size false).1) ∧ w = w' := by
  have HU := Lib.hid (octU_any l at_ size v w hl hv)
  generalize getR l at_ size false = r at *
  obtain ⟨n, z⟩ := r
  go_enter Tryz.func63, Tryz.ntmps63
  go_wp2_with fail
  refine HU.out.mono ?_
  rintro e w1 ⟨rfl, rfl⟩
  go_wp2
  go_ret
  exact ⟨rfl, rfl⟩
theorem getR_in (l : List UInt8) (a s : Nat) (hs : Sized s) (h : a + s ≤ l.length) : (getR l a s false).1 = numLE ((l.drop a).take s) := by
  unfold getR
  rw [if_pos hs, if_neg (by omega), if_neg (by omega)]
  simp
/-- Blocks of another element's type stay as they are. -/
def Keeps (e0 : TypeId) (w w' : World) : Prop := ∀ (b : Nat) cs e fr, e ≠ e0 → w.heap[b]? = some (.cells cs e fr) → w'.heap[b]? = some (.cells cs e fr)
theorem Keeps.refl (e0 : TypeId) (w : World) : Keeps e0 w w := fun _ _ _ _ _ h => h
theorem Keeps.trans {e0 : TypeId} {w w' w'' : World} (h : Keeps e0 w w') (k : Keeps e0 w' w'') : Keeps e0 w w'' := fun b cs e fr he hb => k b cs e fr he (h b cs e fr he hb)
theorem keeps_below {e0 : TypeId} {w w' : World} (h : Below w.heap.size w w') : Keeps e0 w w' := fun b cs e fr _ hb => by rw [h.block b (Array.getElem?_eq_some_iff.1 hb).1]; exact hb
theorem keeps_own {e0 size n base : Nat} {w w' : World} {v : Value} {xs : List Value} (h : w.ownsRow base e0 size v n xs) (hg : w.grownBy w' v.ownBlock) : Keeps e0 w w' := fun b cs e fr he hb => by
  rw [hg.block b (Array.getElem?_eq_some_iff.1 hb).1 (fun hr => ?_)]
  · exact hb
  rcases h.2 with ⟨rfl, -⟩ | ⟨g, cap, cur, rfl, -, hh, -⟩
  · simp [Value.ownBlock] at hr
  · simp only [Value.ownBlock, Option.some.injEq] at hr
    subst hr
    rw [hb] at hh
    cases hh
    exact he rfl
theorem shr_byte (n k : Nat) : (n : Int) / 2 ^ (8 * k) % 256 = ((UInt8.ofNat (n / 256 ^ k)).toNat : Int) := by
  have h : n / 256 ^ k = n / 2 ^ (8 * k) := by rw [Nat.pow_mul]
  rw [u8_of, h, Int.natCast_emod, Int.natCast_ediv, Int.natCast_pow]
  rfl
set_option maxRecDepth 100000 in
theorem put_any (l : List UInt8) (n s : Nat) (v : Value) (w : World) (base : Nat) (hl : l.length ≤ 1000000) (hn : n < 18446744073709551616) (hs : s ≤ 8) (hv : OB w base v l) (hbase : base ≤ w.heap.size) :
    Calls Tryz.prog 46 #[v, .int .u64 n, .int .i64 s] w fun e w' => ∃ v', e = .returned v' ∧ OB w' base v' (l ++ fixed n s) ∧ Below base w w' ∧ Keeps 5 w w' := by
  have HV := Lib.hid hv
  clear hv
  have HN := Lib.hid hn
  clear hn
  go_enter Tryz.func46, Tryz.ntmps46
  go_wp2
  go_loopw [0, 9] (fun v i wr => ∃ k : Nat, k ≤ s ∧ i = .int .i64 k ∧ Hid (OB wr base v (l ++ fixed n k)) ∧ Hid (Below base w wr) ∧ Hid (Keeps 5 w wr)) (fun _ i _ => s - (intOf i).toNat)
  case atStart => exact ⟨0, Nat.zero_le _, rfl, by have := HV.out; simpa [fixed, Hid] using this, Below.refl _ _, Keeps.refl _ _⟩
  case round =>
    obtain ⟨k, hk, rfl, HO, HB, HK⟩ := hrel
    by_cases hlt : k < s
    · have HF := Lib.hid (fixed_snoc n k)
      have HL := Lib.hid (length_fixed n k)
      have hb0 := Nat.le_trans hbase HB.out.size
      have HSH := Lib.hid (shr_byte n k)
      go_wp2_with (((with_reducible show wpList _ _ _ (⟨some 19, _, _, _, _, _⟩ :: _) _ _); go_must (refine wpList_pushB HO.out rfl rfl (UInt8.ofNat (n / 256 ^ k)) HSH.out (by have := HL.out; rw [List.length_append]; omega) hb0 ?_; intro v1 w1 hv1 hg1 hb1)))
      have G1 : Hid (OB w1 base v1 (l ++ fixed n (k + 1))) := by rw [HF.out, ← List.append_assoc]; exact hv1
      have G2 := Lib.hid (HB.out.trans hb1)
      have G3 := Lib.hid (HK.out.trans (keeps_own HO.out hg1))
      clear hv1 hg1 hb1
      go_roundw
      case rel =>
        first
          | exact ⟨k + 1, by omega, by go_num, G1.out, G2.out, G3.out⟩
          | ((repeat apply Exists.intro); exact ⟨⟨k + 1, by omega, by go_num, G1.out, G2.out, G3.out⟩, rfl⟩)
      case measure => simp [intOf] <;> omega
    · obtain rfl : k = s := by omega
      go_wp2
      go_ret
      exact ⟨_, rfl, HO.out, HB.out, HK.out⟩
theorem put2_any (l : List UInt8) (n : Nat) {z : Int} (v : Value) (w : World) (base : Nat) (hz : z = (n : Int)) (hl : l.length ≤ 1000000) (hn : n < 18446744073709551616) (hv : OB w base v l) (hbase : base ≤ w.heap.size) :
    Calls Tryz.prog 46 #[v, .int .u64 z, .int .i64 2] w fun e w' => ∃ v', e = .returned v' ∧ OB w' base v' (l ++ fixed n 2) ∧ Below base w w' ∧ Keeps 5 w w' := by
  subst hz
  exact put_any l n 2 v w base hl hn (by decide) hv hbase
theorem put4_any (l : List UInt8) (n : Nat) {z : Int} (v : Value) (w : World) (base : Nat) (hz : z = (n : Int)) (hl : l.length ≤ 1000000) (hn : n < 18446744073709551616) (hv : OB w base v l) (hbase : base ≤ w.heap.size) :
    Calls Tryz.prog 46 #[v, .int .u64 z, .int .i64 4] w fun e w' => ∃ v', e = .returned v' ∧ OB w' base v' (l ++ fixed n 4) ∧ Below base w w' ∧ Keeps 5 w w' := by
  subst hz
  exact put_any l n 4 v w base hl hn (by decide) hv hbase
theorem put8_any (l : List UInt8) (n : Nat) {z : Int} (v : Value) (w : World) (base : Nat) (hz : z = (n : Int)) (hl : l.length ≤ 1000000) (hn : n < 18446744073709551616) (hv : OB w base v l) (hbase : base ≤ w.heap.size) :
    Calls Tryz.prog 46 #[v, .int .u64 z, .int .i64 8] w fun e w' => ∃ v', e = .returned v' ∧ OB w' base v' (l ++ fixed n 8) ∧ Below base w w' ∧ Keeps 5 w w' := by
  subst hz
  exact put_any l n 8 v w base hl hn (by decide) hv hbase
end Go.Proofs.YtimnbnomaajmmaaGreat
namespace Go.Fd
open Go.RowKit
section
variable {P : Program} {ops : Array Oper} {rest : List Oper} {Q : Exit → Act → World → Prop} {a : Act} {w : World}
/-- A whole record into the block that was made last. -/
theorem wpList_storeNew {d : Option Tmp} {ty t : TypeId} {pos : String} {aft : Array Edge} {p x : Operand} {c c' : Array Value} (hp : a.eval p = .pointer (some ⟨w.heap.size, 0, none⟩)) (hx : a.eval x = .agg c')
    (hi : (P.info? t).map (·.size) = some c'.size) (ho : c.size = c'.size) (h1 : c'.all (·.oneCell') = true)
    (h : ∀ w1, w1.heap[w.heap.size]? = some (.cells c' t (0, 0)) → Below w.heap.size w w1 → wpList P ops Q rest (a.put d undef) w1) :
    wpList P ops Q (⟨d, .store t p x, ty, pos, aft, none⟩ :: rest) a (w.alloc (.cells c t)) := by
  refine wpList_did rfl ?_ (h (w.alloc (.cells c' t)) (heap_alloc_last w _) (below_alloc w _))
  simp only [execOp, hp, hx, Sem.run_bind, run_storeAt_new w t c c' hi ho h1, Result.andThen_ok]
  rfl
theorem cell_rec {w : World} {g : Nat} {cs : Array Value} {t : TypeId} {fr : Nat × Nat} (h : w.heap[g]? = some (.cells cs t fr)) (c : Nat) : w.cell? ⟨g, c, none⟩ = cs[c]? := cell_of_row w g c cs t fr h
end
/-- Of an int64 its 64 bits. -/
def u64of (x : Int) : Nat := (x % 18446744073709551616).toNat
theorem u64of_lt (x : Int) : u64of x < 18446744073709551616 := by unfold u64of; omega
theorem u64of_cast (x : Int) : IntKind.u64.wrap x = ((u64of x : Nat) : Int) := by
  unfold u64of
  simp [IntKind.wrap, IntKind.bits, IntKind.signed]
  omega
theorem u64of_pos {x : Int} (h : 0 ≤ x) (h2 : x < 18446744073709551616) : u64of x = x.toNat := by unfold u64of; omega
end Go.Fd
namespace Go.Proofs.YtimnbnomaajmmaaGreat
open Go.RowKit Go.Fd
/-- May it not be? -/
def relaBad (r : RelaM) : Bool := decide (r.typ < 0) || decide (4294967295 < r.typ) || decide (r.sym < 0) || decide (2147483647 < r.sym)
def relaB (r : RelaM) : List UInt8 := fixed r.off 8 ++ fixed (u64of r.typ) 4 ++ fixed (u64of r.sym) 4 ++ fixed (u64of r.add) 8
def relaW (l : List RelaM) : List UInt8 × Int := if l.any relaBad = true then ([], 3) else (l.flatMap relaB, 0)
theorem relaB_len (r : RelaM) : (relaB r).length = 24 := by simp [relaB, length_fixed]
theorem rela_len (l : List RelaM) : (l.flatMap relaB).length = l.length * 24 := flat_len' relaB_len l
theorem rela_bad {l : List RelaM} {k : Nat} {x : RelaM} (h : l[k]? = some x) (hb : relaBad x = true) : relaW l = ([], 3) := by
  unfold relaW
  rw [if_pos (List.any_eq_true.2 ⟨x, List.mem_of_getElem? h, hb⟩)]
theorem rela_step {l : List RelaM} {k : Nat} {x : RelaM} (h : l[k]? = some x) (h0 : (l.take k).any relaBad = false) (hb : relaBad x = false) : (l.take (k + 1)).any relaBad = false := by
  rw [List.take_add_one, h, List.any_append, h0]
  simp [hb]
theorem rela_done {l : List RelaM} {k : Nat} (h : l.length ≤ k) (h0 : (l.take k).any relaBad = false) : relaW l = (l.flatMap relaB, 0) := by
  rw [List.take_of_length_le h] at h0
  unfold relaW
  rw [if_neg (by simp [h0])]
theorem flat_step {α β : Type} {f : α → List β} {l : List α} {k : Nat} {x : α} (h : l[k]? = some x) : (l.take (k + 1)).flatMap f = (l.take k).flatMap f ++ f x := by
  rw [List.take_add_one, h]; simp
set_option maxHeartbeats 1000000 in
set_option maxRecDepth 100000 in
theorem writeRela_any (l : List RelaM) (v : Value) (w : World) (hl : l.length ≤ 1000) (hwf : ∀ r ∈ l, r.off < 18446744073709551616) (hv : RdR 4 encRela w v l) :
    Calls Tryz.prog 22 #[v] w fun e w' => ∃ v', e = .returned (.tuple #[v', .int .i64 (relaW l).2]) ∧ OB w' w.heap.size v' (relaW l).1 ∧ Below w.heap.size w w' := by
  obtain ⟨a, ca, rfl, hca, -, hc⟩ := hv.open (fun _ => rfl)
  have HC := Lib.hid hc
  have HWF := Lib.hid hwf
  obtain ⟨nl, hnl⟩ : ∃ n, n = l.length := ⟨_, rfl⟩
  rw [← hnl] at hl hca ⊢
  have HL := Lib.hid hnl
  clear hc hv hnl hwf
  go_enter Tryz.func22, Tryz.ntmps22
  go_wp2
  go_loopw [11] (fun i wr => ∃ k : Nat, i = .int .i64 k ∧ k ≤ nl ∧ Hid ((l.take k).any relaBad = false) ∧ Hid (Below w.heap.size w wr)) (fun i _ => nl - (intOf i).toNat)
  case atStart => exact ⟨0, rfl, Nat.zero_le _, by simp [Hid], Below.refl _ _⟩
  case round =>
    obtain ⟨k, rfl, hk, HT, HB⟩ := hrel
    by_cases hlt : k < nl
    · have X1 := Lib.hid (show l[k]? = some (l[k]'(by have := HL.out; omega)) from List.getElem?_eq_getElem _)
      generalize l[k]'(by have := HL.out; omega) = x at *
      obtain ⟨b1, o1, ha, hc1⟩ := HC.out k x X1.out (by decide)
      subst ha
      have hd1 : ∀ c v, (encRela x)[c]? = some v → wr.cell? ⟨b1, o1 + k * 4 + c, none⟩ = some v := fun c v h => by
        have h6 : c < 4 := (List.getElem?_eq_some_iff.1 h).1
        have := (hc1 c h6).trans h
        rw [← Nat.add_assoc] at this
        exact (HB.out.cell (block_lt this)).trans this
      have c10 := hd1 0 _ rfl
      have c11 := hd1 1 _ rfl
      have c12 := hd1 2 _ rfl
      have c13 := hd1 3 _ rfl
      rw [Nat.add_zero] at c10
      clear hc1 hd1
      by_cases h1 : x.typ < 0
      · have HR := Lib.hid (rela_bad X1.out (show relaBad x = true by unfold relaBad; simp; omega))
        go_wp2_with (((with_reducible show wpList _ _ _ (⟨none, .store _ _ _, _, _, _, _⟩ :: _) _ _); go_must (refine wpList_storeNew rfl rfl (by kernel_rfl) rfl (by simp [Value.oneCell']) ?_; intro w1 hh1 hb1; have e1 := cell_rec hh1 1; have e2 := cell_rec hh1 2; simp only [List.getElem?_toArray, List.getElem?_cons_succ, List.getElem?_cons_zero] at e1 e2)))
        go_ret2
        exact ⟨_, by rw [HR.out]; rfl, by rw [HR.out]; exact OB.nil _ _, HB.out.trans (hb1.mono HB.out.size)⟩
      by_cases h2 : 4294967295 < x.typ
      · have HR := Lib.hid (rela_bad X1.out (show relaBad x = true by unfold relaBad; simp; omega))
        go_wp2_with (((with_reducible show wpList _ _ _ (⟨none, .store _ _ _, _, _, _, _⟩ :: _) _ _); go_must (refine wpList_storeNew rfl rfl (by kernel_rfl) rfl (by simp [Value.oneCell']) ?_; intro w1 hh1 hb1; have e1 := cell_rec hh1 1; have e2 := cell_rec hh1 2; simp only [List.getElem?_toArray, List.getElem?_cons_succ, List.getElem?_cons_zero] at e1 e2)))
        go_ret2
        exact ⟨_, by rw [HR.out]; rfl, by rw [HR.out]; exact OB.nil _ _, HB.out.trans (hb1.mono HB.out.size)⟩
      by_cases h3 : x.sym < 0
      · have HR := Lib.hid (rela_bad X1.out (show relaBad x = true by unfold relaBad; simp; omega))
        go_wp2_with (((with_reducible show wpList _ _ _ (⟨none, .store _ _ _, _, _, _, _⟩ :: _) _ _); go_must (refine wpList_storeNew rfl rfl (by kernel_rfl) rfl (by simp [Value.oneCell']) ?_; intro w1 hh1 hb1; have e1 := cell_rec hh1 1; have e2 := cell_rec hh1 2; simp only [List.getElem?_toArray, List.getElem?_cons_succ, List.getElem?_cons_zero] at e1 e2)))
        go_ret2
        exact ⟨_, by rw [HR.out]; rfl, by rw [HR.out]; exact OB.nil _ _, HB.out.trans (hb1.mono HB.out.size)⟩
      by_cases h4 : 2147483647 < x.sym
      · have HR := Lib.hid (rela_bad X1.out (show relaBad x = true by unfold relaBad; simp; omega))
        go_wp2_with (((with_reducible show wpList _ _ _ (⟨none, .store _ _ _, _, _, _, _⟩ :: _) _ _); go_must (refine wpList_storeNew rfl rfl (by kernel_rfl) rfl (by simp [Value.oneCell']) ?_; intro w1 hh1 hb1; have e1 := cell_rec hh1 1; have e2 := cell_rec hh1 2; simp only [List.getElem?_toArray, List.getElem?_cons_succ, List.getElem?_cons_zero] at e1 e2)))
        go_ret2
        exact ⟨_, by rw [HR.out]; rfl, by rw [HR.out]; exact OB.nil _ _, HB.out.trans (hb1.mono HB.out.size)⟩
      have HN := Lib.hid (rela_step X1.out HT.out (by unfold relaBad; simp; omega))
      go_wp2_with (((with_reducible show wpList _ _ _ (⟨none, .store _ _ _, _, _, _, _⟩ :: _) _ _); go_must (refine wpList_storeNew rfl rfl (by kernel_rfl) rfl (by simp [Value.oneCell']) ?_; intro w1 hh1 hb1; have e1 := cell_rec hh1 1; have e2 := cell_rec hh1 2; simp only [List.getElem?_toArray, List.getElem?_cons_succ, List.getElem?_cons_zero] at e1 e2)))
      have HB1 := Lib.hid (HB.out.trans (hb1.mono HB.out.size))
      clear hh1 hb1 e1 e2
      go_roundw
      case rel =>
        first
          | exact ⟨k + 1, by go_num, by omega, HN.out, HB1.out⟩
          | ((repeat apply Exists.intro); exact ⟨⟨k + 1, by go_num, by omega, HN.out, HB1.out⟩, rfl⟩)
      case measure => simp [intOf] <;> omega
    · have HR := Lib.hid (rela_done (by have := HL.out; omega) HT.out)
      clear HT
      go_wp2
      go_loopw [6, 39] (fun v i wr => ∃ k : Nat, i = .int .i64 k ∧ k ≤ nl ∧ Hid (OB wr w.heap.size v ((l.take k).flatMap relaB)) ∧ Hid (Below w.heap.size w wr)) (fun _ i _ => nl - (intOf i).toNat)
      case atStart => exact ⟨0, rfl, Nat.zero_le _, OB.nil _ _, HB.out⟩
      case round =>
        obtain ⟨k, rfl, hk, HO, HB⟩ := hrel
        by_cases hlt : k < nl
        · have X1 := Lib.hid (show l[k]? = some (l[k]'(by have := HL.out; omega)) from List.getElem?_eq_getElem _)
          generalize l[k]'(by have := HL.out; omega) = x at *
          obtain ⟨b1, o1, ha, hc1⟩ := HC.out k x X1.out (by decide)
          subst ha
          have hd1 : ∀ c v, (encRela x)[c]? = some v → wr.cell? ⟨b1, o1 + k * 4 + c, none⟩ = some v := fun c v h => by
            have h6 : c < 4 := (List.getElem?_eq_some_iff.1 h).1
            have := (hc1 c h6).trans h
            rw [← Nat.add_assoc] at this
            exact (HB.out.cell (block_lt this)).trans this
          have c10 := hd1 0 _ rfl
          have c11 := hd1 1 _ rfl
          have c12 := hd1 2 _ rfl
          have c13 := hd1 3 _ rfl
          rw [Nat.add_zero] at c10
          clear hc1 hd1
          have HF := Lib.hid (flat_step (f := relaB) X1.out)
          have HTL := Lib.hid (show ((l.take k).flatMap relaB).length ≤ 24000 by rw [rela_len, List.length_take]; omega)
          have HOF := Lib.hid (HWF.out x (List.mem_of_getElem? X1.out))
          have HT1 := Lib.hid (u64of_cast x.typ)
          have HT2 := Lib.hid (u64of_cast x.sym)
          have HT3 := Lib.hid (u64of_cast x.add)
          have hbs := HB.out.size
          generalize (l.take k).flatMap relaB = T at *
          go_wp2_with (first
            | ((with_reducible show wpList _ _ _ (⟨none, .store _ _ _, _, _, _, _⟩ :: _) _ _); go_must (refine wpList_storeNew rfl rfl (by kernel_rfl) rfl (by simp [Value.oneCell']) ?_; intro w1 hh1 hb1; have e0 := cell_rec hh1 0; simp only [List.getElem?_toArray, List.getElem?_cons_zero] at e0))
            | fail)
          have HB1 := Lib.hid (HB.out.trans (hb1.mono HB.out.size))
          have HS1 := Lib.hid hb1.size
          have HO1 := Lib.hid (HO.out.mono hb1)
          have HH1 := Lib.hid hh1
          clear hh1 hb1
          refine (put8_any T x.off u6 w1 w.heap.size rfl (Nat.le_trans HTL.out (by decide)) HOF.out HO1.out HB1.out.size).mono ?_
          rintro e w2 ⟨v2, rfl, ho2, hb2, hk2⟩
          have HH2 := Lib.hid (hk2 _ _ _ _ (by decide) HH1.out)
          have HO2 := Lib.hid ho2
          have HB2 := Lib.hid (HB1.out.trans hb2)
          have e1 := cell_rec HH2.out 1
          have e2 := cell_rec HH2.out 2
          simp only [List.getElem?_toArray, List.getElem?_cons_succ, List.getElem?_cons_zero] at e1 e2
          clear ho2 hb2 hk2 e0
          go_wp2
          have HC4 := Lib.hid (fun w' (hO : OB w' w.heap.size v2 (T ++ fixed x.off 8)) (hb : w.heap.size ≤ w'.heap.size) => put4_any (T ++ fixed x.off 8) (u64of x.typ) v2 w' w.heap.size HT1.out (by have := HTL.out; simp [length_fixed]; omega) (u64of_lt _) hO hb)
          have HC5 := Lib.hid (fun w' v3 (hO : OB w' w.heap.size v3 (T ++ fixed x.off 8 ++ fixed (u64of x.typ) 4)) (hb : w.heap.size ≤ w'.heap.size) => put4_any (T ++ fixed x.off 8 ++ fixed (u64of x.typ) 4) (u64of x.sym) v3 w' w.heap.size HT2.out (by have := HTL.out; simp [length_fixed]; omega) (u64of_lt _) hO hb)
          go_region_with (first
              | (go_at_call_of 46 v2; refine (HC4.out w2.drew HO2.out HB2.out.size).mono ?_; rintro e w3 ⟨v3, rfl, ho3, hb3, hk3⟩; have HH3 := Lib.hid (hk3 _ _ _ _ (by decide) HH2.out); have f1 := cell_rec HH3.out 1; have f2 := cell_rec HH3.out 2; simp only [List.getElem?_toArray, List.getElem?_cons_succ, List.getElem?_cons_zero] at f1 f2)
              | (go_at_call_of 46 v3; refine (HC5.out w3 v3 ho3 (Nat.le_trans HB2.out.size hb3.size)).mono ?_; rintro e w4 ⟨v4, rfl, ho4, hb4, hk4⟩; have HH4 := Lib.hid (hk4 _ _ _ _ (by decide) HH3.out)))
          all_goals
            have e3 := cell_rec HH4.out 3
            simp only [List.getElem?_toArray, List.getElem?_cons_succ, List.getElem?_cons_zero] at e3
            have HB3 := Lib.hid (show Below w.heap.size w2 w3 from ⟨hb3.os, hb3.tape, hb3.output, hb3.size, hb3.block⟩)
            have HB4 := Lib.hid (HB2.out.trans (HB3.out.trans hb4))
            have HO4 := Lib.hid ho4
            clear ho3 ho4 hb3 hb4 hk3 hk4 e1 e2 f1 f2 c10 c11 c12 c13 HC4 HC5
            go_wp2_with fail
            refine (put8_any (T ++ fixed x.off 8 ++ fixed (u64of x.typ) 4 ++ fixed (u64of x.sym) 4) (u64of x.add) v4 w4 w.heap.size HT3.out (by have := HTL.out; simp [length_fixed]; omega) (u64of_lt _) HO4.out HB4.out.size).mono ?_
            rintro e w5 ⟨v5, rfl, ho5, hb5, -⟩
            have G1 : Hid (OB w5 w.heap.size v5 ((l.take (k + 1)).flatMap relaB)) := by
              rw [HF.out]
              show OB w5 w.heap.size v5 (T ++ relaB x)
              unfold relaB
              simpa [List.append_assoc] using ho5
            have G2 := Lib.hid (HB4.out.trans hb5)
            clear ho5 hb5 e3
            go_wp2
            go_roundw
            case rel =>
              first
                | exact ⟨k + 1, by go_num, by omega, G1.out, G2.out⟩
                | ((repeat apply Exists.intro); exact ⟨⟨k + 1, by go_num, by omega, G1.out, G2.out⟩, rfl⟩)
            case measure => simp [intOf] <;> omega
        · have hkn : k = nl := by omega
          have HE : Hid (OB wr w.heap.size u6 (l.flatMap relaB)) := by
            have := HO.out
            rw [hkn, List.take_of_length_le (by have := HL.out; omega)] at this
            exact this
          clear HO hkn
          go_wp2
          go_ret2
          exact ⟨_, by rw [HR.out]; rfl, by rw [HR.out]; exact HE.out, HB.out⟩
end Go.Proofs.YtimnbnomaajmmaaGreat
namespace Go.Proofs.YtimnbnomaajmmaaGreat
open Go.RowKit Go.Fd
theorem fixed2_any (n : Nat) {z : Int} (w : World) (hz : z = (n : Int)) (hn : n < 18446744073709551616) :
    Calls Tryz.prog 101 #[.int .u64 z, .int .i64 2] w fun e w' => ∃ v, e = .returned v ∧ OB w' w.heap.size v (fixed n 2) ∧ Below w.heap.size w w' := by
  subst hz
  exact fixed_any n 2 w hn (by decide)
theorem fixed4_any (n : Nat) {z : Int} (w : World) (hz : z = (n : Int)) (hn : n < 18446744073709551616) :
    Calls Tryz.prog 101 #[.int .u64 z, .int .i64 4] w fun e w' => ∃ v, e = .returned v ∧ OB w' w.heap.size v (fixed n 4) ∧ Below w.heap.size w w' := by
  subst hz
  exact fixed_any n 4 w hn (by decide)
theorem fixed8_any (n : Nat) {z : Int} (w : World) (hz : z = (n : Int)) (hn : n < 18446744073709551616) :
    Calls Tryz.prog 101 #[.int .u64 z, .int .i64 8] w fun e w' => ∃ v, e = .returned v ∧ OB w' w.heap.size v (fixed n 8) ∧ Below w.heap.size w w' := by
  subst hz
  exact fixed_any n 8 w hn (by decide)
set_option maxHeartbeats 1000000 in
set_option maxRecDepth 100000 in
theorem ref5WriteRela_any (l : List RelaM) (v : Value) (w : World) (hl : l.length ≤ 1000) (hwf : ∀ r ∈ l, r.off < 18446744073709551616) (hv : RdR 4 encRela w v l) :
    Calls Tryz.prog 83 #[v] w fun e w' => ∃ v', e = .returned (.tuple #[v', .int .i64 (relaW l).2]) ∧ OB w' w.heap.size v' (relaW l).1 ∧ Below w.heap.size w w' := by
  obtain ⟨a, ca, rfl, hca, -, hc⟩ := hv.open (fun _ => rfl)
  have HC := Lib.hid hc
  have HWF := Lib.hid hwf
  obtain ⟨nl, hnl⟩ : ∃ n, n = l.length := ⟨_, rfl⟩
  rw [← hnl] at hl hca ⊢
  have HL := Lib.hid hnl
  clear hc hv hnl hwf
  go_enter Tryz.func83, Tryz.ntmps83
  go_wp2
  go_loopw [4] (fun i wr => ∃ k : Nat, i = .int .i64 k ∧ k ≤ nl ∧ Hid ((l.take k).any relaBad = false) ∧ Hid (Below w.heap.size w wr)) (fun i _ => nl - (intOf i).toNat)
  case atStart => exact ⟨0, rfl, Nat.zero_le _, by simp [Hid], Below.refl _ _⟩
  case round =>
    obtain ⟨k, rfl, hk, HT, HB⟩ := hrel
    by_cases hlt : k < nl
    · have X1 := Lib.hid (show l[k]? = some (l[k]'(by have := HL.out; omega)) from List.getElem?_eq_getElem _)
      generalize l[k]'(by have := HL.out; omega) = x at *
      obtain ⟨b1, o1, ha, hc1⟩ := HC.out k x X1.out (by decide)
      subst ha
      have hd1 : ∀ c v, (encRela x)[c]? = some v → wr.cell? ⟨b1, o1 + k * 4 + c, none⟩ = some v := fun c v h => by
        have h6 : c < 4 := (List.getElem?_eq_some_iff.1 h).1
        have := (hc1 c h6).trans h
        rw [← Nat.add_assoc] at this
        exact (HB.out.cell (block_lt this)).trans this
      have c10 := hd1 0 _ rfl
      have c11 := hd1 1 _ rfl
      have c12 := hd1 2 _ rfl
      have c13 := hd1 3 _ rfl
      rw [Nat.add_zero] at c10
      clear hc1 hd1
      by_cases h1 : x.typ < 0
      · have HR := Lib.hid (rela_bad X1.out (show relaBad x = true by unfold relaBad; simp; omega))
        go_wp2
        go_ret2
        exact ⟨_, by rw [HR.out]; rfl, by rw [HR.out]; exact OB.nil _ _, HB.out⟩
      by_cases h2 : 4294967295 < x.typ
      · have HR := Lib.hid (rela_bad X1.out (show relaBad x = true by unfold relaBad; simp; omega))
        go_wp2
        go_ret2
        exact ⟨_, by rw [HR.out]; rfl, by rw [HR.out]; exact OB.nil _ _, HB.out⟩
      by_cases h3 : x.sym < 0
      · have HR := Lib.hid (rela_bad X1.out (show relaBad x = true by unfold relaBad; simp; omega))
        go_wp2
        go_ret2
        exact ⟨_, by rw [HR.out]; rfl, by rw [HR.out]; exact OB.nil _ _, HB.out⟩
      by_cases h4 : 2147483647 < x.sym
      · have HR := Lib.hid (rela_bad X1.out (show relaBad x = true by unfold relaBad; simp; omega))
        go_wp2
        go_ret2
        exact ⟨_, by rw [HR.out]; rfl, by rw [HR.out]; exact OB.nil _ _, HB.out⟩
      have HN := Lib.hid (rela_step X1.out HT.out (by unfold relaBad; simp; omega))
      go_wp2
      go_roundw
      case rel =>
        first
          | exact ⟨k + 1, by go_num, by omega, HN.out, HB.out⟩
          | ((repeat apply Exists.intro); exact ⟨⟨k + 1, by go_num, by omega, HN.out, HB.out⟩, rfl⟩)
      case measure => simp [intOf] <;> omega
    · have HR := Lib.hid (rela_done (by have := HL.out; omega) HT.out)
      clear HT
      go_wp2
      go_loopw [5, 6] (fun v i wr => ∃ k : Nat, i = .int .i64 k ∧ k ≤ nl ∧ Hid (OB wr w.heap.size v ((l.take k).flatMap relaB)) ∧ Hid (Below w.heap.size w wr)) (fun _ i _ => nl - (intOf i).toNat)
      case atStart => exact ⟨0, rfl, Nat.zero_le _, OB.nil _ _, HB.out⟩
      case round =>
        obtain ⟨k, rfl, hk, HO, HB⟩ := hrel
        by_cases hlt : k < nl
        · have X1 := Lib.hid (show l[k]? = some (l[k]'(by have := HL.out; omega)) from List.getElem?_eq_getElem _)
          generalize l[k]'(by have := HL.out; omega) = x at *
          obtain ⟨b1, o1, ha, hc1⟩ := HC.out k x X1.out (by decide)
          subst ha
          have HD : Hid (∀ wx, Below w.heap.size w wx → ∀ c v, (encRela x)[c]? = some v → wx.cell? ⟨b1, o1 + k * 4 + c, none⟩ = some v) := fun wx hx c v h => by
            have h6 : c < 4 := (List.getElem?_eq_some_iff.1 h).1
            have := (hc1 c h6).trans h
            rw [← Nat.add_assoc] at this
            exact (hx.cell (block_lt this)).trans this
          clear hc1
          have HF := Lib.hid (flat_step (f := relaB) X1.out)
          have HTL := Lib.hid (show ((l.take k).flatMap relaB).length ≤ 24000 by rw [rela_len, List.length_take]; omega)
          have HOF := Lib.hid (HWF.out x (List.mem_of_getElem? X1.out))
          have HT1 := Lib.hid (u64of_cast x.typ)
          have HT2 := Lib.hid (u64of_cast x.sym)
          have HT3 := Lib.hid (u64of_cast x.add)
          generalize (l.take k).flatMap relaB = T at *
          have c0 := HD.out _ HB.out 0 _ rfl
          rw [Nat.add_zero] at c0
          go_wp2_with fail
          refine (fixed8_any x.off _ rfl HOF.out).mono ?_
          rintro e wa0 ⟨f0, rfl, hf0, hba0⟩
          have HOa0 := Lib.hid (HO.out.mono hba0)
          have HFa0 := Lib.hid hf0
          have HBa0 := Lib.hid (HB.out.trans (hba0.mono HB.out.size))
          clear hf0 hba0 c0
          go_wp2_with ((with_reducible show wpList _ _ _ (⟨some 59, _, _, _, _, _⟩ :: _) _ _); go_must (refine wpList_catB HOa0.out HFa0.out.bs rfl rfl (by have := HTL.out; simp [length_fixed]; omega) HBa0.out.size ?_; intro vb0 wb0 hb0 _ hbb0; have HOb0 := Lib.hid hb0; have HBb0 := Lib.hid (HBa0.out.trans hbb0); clear hb0 hbb0; have c1 := HD.out _ HBb0.out 1 _ rfl))
          refine (fixed4_any (u64of x.typ) _ HT1.out (u64of_lt _)).mono ?_
          rintro e wa1 ⟨f1, rfl, hf1, hba1⟩
          have HOa1 := Lib.hid (HOb0.out.mono hba1)
          have HFa1 := Lib.hid hf1
          have HBa1 := Lib.hid (HBb0.out.trans (hba1.mono HBb0.out.size))
          clear hf1 hba1 c1
          go_wp2_with ((with_reducible show wpList _ _ _ (⟨some 68, _, _, _, _, _⟩ :: _) _ _); go_must (refine wpList_catB HOa1.out HFa1.out.bs rfl rfl (by have := HTL.out; simp [length_fixed]; omega) HBa1.out.size ?_; intro vb1 wb1 hb1 _ hbb1; have HOb1 := Lib.hid hb1; have HBb1 := Lib.hid (HBa1.out.trans hbb1); clear hb1 hbb1; have c2 := HD.out _ HBb1.out 2 _ rfl))
          refine (fixed4_any (u64of x.sym) _ HT2.out (u64of_lt _)).mono ?_
          rintro e wa2 ⟨f2, rfl, hf2, hba2⟩
          have HOa2 := Lib.hid (HOb1.out.mono hba2)
          have HFa2 := Lib.hid hf2
          have HBa2 := Lib.hid (HBb1.out.trans (hba2.mono HBb1.out.size))
          clear hf2 hba2 c2
          go_wp2_with ((with_reducible show wpList _ _ _ (⟨some 77, _, _, _, _, _⟩ :: _) _ _); go_must (refine wpList_catB HOa2.out HFa2.out.bs rfl rfl (by have := HTL.out; simp [length_fixed]; omega) HBa2.out.size ?_; intro vb2 wb2 hb2 _ hbb2; have HOb2 := Lib.hid hb2; have HBb2 := Lib.hid (HBa2.out.trans hbb2); clear hb2 hbb2; have c3 := HD.out _ HBb2.out 3 _ rfl))
          refine (fixed8_any (u64of x.add) _ HT3.out (u64of_lt _)).mono ?_
          rintro e wa3 ⟨f3, rfl, hf3, hba3⟩
          have HOa3 := Lib.hid (HOb2.out.mono hba3)
          have HFa3 := Lib.hid hf3
          have HBa3 := Lib.hid (HBb2.out.trans (hba3.mono HBb2.out.size))
          clear hf3 hba3 c3
          go_wp2_with ((with_reducible show wpList _ _ _ (⟨some 86, _, _, _, _, _⟩ :: _) _ _); go_must (refine wpList_catB HOa3.out HFa3.out.bs rfl rfl (by have := HTL.out; simp [length_fixed]; omega) HBa3.out.size ?_; intro vb3 wb3 hb3 _ hbb3; have HOb3 := Lib.hid hb3; have HBb3 := Lib.hid (HBa3.out.trans hbb3); clear hb3 hbb3))
          have G1 : Hid (OB wb3 w.heap.size vb3 ((l.take (k + 1)).flatMap relaB)) := by
            rw [HF.out]
            show OB wb3 w.heap.size vb3 (T ++ relaB x)
            unfold relaB
            simpa [List.append_assoc] using HOb3.out
          go_roundw
          case rel =>
            first
              | exact ⟨k + 1, by go_num, by omega, G1.out, HBb3.out⟩
              | ((repeat apply Exists.intro); exact ⟨⟨k + 1, by go_num, by omega, G1.out, HBb3.out⟩, rfl⟩)
          case measure => simp [intOf] <;> omega
        · have hkn : k = nl := by omega
          have HE : Hid (OB wr w.heap.size u5 (l.flatMap relaB)) := by
            have := HO.out
            rw [hkn, List.take_of_length_le (by have := HL.out; omega)] at this
            exact this
          clear HO hkn
          go_wp2
          go_ret2
          exact ⟨_, by rw [HR.out]; rfl, by rw [HR.out]; exact HE.out, HB.out⟩
end Go.Proofs.YtimnbnomaajmmaaGreat
