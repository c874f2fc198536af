/-
  Part 1 of 4: laws and walks for line_all; no condition of its own.
-/
import Derived.WalkKit
import Derived.WalkSpells
import Derived.WalkLawsBesides
import Derived.Lib.Hide
import Derived.Laws.AppendOwnNone
import Derived.Test.YtmpmkjlkhlagfaaProg
import Derived.BigQuiet
import Derived.Deep.QuietTactic
import Derived.Lib.AppendStr
import Derived.Orders
import Derived.Lib.BytesEntry
import Derived.Shelf.Strings.Search1
import Derived.Shelf.Strings.Search2
import Derived.Shelf.Strings.Search3
import Derived.Shelf.LaysM
import Derived.Shelf.Strings.Shaped
import Derived.Shelf.Bytes.SlIndexAt
import Derived.Shelf.Bytes.SlSearch0
import Derived.Shelf.Bytes.IndexByte
import Derived.Lib.IndexAny
import Derived.Lib.ConvBytes
import Derived.ArgAppend
import Derived.Lib.IndexLaws
import Derived.Lib.IndexBytes
import Derived.Laws.BitsAllLaws
import Derived.Deep.WholeRow
import Derived.Deep.RegionWith
import Derived.StillTail
import Derived.Maps.RangeWalk
import Derived.Laws.Bits64b
import Derived.Deep.RegionLaw
import Derived.Laws.OwnMore
import Derived.Maps.OwnSet
import Derived.Maps.OwnOps
import Derived.Lib.SliceRun
namespace Go.Fd
open Go.RowKit
/-- The slice value v has n elements of 'size' cells each, and its cells in w are xs. -/
def Reads (w : World) (size : Nat) (v : Value) (n : Nat) (xs : List Value) : Prop :=
  xs.length = n * size ∧ ∃ a cap, v = .slice a n cap ∧ n ≤ cap ∧ (a = none → cap = 0) ∧ ∀ j, j < xs.length → ∃ b off, a = some ⟨b, off, none⟩ ∧ w.cell? ⟨b, off + j, none⟩ = xs[j]?
/-- What is needed of a slice type. -/
structure SliceT (P : Program) (t e size bytes : Nat) : Prop where
  ht : P.underlying t = some (.slice e)
  pos : 0 < size
  info : ∃ i z, P.info? e = some i ∧ i.zero = some z ∧ i.size = size ∧ i.bytes = bytes ∧ z.cells.size = size
theorem SliceT.mk' {P : Program} {t e size bytes : Nat} {z : Value} (ht : P.underlying t = some (.slice e)) (hi : (P.info? e).map (fun i => (i.zero, i.size, i.bytes)) = some (some z, size, bytes))
    (hz : z.cells.size = size) (hp : 0 < size) : SliceT P t e size bytes := by
  obtain ⟨i, h1, h2, h3, h4⟩ := info_parts hi
  exact ⟨ht, hp, i, z, h1, h2, h3, h4, hz⟩
theorem block_lt {w : World} {b o : Nat} {v : Value} (h : w.cell? ⟨b, o, none⟩ = some v) : b < w.heap.size := World.block_lt_of_cell? w ⟨b, o, none⟩ h
theorem Reads.mono {w w' : World} {size n : Nat} {v : Value} {xs : List Value} (h : Reads w size v n xs) (hb : Below w.heap.size w w') : Reads w' size v n xs := by
  obtain ⟨h1, a, cap, h2, h3, h0, h4⟩ := h
  refine ⟨h1, a, cap, h2, h3, h0, fun j hj => ?_⟩
  obtain ⟨b, off, e1, e2⟩ := h4 j hj
  refine ⟨b, off, e1, ?_⟩
  rw [hb.cell (p := ⟨b, off + j, none⟩) (block_lt (e2.trans (List.getElem?_eq_getElem hj)))]
  exact e2
theorem Reads.shape {w : World} {size n : Nat} {v : Value} {xs : List Value} (h : Reads w size v n xs) : ∃ m a cap, Hid (m = n) ∧ v = .slice a m cap ∧ m ≤ cap ∧ (a = none → cap = 0) := by
  obtain ⟨h1, a, cap, h2, h3, h0, h4⟩ := h
  exact ⟨n, a, cap, rfl, h2, h3, h0⟩
theorem Reads.of_owns {w : World} {base e size n : Nat} {v : Value} {xs : List Value} (h : w.ownsRow base e size v n xs) : Reads w size v n xs := by
  refine ⟨h.1, ?_⟩
  rcases h.2 with ⟨rfl, rfl⟩ | ⟨g, cap, cur, rfl, hb, hg, hn, hc, hs, ht⟩
  · exact ⟨none, 0, rfl, Nat.le_refl _, fun _ => rfl, fun j hj => by rw [h.1] at hj; simp at hj⟩
  · refine ⟨_, cap, rfl, hn, (fun h => by cases h), fun j hj => ⟨g, 0, rfl, ?_⟩⟩
    have := h.cellAt (g := g) (cap := cap) j (by rw [← h.1]; exact hj)
    rw [Nat.zero_add]; exact this
theorem Reads.nil (w : World) (size : Nat) : Reads w size (.slice none 0 0) 0 [] := ⟨by simp, none, 0, rfl, Nat.le_refl _, fun _ => rfl, fun j hj => by simp at hj⟩
/-- What is owned stays owned where nothing that was there has turned. -/
theorem owns_mono {w w' : World} {base e size n : Nat} {v : Value} {xs : List Value} (h : w.ownsRow base e size v n xs) (hb : Below w.heap.size w w') : w'.ownsRow base e size v n xs := by
  refine ⟨h.1, ?_⟩
  rcases h.2 with h2 | ⟨g, cap, cur, hv, hg, hh, r⟩
  · exact .inl h2
  · exact .inr ⟨g, cap, cur, hv, hg, by rw [hb.block g (Array.getElem?_eq_some_iff.1 hh).1]; exact hh, r⟩
theorem owns_base {w : World} {base base' e size n : Nat} {v : Value} {xs : List Value} (h : w.ownsRow base e size v n xs) (hb : base' ≤ base) : w.ownsRow base' e size v n xs := by
  refine ⟨h.1, ?_⟩
  rcases h.2 with h2 | ⟨g, cap, cur, hv, hg, r⟩
  · exact .inl h2
  · exact .inr ⟨g, cap, cur, hv, Nat.le_trans hb hg, r⟩
/-- An owned slice's growth leaves all below its base alone. -/
theorem owns_below {w w' : World} {base e size n : Nat} {v : Value} {xs : List Value} (h : w.ownsRow base e size v n xs) (hg : w.grownBy w' v.ownBlock) (hb : base ≤ w.heap.size) : Below base w w' :=
  (Below.refl base w).grown hg hb fun k hk => (h.lt k hk).1
theorem below_alloc (w : World) (o : Obj) : Below w.heap.size w (w.alloc o) := (Below.refl _ _).alloc (Nat.le_refl _) o
theorem grown_of_alloc {w w' : World} {o : Obj} {row : Option Nat} (hg : (w.alloc o).grownBy w' row) : w.grownBy w' row :=
  ⟨hg.os, hg.tape, hg.output, Nat.le_trans (by simp) hg.size, fun k hk hr => (hg.block k (by simp; omega) hr).trans (Below.heap_alloc w o k hk)⟩
theorem maxLen_of {n : Nat} (h : n ≤ 140737488355328) : n ≤ maxLen := by unfold maxLen; omega
section
variable {P : Program} {ops : Array Oper} {rest : List Oper} {Q : Exit → Act → World → Prop} {a : Act} {w : World}
theorem oneCell_list {xs : List Value} (h : xs.all (·.oneCell') = true) : ∀ u ∈ xs, u.oneCell' = true := by simpa using h
/-- 'v = append(v, x)': one element, out of the new block that holds it. -/
theorem wpList_push {t e size bytes : Nat} (T : SliceT P t e size bytes) {d : Option Tmp} {ty : TypeId} {pos : String} {aft : Array Edge} {s x : Operand} {v : Value} {n base : Nat} {xs : List Value} (hown : w.ownsRow base e size v n xs)
    (hs : a.eval s = v) (hx : a.eval x = .slice (some ⟨w.heap.size, 0, none⟩) 1 1) {cs : Array Value} (hcs : cs.size = size) (h1 : cs.toList.all (·.oneCell') = true)
    (hn : (n + 1) * bytes ≤ 140737488355328) (hm : n + 1 ≤ 140737488355328) (hb : base ≤ w.heap.size)
    (h : ∀ v' w', w'.ownsRow base e size v' (n + 1) (xs ++ cs.toList) → w.grownBy w' v.ownBlock → Below base w w' → wpList P ops Q rest (a.put d v') w') :
    wpList P ops Q (⟨d, .call { callee := .builtin .append, args := #[s, x], argTypes := #[t, t] }, ty, pos, aft, none⟩ :: rest) a (w.alloc (.cells cs e)) := by
  obtain ⟨i, z, h1', h2, h3, h4, h5⟩ := T.info
  refine wpList_append_own _ rfl s x t rfl base e i z size bytes T.ht h1' h2 h3 h4 h5 T.pos v n xs hs (hown.alloc _) ⟨w.heap.size, 0, none⟩ 1 1 cs.toList hx (by simp [hcs]) ?_ (oneCell_list h1) (maxLen_of hm) hn (by simp; omega) ?_
  · intro j u hj
    have e1 : (⟨w.heap.size, 0, none⟩ : Addr).add j = ⟨w.heap.size, j, none⟩ := by unfold Addr.add; split <;> simp_all
    rw [e1]
    simp only [World.cell?]
    rw [show (w.alloc (.cells cs e)).heap[w.heap.size]? = some (.cells cs e) from heap_alloc_new w _]
    simpa using hj
  · intro v' w' ho hg _
    exact h v' w' ho (grown_of_alloc hg) (owns_below hown (grown_of_alloc hg) hb)
/-- 'v = append(v, x...)': whatever slice x is. -/
theorem wpList_cat {t e size bytes : Nat} (T : SliceT P t e size bytes) {d : Option Tmp} {ty : TypeId} {pos : String} {aft : Array Edge} {s x : Operand} {v : Value} {n base : Nat} {xs : List Value} (hown : w.ownsRow base e size v n xs)
    {u : Value} {m : Nat} {ys : List Value} (hy : Reads w size u m ys) (hs : a.eval s = v) (hx : a.eval x = u) (h1 : ys.all (·.oneCell') = true)
    (hn : (n + m) * bytes ≤ 140737488355328) (hm : n + m ≤ 140737488355328) (hb : base ≤ w.heap.size)
    (h : ∀ v' w', w'.ownsRow base e size v' (n + m) (xs ++ ys) → w.grownBy w' v.ownBlock → Below base w w' → wpList P ops Q rest (a.put d v') w') :
    wpList P ops Q (⟨d, .call { callee := .builtin .append, args := #[s, x], argTypes := #[t, t] }, ty, pos, aft, none⟩ :: rest) a w := by
  obtain ⟨i, z, h1', h2, h3, h4, h5⟩ := T.info
  obtain ⟨hl, au, cap, rfl, hcap, h00, hc⟩ := hy
  rcases au with _ | ad
  · have hm0 : m * size = 0 := by
      rcases Nat.eq_zero_or_pos (m * size) with h0 | h0
      · exact h0
      · obtain ⟨b, off, h', _⟩ := hc 0 (by omega); cases h'
    have hys : ys = [] := List.eq_nil_of_length_eq_zero (by omega)
    subst hys
    have hm0' : m = 0 := by
      have := T.pos
      rcases Nat.mul_eq_zero.1 hm0 with h | h <;> omega
    subst hm0'
    obtain rfl := h00 rfl
    refine wpList_append_own_none rfl s x t rfl base e i size T.ht h1' v n xs hs hown hx ?_
    simpa using h v w (by simpa using hown) (World.grownBy.refl _ _) (Below.refl _ _)
  · refine wpList_append_own _ rfl s x t rfl base e i z size bytes T.ht h1' h2 h3 h4 h5 T.pos v n xs hs hown ad m cap ys hx hl ?_ (oneCell_list h1) (maxLen_of hm) hn hb ?_
    · intro j y hj
      have hlt : j < ys.length := (List.getElem?_eq_some_iff.1 hj).1
      obtain ⟨b, off, e1, e2⟩ := hc j hlt
      cases e1
      have e3 : (⟨b, off, none⟩ : Addr).add j = ⟨b, off + j, none⟩ := by unfold Addr.add; split <;> simp_all
      rw [e3, e2, hj]
    · intro v' w' ho hg _
      exact h v' w' ho hg (owns_below hown hg hb)
theorem wpList_val {o : Oper} {v : Value} {w' : World} (hg : Region.wanted o (yielded ops a.tmps) = true) (hr : (execOp a.eval o).run P w = .ok (.value v) w') (h : wpList P ops Q rest (a.put o.dst v) w') :
    wpList P ops Q (o :: rest) a w := by
  unfold wpList
  rw [if_pos hg]
  refine .inl ?_
  unfold Oper.wp Oper.upon
  rw [hr]
  exact h
theorem wpList_did {o : Oper} {w' : World} (hg : Region.wanted o (yielded ops a.tmps) = true) (hr : (execOp a.eval o).run P w = .ok .skip w') (h : wpList P ops Q rest (a.put o.dst undef) w') :
    wpList P ops Q (o :: rest) a w := by
  unfold wpList
  rw [if_pos hg]
  refine .inl ?_
  unfold Oper.wp Oper.upon
  rw [hr]
  exact h
theorem run_sliceBound' (k : IntKind) (i : Int) (y : Nat) (code : BoundsCode) (h0 : 0 ≤ i) (h1 : i ≤ y) : (Instr.sliceBound (.int k i) y code).run P w = .ok i.toNat w := by
  simp [Instr.sliceBound, asIntOf, h0, h1]
/-- Where a slice's part begins. -/
def partAt (a : Option Addr) (size cap l : Nat) : Option Addr := if cap = l then a else a.map (·.add (l * size))
theorem Reads.part {size n : Nat} {a : Option Addr} {cap : Nat} {xs : List Value} (hl : xs.length = n * size) (hn : n ≤ cap) (h00 : a = none → cap = 0)
    (hc : ∀ j, j < xs.length → ∃ b off, a = some ⟨b, off, none⟩ ∧ w.cell? ⟨b, off + j, none⟩ = xs[j]?) (i j : Nat) (hij : i ≤ j) (hj : j ≤ n) :
    Reads w size (.slice (partAt a size cap i) (j - i) (cap - i)) (j - i) ((xs.drop (i * size)).take ((j - i) * size)) := by
  have hle : i * size + (j - i) * size ≤ n * size := by rw [← Nat.add_mul]; exact Nat.mul_le_mul_right _ (by omega)
  refine ⟨by rw [List.length_take, List.length_drop, hl]; omega, _, _, rfl, by omega, ?_, ?_⟩
  · intro h
    unfold partAt at h
    split at h
    · omega
    · cases a with
      | none => have := h00 rfl; omega
      | some x => simp at h
  · intro t ht
    rw [List.length_take, List.length_drop, hl] at ht
    obtain ⟨b, off, e1, e2⟩ := hc (i * size + t) (by omega)
    subst e1
    have hne : cap ≠ i := by
      intro e
      have : j - i = 0 := by omega
      rw [this] at ht
      omega
    refine ⟨b, off + i * size, ?_, ?_⟩
    · unfold partAt
      rw [if_neg hne]
      simp only [Option.map_some, Addr.add]
      split
      · next h => rw [h]; rfl
      · rfl
    · rw [Nat.add_assoc, e2, List.getElem?_take, if_pos (by omega), List.getElem?_drop]
/-- 'x[i:j]' of a slice. -/
theorem run_sliceAt {t e size bytes : Nat} (T : SliceT P t e size bytes) {v : Value} {n : Nat} {xs : List Value} (hv : Reads w size v n xs) {i j : Int} {k k' : IntKind} (h0 : 0 ≤ i) (h1 : i ≤ j) (h2 : j ≤ n) :
    ∃ v', (∀ w', (Instr.sliceAt t v (some (.int k i)) (some (.int k' j)) none).run P w' = .ok v' w') ∧ Reads w size v' (j - i).toNat ((xs.drop (i.toNat * size)).take ((j - i).toNat * size)) := by
  obtain ⟨hl, a, cap, rfl, hcap, h00, hc⟩ := hv
  obtain ⟨ti, z, e1, e2, e3, e4, e5⟩ := T.info
  refine ⟨.slice (partAt a size cap i.toNat) (j - i).toNat (cap - i.toNat), fun w' => ?_, ?_⟩
  · have r1 : (Instr.sliceBound (.int k' j) cap .sliceAcap).run P w' = .ok j.toNat w' := run_sliceBound' _ _ _ _ (by omega) (by omega)
    have r2 : (Instr.sliceBound (.int k i) j.toNat .sliceB).run P w' = .ok i.toNat w' := run_sliceBound' _ _ _ _ (by omega) (by omega)
    have e6 : j.toNat - i.toNat = (j - i).toNat := by omega
    simp [Instr.sliceAt, Instr.slice, run_underlying T.ht, Instr.sliceBounds, r1, r2, sizeOf, typeInfo, e1, e3, partAt, e6]
  · have := Reads.part hl hcap h00 hc i.toNat j.toNat (by omega) (by omega)
    rw [show j.toNat - i.toNat = (j - i).toNat by omega] at this
    exact this
theorem run_sliceFrom {t e size bytes : Nat} (T : SliceT P t e size bytes) {v : Value} {n : Nat} {xs : List Value} (hv : Reads w size v n xs) {i : Int} {k : IntKind} (h0 : 0 ≤ i) (h1 : i ≤ n) :
    ∃ v', (∀ w', (Instr.sliceAt t v (some (.int k i)) none none).run P w' = .ok v' w') ∧ Reads w size v' (n - i).toNat (xs.drop (i.toNat * size)) := by
  obtain ⟨hl, a, cap, rfl, hcap, h00, hc⟩ := hv
  obtain ⟨ti, z, e1, e2, e3, e4, e5⟩ := T.info
  refine ⟨.slice (partAt a size cap i.toNat) (n - i).toNat (cap - i.toNat), fun w' => ?_, ?_⟩
  · have r2 : (Instr.sliceBound (.int k i) n .sliceB).run P w' = .ok i.toNat w' := run_sliceBound' _ _ _ _ (by omega) (by omega)
    have e6 : n - i.toNat = ((n : Int) - i).toNat := by omega
    simp [Instr.sliceAt, Instr.slice, run_underlying T.ht, Instr.sliceBounds, r2, sizeOf, typeInfo, e1, e3, partAt, e6]
  · have h := Reads.part hl hcap h00 hc i.toNat n (by omega) (Nat.le_refl _)
    rw [show n - i.toNat = ((n : Int) - i).toNat by omega, List.take_of_length_le (by rw [List.length_drop, hl, ← Nat.sub_mul]; exact Nat.mul_le_mul_right _ (by omega))] at h
    exact h
theorem run_sliceTo {t e size bytes : Nat} (T : SliceT P t e size bytes) {v : Value} {n : Nat} {xs : List Value} (hv : Reads w size v n xs) {j : Int} {k : IntKind} (h0 : 0 ≤ j) (h1 : j ≤ n) :
    ∃ v', (∀ w', (Instr.sliceAt t v none (some (.int k j)) none).run P w' = .ok v' w') ∧ Reads w size v' j.toNat (xs.take (j.toNat * size)) := by
  obtain ⟨hl, a, cap, rfl, hcap, h00, hc⟩ := hv
  obtain ⟨ti, z, e1, e2, e3, e4, e5⟩ := T.info
  refine ⟨.slice (partAt a size cap 0) j.toNat cap, fun w' => ?_, ?_⟩
  · have r1 : (Instr.sliceBound (.int k j) cap .sliceAcap).run P w' = .ok j.toNat w' := run_sliceBound' _ _ _ _ (by omega) (by omega)
    simp [Instr.sliceAt, Instr.slice, run_underlying T.ht, Instr.sliceBounds, r1, sizeOf, typeInfo, e1, partAt]
  · have h := Reads.part hl hcap h00 hc 0 j.toNat (by omega) (by omega)
    simpa using h
theorem exec_slice2 {v v' i j : Value} {d : Option Tmp} {t ty : TypeId} {pos : String} {aft : Array Edge} {g : Option (Nat × Bool)} {x lo hi : Operand} (hr : ∀ w', (Instr.sliceAt t v (some i) (some j) none).run P w' = .ok v' w')
    (hx : a.eval x = v) (hlo : a.eval lo = i) (hhi : a.eval hi = j) : (execOp a.eval ⟨d, .slice t x (some lo) (some hi) none, ty, pos, aft, g⟩).run P w = .ok (.value v') w := by
  simp [execOp, hx, hlo, hhi, hr]
theorem exec_sliceFrom {v v' i : Value} {d : Option Tmp} {t ty : TypeId} {pos : String} {aft : Array Edge} {g : Option (Nat × Bool)} {x lo : Operand} (hr : ∀ w', (Instr.sliceAt t v (some i) none none).run P w' = .ok v' w')
    (hx : a.eval x = v) (hlo : a.eval lo = i) : (execOp a.eval ⟨d, .slice t x (some lo) none none, ty, pos, aft, g⟩).run P w = .ok (.value v') w := by
  simp [execOp, hx, hlo, hr]
theorem exec_sliceTo {v v' j : Value} {d : Option Tmp} {t ty : TypeId} {pos : String} {aft : Array Edge} {g : Option (Nat × Bool)} {x hi : Operand} (hr : ∀ w', (Instr.sliceAt t v none (some j) none).run P w' = .ok v' w')
    (hx : a.eval x = v) (hhi : a.eval hi = j) : (execOp a.eval ⟨d, .slice t x none (some hi) none, ty, pos, aft, g⟩).run P w = .ok (.value v') w := by
  simp [execOp, hx, hhi, hr]
/-- 'v = append(v, x)' where there is room: v stays where it is. -/
theorem wpList_pushFits {t e size bytes : Nat} (T : SliceT P t e size bytes) {d : Option Tmp} {ty : TypeId} {pos : String} {aft : Array Edge} {s x : Operand} {g k cap base : Nat} {xs : List Value} (hown : w.ownsRow base e size (.slice (some ⟨g, 0, none⟩) k cap) k xs)
    (hs : a.eval s = .slice (some ⟨g, 0, none⟩) k cap) (hx : a.eval x = .slice (some ⟨w.heap.size, 0, none⟩) 1 1) {cs : Array Value} (hcs : cs.size = size) (h1 : cs.toList.all (·.oneCell') = true) (hk : k < cap)
    (h : ∀ w', w'.ownsRow base e size (.slice (some ⟨g, 0, none⟩) (k + 1) cap) (k + 1) (xs ++ cs.toList) → w.grownBy w' (some g) → wpList P ops Q rest (a.put d (.slice (some ⟨g, 0, none⟩) (k + 1) cap)) w') :
    wpList P ops Q (⟨d, .call { callee := .builtin .append, args := #[s, x], argTypes := #[t, t] }, ty, pos, aft, none⟩ :: rest) a (w.alloc (.cells cs e)) := by
  obtain ⟨i, z, h1', h2, h3, h4, h5⟩ := T.info
  refine wpList_append_fits _ rfl s x t rfl base e i size T.ht h1' h3 g k cap xs hs (hown.alloc _) ⟨w.heap.size, 0, none⟩ 1 1 cs.toList hx (by simp [hcs]) ?_ (oneCell_list h1) hk ?_
  · intro j u hj
    have e1 : (⟨w.heap.size, 0, none⟩ : Addr).add j = ⟨w.heap.size, j, none⟩ := by unfold Addr.add; split <;> simp_all
    rw [e1]
    simp only [World.cell?]
    rw [show (w.alloc (.cells cs e)).heap[w.heap.size]? = some (.cells cs e) from heap_alloc_new w _]
    simpa using hj
  · intro w' ho hg
    exact h w' ho (grown_of_alloc hg)
theorem grownBy_trans {w1 w2 w3 : World} {row : Option Nat} (h1 : w1.grownBy w2 row) (h2 : w2.grownBy w3 row) : w1.grownBy w3 row :=
  ⟨h2.os.trans h1.os, h2.tape.trans h1.tape, h2.output.trans h1.output, Nat.le_trans h1.size h2.size, fun k hk hr => (h2.block k (Nat.lt_of_lt_of_le hk h1.size) hr).trans (h1.block k hk hr)⟩
theorem grownBy_setCell (w : World) (g o : Nat) (v : Value) : w.grownBy (w.setCell ⟨g, o, none⟩ v) (some g) :=
  ⟨rfl, rfl, rfl, by simp [World.setCell], fun k _ hr => Below.heap_setCell _ _ _ _ (fun e => hr (by simp [e]))⟩
theorem below_of_grown {w w' : World} {row : Option Nat} {B : Nat} (h : w.grownBy w' row) (hB : B ≤ w.heap.size) (hr : ∀ k, row = some k → B ≤ k) : Below B w w' :=
  (Below.refl B w).grown h hB hr
end
end Go.Fd
namespace Go.Proofs.Ytmpmkjlkhlagfaa
open Go.RowKit Go.Fd
/-- A byte as the model holds it. -/
abbrev B (c : UInt8) : Value := .int .u8 (c.toNat : Int)
/-- v reads as the bytes l. -/
def Bs (w : World) (v : Value) (l : List UInt8) : Prop := Reads w 1 v l.length (l.map B)
/-- v owns the bytes l, in a block from 'base' on. -/
def OB (w : World) (base : Nat) (v : Value) (l : List UInt8) : Prop := w.ownsRow base 5 1 v l.length (l.map B)
theorem TB : SliceT Try.prog 26 5 1 1 := SliceT.mk' (z := .int .u8 0) (by kernel_rfl) (by kernel_rfl) rfl (by omega)
theorem OB.bs {w : World} {base : Nat} {v : Value} {l : List UInt8} (h : OB w base v l) : Bs w v l := Reads.of_owns h
theorem OB.nil (w : World) (base : Nat) : OB w base (.slice none 0 0) [] := World.ownsRow_nil _ _ _ _
theorem Bs.nil (w : World) : Bs w (.slice none 0 0) [] := Reads.nil w 1
theorem Bs.mono {w w' : World} {v : Value} {l : List UInt8} (h : Bs w v l) (hb : Below w.heap.size w w') : Bs w' v l := Reads.mono h hb
theorem OB.mono {w w' : World} {base : Nat} {v : Value} {l : List UInt8} (h : OB w base v l) (hb : Below w.heap.size w w') : OB w' base v l := owns_mono h hb
theorem OB.base {w : World} {base base' : Nat} {v : Value} {l : List UInt8} (h : OB w base v l) (hb : base' ≤ base) : OB w base' v l := owns_base h hb
/-- A byte slice, opened for a walk. -/
theorem Bs.open {w : World} {v : Value} {l : List UInt8} (h : Bs w v l) : ∃ a cap, v = .slice a l.length cap ∧ l.length ≤ cap ∧ (a = none → cap = 0) ∧
    ∀ i, i < l.length → ∃ b off, a = some ⟨b, off, none⟩ ∧ w.cell? ⟨b, off + i, none⟩ = some (.int .u8 (l[i]?.getD 0).toNat) := by
  obtain ⟨h1, a, cap, h2, h3, h0, h4⟩ := h
  refine ⟨a, cap, h2, h3, h0, fun i hi => ?_⟩
  obtain ⟨b, off, e1, e2⟩ := h4 i (by simpa using hi)
  refine ⟨b, off, e1, e2.trans ?_⟩
  simp [List.getElem?_map, List.getElem?_eq_getElem hi]
theorem OB.open {w : World} {base : Nat} {v : Value} {l : List UInt8} (h : OB w base v l) (hl : 0 < l.length) : ∃ g cap, v = .slice (some ⟨g, 0, none⟩) l.length cap ∧ base ≤ g ∧ g < w.heap.size ∧ l.length ≤ cap ∧
    (∀ i, i < l.length → w.cell? ⟨g, i, none⟩ = some (.int .u8 (l[i]?.getD 0).toNat)) ∧ (∀ i, w.frozen? ⟨g, i, none⟩ = false) := by
  obtain ⟨h1, h2⟩ := id h
  rcases h2 with ⟨rfl, h0⟩ | ⟨g, cap, cur, rfl, hb, hg, hn, hc, hs, ht⟩
  · omega
  · refine ⟨g, cap, rfl, hb, (Array.getElem?_eq_some_iff.1 hg).1, hn, fun i hi => ?_, fun i => ?_⟩
    · rw [World.ownsRow.cellAt h i (by simpa using hi)]
      simp [List.getElem?_map, List.getElem?_eq_getElem hi]
    · exact World.ownsRow.frozenAt h i
theorem OB.stored {w : World} {base g cap : Nat} {l : List UInt8} (h : OB w base (.slice (some ⟨g, 0, none⟩) l.length cap) l) (j : Nat) (c : UInt8) :
    OB (w.setCell ⟨g, j, none⟩ (.int .u8 c.toNat)) base (.slice (some ⟨g, 0, none⟩) l.length cap) (l.set j c) := by
  have := (World.ownsRow.stored h j (B c)).1
  unfold OB
  rw [List.length_set, List.map_set]
  exact this
theorem Bs.shape {w : World} {v : Value} {l : List UInt8} (h : Bs w v l) : ∃ m a cap, Hid (m = l.length) ∧ v = .slice a m cap ∧ m ≤ cap ∧ (a = none → cap = 0) := Reads.shape h
theorem OB.shape {w : World} {base : Nat} {v : Value} {l : List UInt8} (h : OB w base v l) : ∃ m a cap, Hid (m = l.length) ∧ v = .slice a m cap ∧ m ≤ cap ∧ (a = none → cap = 0) := h.bs.shape
def lenV : Value → Nat
  | .slice _ n _ => n
  | _ => 0
/-- A string as the model holds it. -/
abbrev S (l : List UInt8) : Value := .string ⟨l.toArray⟩
theorem wrapEq (x : Int) : IntKind.i64.wrap x = wrap64 x := by rw [IntKind.wrap_i64, wrap64]
theorem take_snoc' {α : Type} (g : List α) (i : Nat) (d : α) (h : g[i]? = some d) : g.take (i + 1) = g.take i ++ [d] := by
  obtain ⟨h1, h2⟩ := List.getElem?_eq_some_iff.1 h
  rw [List.take_succ_eq_append_getElem h1, h2]
theorem u8_of (x : Nat) : (UInt8.ofNat x).toNat = x % 256 := by simp
section
variable {ops : Array Oper} {rest : List Oper} {Q : Exit → Act → World → Prop} {a : Act} {w : World}
theorem wpList_pushB {d : Option Tmp} {ty : TypeId} {pos : String} {aft : Array Edge} {s x : Operand} {v : Value} {base : Nat} {l : List UInt8} (hown : OB w base v l)
    (hs : a.eval s = v) (hx : a.eval x = .slice (some ⟨w.heap.size, 0, none⟩) 1 1) {k : Int} (c : UInt8) (hc : k = c.toNat) (hn : l.length + 1 ≤ 140737488355328) (hb : base ≤ w.heap.size)
    (h : ∀ v' w', OB w' base v' (l ++ [c]) → w.grownBy w' v.ownBlock → Below base w w' → wpList Try.prog ops Q rest (a.put d v') w') :
    wpList Try.prog ops Q (⟨d, .call { callee := .builtin .append, args := #[s, x], argTypes := #[26, 26] }, ty, pos, aft, none⟩ :: rest) a (w.alloc (.cells #[.int .u8 k] 5)) := by
  refine wpList_push TB hown hs hx rfl rfl (by omega) hn hb fun v' w' h1 h2 h3 => h v' w' ?_ h2 h3
  unfold OB
  rw [List.length_append, List.map_append]
  subst hc
  exact h1
theorem allB (l : List UInt8) : (l.map B).all (·.oneCell') = true := by
  rw [List.all_eq_true]
  intro x hx
  obtain ⟨c, _, rfl⟩ := List.mem_map.1 hx
  rfl
theorem wpList_catB {d : Option Tmp} {ty : TypeId} {pos : String} {aft : Array Edge} {s x : Operand} {v u : Value} {base : Nat} {l m : List UInt8} (hown : OB w base v l) (hy : Bs w u m)
    (hs : a.eval s = v) (hx : a.eval x = u) (hn : l.length + m.length ≤ 140737488355328) (hb : base ≤ w.heap.size)
    (h : ∀ v' w', OB w' base v' (l ++ m) → w.grownBy w' v.ownBlock → Below base w w' → wpList Try.prog ops Q rest (a.put d v') w') :
    wpList Try.prog ops Q (⟨d, .call { callee := .builtin .append, args := #[s, x], argTypes := #[26, 26] }, ty, pos, aft, none⟩ :: rest) a w := by
  refine wpList_cat TB hown hy hs hx (allB _) (by omega) hn hb fun v' w' h1 h2 h3 => h v' w' ?_ h2 h3
  unfold OB
  rw [List.length_append, List.map_append]
  exact h1
theorem foldl_push (l : List UInt8) (s : ByteArray) : (l.map fun c => (c.toNat : Int)).foldl (fun (r : ByteArray) (n : Int) => r.push (UInt8.ofNat n.toNat)) s = ⟨s.data ++ l.toArray⟩ := by
  induction l generalizing s with
  | nil => simp
  | cons c l ih =>
    rw [List.map_cons, List.foldl_cons, ih]
    have : (s.push (UInt8.ofNat ((c.toNat : Int)).toNat)).data = s.data.push c := by simp [ByteArray.push]
    rw [this]
    simp [List.push_append_toArray]
/-- 'string(b)'. -/
theorem run_str {v : Value} {l : List UInt8} (hv : Bs w v l) : (convert 26 9 v).run Try.prog w = .ok (.string ⟨l.toArray⟩) w := by
  obtain ⟨h1, a, cap, rfl, h3, h0, h4⟩ := hv
  rw [run_convert_bytes_string w 26 9 5 a l.length cap (by kernel_rfl) (by kernel_rfl) (by kernel_rfl)]
  cases a with
  | none =>
    have hl : l = [] := by
      cases l with
      | nil => rfl
      | cons c l => obtain ⟨b, off, h, _⟩ := h4 0 (by simp); cases h
    subst hl
    rfl
  | some ad =>
    rw [run_bytesToString w ad l.length cap (l.map fun c => (c.toNat : Int))]
    · rw [foldl_push]; simp
    · have h := run_loadCells_list (P := Try.prog) (w := w) ad (l.map B) (fun j v hj => by
        obtain ⟨b, off, e1, e2⟩ := h4 j (List.getElem?_eq_some_iff.1 hj).1
        cases e1
        have e3 : (⟨b, off, none⟩ : Addr).add j = ⟨b, off + j, none⟩ := by unfold Addr.add; split <;> simp_all
        rw [e3, e2, hj])
      rw [List.length_map] at h
      rw [h]
      simp [B]
theorem run_sliceB {v : Value} {l : List UInt8} (hv : Bs w v l) {i j : Int} {k k' : IntKind} (h0 : 0 ≤ i) (h1 : i ≤ j) (h2 : j ≤ l.length) :
    ∃ v', (∀ w', (Instr.sliceAt 26 v (some (.int k i)) (some (.int k' j)) none).run Try.prog w' = .ok v' w') ∧ Bs w v' ((l.drop i.toNat).take (j - i).toNat) := by
  obtain ⟨v', h, hr⟩ := run_sliceAt TB hv h0 h1 h2 (k := k) (k' := k')
  refine ⟨v', h, ?_⟩
  unfold Bs
  rw [List.length_take, List.length_drop, List.map_take, List.map_drop, show min (j - i).toNat (l.length - i.toNat) = (j - i).toNat by omega]
  simpa using hr
theorem run_fromB {v : Value} {l : List UInt8} (hv : Bs w v l) {i : Int} {k : IntKind} (h0 : 0 ≤ i) (h1 : i ≤ l.length) :
    ∃ v', (∀ w', (Instr.sliceAt 26 v (some (.int k i)) none none).run Try.prog w' = .ok v' w') ∧ Bs w v' (l.drop i.toNat) := by
  obtain ⟨v', h, hr⟩ := run_sliceFrom TB hv h0 h1 (k := k)
  refine ⟨v', h, ?_⟩
  unfold Bs
  rw [List.length_drop, List.map_drop, show l.length - i.toNat = ((l.length : Int) - i).toNat by omega]
  simpa using hr
theorem run_toB {v : Value} {l : List UInt8} (hv : Bs w v l) {j : Int} {k : IntKind} (h0 : 0 ≤ j) (h1 : j ≤ l.length) :
    ∃ v', (∀ w', (Instr.sliceAt 26 v none (some (.int k j)) none).run Try.prog w' = .ok v' w') ∧ Bs w v' (l.take j.toNat) := by
  obtain ⟨v', h, hr⟩ := run_sliceTo TB hv h0 h1 (k := k)
  refine ⟨v', h, ?_⟩
  unfold Bs
  rw [List.length_take, List.map_take, show min j.toNat l.length = j.toNat by omega]
  simpa using hr
/-- A literal of bytes. -/
theorem bs_lit (w : World) (l : List UInt8) (cs : Array Value) (n : Nat) (h : cs = (l.map B).toArray) (hn : n = l.length) : Bs (w.alloc (.cells cs 5)) (.slice (some ⟨w.heap.size, 0, none⟩) n n) l := by
  subst h hn
  refine ⟨by simp, _, _, rfl, Nat.le_refl _, (fun h => by cases h), fun j hj => ⟨w.heap.size, 0, rfl, ?_⟩⟩
  rw [Nat.zero_add]
  simp only [World.cell?]
  rw [show (w.alloc (.cells (l.map B).toArray 5)).heap[w.heap.size]? = some (.cells (l.map B).toArray 5) from heap_alloc_new w _]
  simp
/-- .. owned. -/
theorem ob_lit (w : World) (l : List UInt8) (cs : Array Value) (n : Nat) (h : cs = (l.map B).toArray) (hn : n = l.length) (hm : n ≤ 1000000) : OB (w.alloc (.cells cs 5)) w.heap.size (.slice (some ⟨w.heap.size, 0, none⟩) n n) l := by
  subst h hn
  exact ⟨by simp, .inr ⟨w.heap.size, l.length, _, rfl, Nat.le_refl _, heap_alloc_new w _, Nat.le_refl _, by unfold maxLen; omega, by simp, by rw [Nat.mul_one, List.take_of_length_le (by simp)]⟩⟩
end
end Go.Proofs.Ytmpmkjlkhlagfaa
namespace Go.Fd
open Go.RowKit
/-- Of the blocks that were there those alone in S may have turned. -/
structure Stirs (S : Nat → Prop) (w w' : World) : Prop where
  os : w'.os = w.os
  tape : w'.tape = w.tape
  output : w'.output = w.output
  size : w.heap.size ≤ w'.heap.size
  block : ∀ k, k < w.heap.size → ¬ S k → w'.heap[k]? = w.heap[k]?
section
variable {S S' : Nat → Prop} {a w w' w'' : World}
theorem Stirs.refl (S : Nat → Prop) (w : World) : Stirs S w w := ⟨rfl, rfl, rfl, Nat.le_refl _, fun _ _ _ => rfl⟩
theorem Stirs.trans (h : Stirs S w w') (k : Stirs S' w' w'') (hs : ∀ i, i < w.heap.size → S' i → S i) : Stirs S w w'' :=
  ⟨k.os.trans h.os, k.tape.trans h.tape, k.output.trans h.output, Nat.le_trans h.size k.size, fun i hi hn => (k.block i (Nat.lt_of_lt_of_le hi h.size) fun e => hn (hs i hi e)).trans (h.block i hi hn)⟩
theorem Stirs.sub (h : Stirs S w w') (hs : ∀ i, i < w.heap.size → S i → S' i) : Stirs S' w w' := ⟨h.os, h.tape, h.output, h.size, fun i hi hn => h.block i hi fun e => hn (hs i hi e)⟩
theorem Stirs.of_below (h : Below w.heap.size w w') : Stirs S w w' := ⟨h.os, h.tape, h.output, h.size, fun k hk _ => h.block k hk⟩
theorem Stirs.of_belowB {B : Nat} (h : Below B w w') (hs : ∀ k, B ≤ k → S k) : Stirs S w w' := ⟨h.os, h.tape, h.output, h.size, fun k _ hn => h.block k (by
  rcases Nat.lt_or_ge k B with h | h
  · exact h
  · exact absurd (hs k h) hn)⟩
theorem Stirs.below (h : Stirs S w w') {B : Nat} (hB : B ≤ w.heap.size) (hs : ∀ k, S k → B ≤ k) : Below B w w' := ⟨h.os, h.tape, h.output, h.size, fun k hk => h.block k (by omega) fun e => by have := hs k e; omega⟩
theorem Stirs.of_grown {row : Option Nat} (h : w.grownBy w' row) (hs : ∀ k, row = some k → S k) : Stirs S w w' := ⟨h.os, h.tape, h.output, h.size, fun k hk hn => h.block k hk fun e => hn (hs k e.symm)⟩
theorem Stirs.thenBelow (h : Stirs S a w) (hb : Below w.heap.size w w') : Stirs S a w' := h.trans (Stirs.of_below (S := S) hb) fun _ _ h => h
theorem stirs_setCell (w : World) (b o : Nat) (v : Value) (hs : S b) : Stirs S w (w.setCell ⟨b, o, none⟩ v) :=
  ⟨rfl, rfl, rfl, by simp [World.setCell], fun k _ hn => Below.heap_setCell _ _ _ _ (fun e => hn (by subst e; exact hs))⟩
theorem Stirs.cell (h : Stirs S w w') {b o : Nat} {v : Value} (hc : w.cell? ⟨b, o, none⟩ = some v) (hn : ¬ S b) : w'.cell? ⟨b, o, none⟩ = some v := by
  rw [World.cell?_of_block (w := w) (h.block b (block_lt hc) hn)]; exact hc
theorem Stirs.kept (h : Stirs S w w') {b : Nat} {o : Obj} (hb : w.heap[b]? = some o) (hn : ¬ S b) : w'.heap[b]? = some o := (h.block b (Array.getElem?_eq_some_iff.1 hb).1 hn).trans hb
theorem Reads.stirs {size n : Nat} {v : Value} {xs : List Value} (h : Reads w size v n xs) (ht : Stirs S w w') (hn : ∀ k, v.ownBlock = some k → ¬ S k) : Reads w' size v n xs := by
  obtain ⟨h1, a, cap, h2, h3, h0, h4⟩ := h
  refine ⟨h1, a, cap, h2, h3, h0, fun j hj => ?_⟩
  obtain ⟨b, off, e1, e2⟩ := h4 j hj
  refine ⟨b, off, e1, ?_⟩
  rw [List.getElem?_eq_getElem hj] at e2 ⊢
  exact ht.cell e2 (hn b (by subst h2 e1; rfl))
theorem owns_stirs {base e size n : Nat} {v : Value} {xs : List Value} (h : w.ownsRow base e size v n xs) (ht : Stirs S w w') (hn : ∀ k, v.ownBlock = some k → ¬ S k) : w'.ownsRow base e size v n xs := by
  refine ⟨h.1, ?_⟩
  rcases h.2 with h2 | ⟨g, cap, cur, hv, hg, hh, r⟩
  · exact .inl h2
  · exact .inr ⟨g, cap, cur, hv, hg, ht.kept hh (hn g (by rw [hv]; rfl)), r⟩
end
theorem ret1 {a b : Value} (h : a = b) : Ending.returned a = .returned b := by rw [h]
theorem bool_eq {a b : Bool} (h : a = b) : Value.bool a = .bool b := by rw [h]
end Go.Fd
namespace Go.Fd
open Go.RowKit
/-- v reads as the list l. -/
def Rd {α : Type} (mk : α → Value) (w : World) (v : Value) (l : List α) : Prop := Reads w 1 v l.length (l.map mk)
/-- v owns the list l, in a block from 'base' on. -/
def Ow {α : Type} (mk : α → Value) (e : TypeId) (w : World) (base : Nat) (v : Value) (l : List α) : Prop := w.ownsRow base e 1 v l.length (l.map mk)
section
variable {α : Type} {mk : α → Value} {e : TypeId} {w w' : World} {base : Nat} {v : Value} {l : List α}
theorem Ow.rd (h : Ow mk e w base v l) : Rd mk w v l := Reads.of_owns h
theorem Ow.nil (mk : α → Value) (e : TypeId) (w : World) (base : Nat) : Ow mk e w base (.slice none 0 0) [] := World.ownsRow_nil _ _ _ _
theorem Rd.mono (h : Rd mk w v l) (hb : Below w.heap.size w w') : Rd mk w' v l := Reads.mono h hb
theorem Ow.mono (h : Ow mk e w base v l) (hb : Below w.heap.size w w') : Ow mk e w' base v l := owns_mono h hb
theorem Ow.rebase {base' : Nat} (h : Ow mk e w base v l) (hb : base' ≤ base) : Ow mk e w base' v l := owns_base h hb
theorem Rd.open (d : α) (h : Rd mk w v l) : ∃ a cap, v = .slice a l.length cap ∧ l.length ≤ cap ∧ (a = none → cap = 0) ∧
    ∀ i, i < l.length → ∃ b off, a = some ⟨b, off, none⟩ ∧ w.cell? ⟨b, off + i, none⟩ = some (mk (l[i]?.getD d)) := by
  obtain ⟨h1, a, cap, h2, h3, h0, h4⟩ := h
  refine ⟨a, cap, h2, h3, h0, fun i hi => ?_⟩
  obtain ⟨b, off, e1, e2⟩ := h4 i (by simpa using hi)
  refine ⟨b, off, e1, e2.trans ?_⟩
  simp [List.getElem?_map, List.getElem?_eq_getElem hi]
theorem Rd.shape (h : Rd mk w v l) : ∃ m a cap, Hid (m = l.length) ∧ v = .slice a m cap ∧ m ≤ cap ∧ (a = none → cap = 0) := Reads.shape h
theorem Ow.shape (h : Ow mk e w base v l) : ∃ m a cap, Hid (m = l.length) ∧ v = .slice a m cap ∧ m ≤ cap ∧ (a = none → cap = 0) := h.rd.shape
theorem Ow.open (d : α) (h : Ow mk e w base v l) (hl : 0 < l.length) : ∃ g cap, v = .slice (some ⟨g, 0, none⟩) l.length cap ∧ base ≤ g ∧ g < w.heap.size ∧ l.length ≤ cap ∧
    (∀ i, i < l.length → w.cell? ⟨g, i, none⟩ = some (mk (l[i]?.getD d))) ∧ (∀ i, w.frozen? ⟨g, i, none⟩ = false) := by
  obtain ⟨h1, h2⟩ := id h
  rcases h2 with ⟨rfl, h0⟩ | ⟨g, cap, cur, rfl, hb, hg, hn, hc, hs, ht⟩
  · omega
  · refine ⟨g, cap, rfl, hb, (Array.getElem?_eq_some_iff.1 hg).1, hn, fun i hi => ?_, fun i => ?_⟩
    · rw [World.ownsRow.cellAt h i (by simpa using hi)]
      simp [List.getElem?_map, List.getElem?_eq_getElem hi]
    · exact World.ownsRow.frozenAt h i
theorem Ow.stored {g cap : Nat} (h : Ow mk e w base (.slice (some ⟨g, 0, none⟩) l.length cap) l) (j : Nat) (x : α) :
    Ow mk e (w.setCell ⟨g, j, none⟩ (mk x)) base (.slice (some ⟨g, 0, none⟩) l.length cap) (l.set j x) := by
  have := (World.ownsRow.stored h j (mk x)).1
  unfold Ow
  rw [List.length_set, List.map_set]
  exact this
end
section
variable {P : Program} {ops : Array Oper} {rest : List Oper} {Q : Exit → Act → World → Prop} {a : Act} {w : World} {α : Type} {mk : α → Value} {e : TypeId}
/-- 'v = append(v, x)'. -/
theorem wpList_pushE {t bytes : Nat} (T : SliceT P t e 1 bytes) {d : Option Tmp} {ty : TypeId} {pos : String} {aft : Array Edge} {s x : Operand} {v : Value} {base : Nat} {l : List α} (hown : Ow mk e w base v l)
    (hs : a.eval s = v) (hx : a.eval x = .slice (some ⟨w.heap.size, 0, none⟩) 1 1) {u : Value} (c : α) (hc : u = mk c) (h1 : (mk c).oneCell' = true) (hn : (l.length + 1) * bytes ≤ 140737488355328) (hb8 : 1 ≤ bytes) (hb : base ≤ w.heap.size)
    (h : ∀ v' w', Ow mk e w' base v' (l ++ [c]) → w.grownBy w' v.ownBlock → Below base w w' → wpList P ops Q rest (a.put d v') w') :
    wpList P ops Q (⟨d, .call { callee := .builtin .append, args := #[s, x], argTypes := #[t, t] }, ty, pos, aft, none⟩ :: rest) a (w.alloc (.cells #[u] e)) := by
  subst hc
  refine wpList_push T hown hs hx rfl (by simp [h1]) hn (by have := Nat.le_mul_of_pos_right (l.length + 1) hb8; omega) hb fun v' w' h1 h2 h3 => h v' w' ?_ h2 h3
  unfold Ow
  rw [List.length_append, List.map_append]
  exact h1
end
/-- Rows of unlike elements lie in unlike blocks. -/
theorem own_apart {w : World} {b1 b2 e1 e2 s1 s2 n1 n2 : Nat} {v1 v2 : Value} {xs1 xs2 : List Value} (h1 : w.ownsRow b1 e1 s1 v1 n1 xs1) (h2 : w.ownsRow b2 e2 s2 v2 n2 xs2) (hne : e1 ≠ e2) {k : Nat} (hk : v1.ownBlock = some k) : v2.ownBlock ≠ some k := by
  intro hk2
  rcases h1.2 with ⟨rfl, _⟩ | ⟨g1, c1, u1, rfl, _, hg1, _⟩
  · cases hk
  rcases h2.2 with ⟨rfl, _⟩ | ⟨g2, c2, u2, rfl, _, hg2, _⟩
  · cases hk2
  simp only [Value.ownBlock, Option.some.injEq] at hk hk2
  subst hk hk2
  rw [hg1] at hg2
  simp at hg2
  exact hne hg2.2
theorem owns_grown {w w' : World} {base e size n : Nat} {v : Value} {xs : List Value} {row : Option Nat} (h : w.ownsRow base e size v n xs) (hg : w.grownBy w' row) (hne : ∀ k, v.ownBlock = some k → row ≠ some k) : w'.ownsRow base e size v n xs :=
  owns_stirs (S := fun k => row = some k) h (Stirs.of_grown hg fun _ h => h) hne
end Go.Fd
namespace Go.Proofs.Ytmpmkjlkhlagfaa
open Go.RowKit Go.Fd
theorem strCells_mk (m : List UInt8) : Lib.strCells ⟨m.toArray⟩ = m.map B := by simp [Lib.strCells]
/-- 'append(tab, s...)', s a string. -/
theorem wpList_catS {ops : Array Oper} {rest : List Oper} {Q : Exit → Act → World → Prop} {a : Act} {w : World} {d : Option Tmp} {ty : TypeId} {pos : String} {aft : Array Edge} {s x : Operand} {v : Value} {base : Nat} {l m : List UInt8} (hown : OB w base v l)
    (hs : a.eval s = v) (hx : a.eval x = S m) (hn : l.length + m.length ≤ 140737488355328) (hb : base ≤ w.heap.size)
    (h : ∀ v' w', OB w' base v' (l ++ m) → w.grownBy w' v.ownBlock → Below base w w' → wpList Try.prog ops Q rest (a.put d v') w') :
    wpList Try.prog ops Q (⟨d, .call { callee := .builtin .append, args := #[s, x], argTypes := #[26, 9] }, ty, pos, aft, none⟩ :: rest) a w := by
  obtain ⟨i, z, h1', h2, h3, h4, h5⟩ := TB.info
  have hz : i.zero = some (.int .u8 0) := by
    obtain ⟨i', g1, g2, _⟩ := info_parts (P := Try.prog) (e := 5) (z := .int .u8 0) (size := 1) (bytes := 1) (by kernel_rfl)
    rw [h1'] at g1
    cases g1
    exact g2
  have hsz : (⟨m.toArray⟩ : ByteArray).size = m.length := by simp [ByteArray.size]
  refine Lib.wpList_append_own_string _ rfl s x 26 9 rfl base 5 i TB.ht (by kernel_rfl) h1' hz h3 h4 v l.length (l.map B) hs hown ⟨m.toArray⟩ hx (by rw [hsz]; exact maxLen_of hn) (by rw [hsz]; exact hn) hb fun v' w' h1 h2 _ => ?_
  refine h v' w' ?_ h2 (owns_below hown h2 hb)
  unfold OB
  rw [List.length_append, List.map_append, ← strCells_mk, ← hsz]
  exact h1
end Go.Proofs.Ytmpmkjlkhlagfaa
namespace Go.Fd
open Go.RowKit
/-- v reads as the list l, k cells an element. -/
def RdR {α : Type} (k : Nat) (enc : α → List Value) (w : World) (v : Value) (l : List α) : Prop := Reads w k v l.length (l.flatMap enc)
/-- v owns the list l. -/
def OwR {α : Type} (k : Nat) (enc : α → List Value) (e : TypeId) (w : World) (base : Nat) (v : Value) (l : List α) : Prop := w.ownsRow base e k v l.length (l.flatMap enc)
theorem flat_len {α : Type} {k : Nat} {enc : α → List Value} (hk : ∀ x, (enc x).length = k) (l : List α) : (l.flatMap enc).length = l.length * k := by
  induction l with
  | nil => simp
  | cons x l ih => rw [List.flatMap_cons, List.length_append, ih, hk, List.length_cons, Nat.succ_mul]; omega
theorem flat_get {α : Type} {k : Nat} {enc : α → List Value} (hk : ∀ x, (enc x).length = k) : ∀ (l : List α) (i c : Nat) (x : α), l[i]? = some x → c < k → (l.flatMap enc)[i * k + c]? = (enc x)[c]? := by
  intro l
  induction l with
  | nil => intro i c x h; simp at h
  | cons y l ih =>
    intro i c x h hc
    rw [List.flatMap_cons]
    cases i with
    | zero =>
      simp at h
      subst h
      rw [Nat.zero_mul, Nat.zero_add, List.getElem?_append_left (by rw [hk]; exact hc)]
    | succ i =>
      have e : (i + 1) * k + c - (enc y).length = i * k + c := by rw [hk, Nat.succ_mul]; omega
      rw [List.getElem?_append_right (by rw [hk, Nat.succ_mul]; omega), e]
      exact ih i c x (by simpa using h) hc
section
variable {α : Type} {k : Nat} {enc : α → List Value} {e : TypeId} {w w' : World} {base : Nat} {v : Value} {l : List α}
theorem OwR.rd (h : OwR k enc e w base v l) : RdR k enc w v l := Reads.of_owns h
theorem OwR.nil (k : Nat) (enc : α → List Value) (e : TypeId) (w : World) (base : Nat) : OwR k enc e w base (.slice none 0 0) [] := World.ownsRow_nil _ _ _ _
theorem RdR.nil (k : Nat) (enc : α → List Value) (w : World) : RdR k enc w (.slice none 0 0) [] := Reads.nil w k
theorem RdR.mono (h : RdR k enc w v l) (hb : Below w.heap.size w w') : RdR k enc w' v l := Reads.mono h hb
theorem OwR.mono (h : OwR k enc e w base v l) (hb : Below w.heap.size w w') : OwR k enc e w' base v l := owns_mono h hb
theorem RdR.shape (h : RdR k enc w v l) : ∃ m a cap, Hid (m = l.length) ∧ v = .slice a m cap ∧ m ≤ cap ∧ (a = none → cap = 0) := Reads.shape h
theorem OwR.shape (h : OwR k enc e w base v l) : ∃ m a cap, Hid (m = l.length) ∧ v = .slice a m cap ∧ m ≤ cap ∧ (a = none → cap = 0) := h.rd.shape
/-- Opened: the cells of the record at a place. -/
theorem RdR.open (h : RdR k enc w v l) (hk : ∀ x, (enc x).length = k) : ∃ a cap, v = .slice a l.length cap ∧ l.length ≤ cap ∧ (a = none → cap = 0) ∧
    ∀ i x, l[i]? = some x → 0 < k → ∃ b off, a = some ⟨b, off, none⟩ ∧ ∀ c, c < k → w.cell? ⟨b, off + (i * k + c), none⟩ = (enc x)[c]? := by
  obtain ⟨h1, a, cap, h2, h3, h0, h4⟩ := h
  refine ⟨a, cap, h2, h3, h0, fun i x hi hk0 => ?_⟩
  have hlt := (List.getElem?_eq_some_iff.1 hi).1
  have hin : ∀ c, c < k → i * k + c < (l.flatMap enc).length := fun c hc => by
    rw [flat_len hk]
    have : (i + 1) * k ≤ l.length * k := Nat.mul_le_mul_right k hlt
    rw [Nat.succ_mul] at this
    omega
  obtain ⟨b, off, e1, -⟩ := h4 (i * k + 0) (hin 0 hk0)
  refine ⟨b, off, e1, fun c hc => ?_⟩
  obtain ⟨b', off', e2, e3⟩ := h4 (i * k + c) (hin c hc)
  rw [e1] at e2
  cases e2
  rw [e3]
  exact flat_get hk l i c x hi hc
end
section
variable {P : Program} {ops : Array Oper} {rest : List Oper} {Q : Exit → Act → World → Prop} {a : Act} {w : World} {α : Type} {k : Nat} {enc : α → List Value} {e : TypeId}
/-- 'v = append(v, x)', x a record. -/
theorem wpList_pushR {t bytes : Nat} (T : SliceT P t e k bytes) {d : Option Tmp} {ty : TypeId} {pos : String} {aft : Array Edge} {s x : Operand} {v : Value} {base : Nat} {l : List α} (hown : OwR k enc e w base v l)
    (hs : a.eval s = v) (hx : a.eval x = .slice (some ⟨w.heap.size, 0, none⟩) 1 1) {cs : Array Value} (c : α) (hc : cs.toList = enc c) (hk : cs.size = k) (h1 : cs.toList.all (·.oneCell') = true)
    (hn : (l.length + 1) * bytes ≤ 140737488355328) (hm : l.length + 1 ≤ 140737488355328) (hb : base ≤ w.heap.size)
    (h : ∀ v' w', OwR k enc e w' base v' (l ++ [c]) → w.grownBy w' v.ownBlock → Below base w w' → wpList P ops Q rest (a.put d v') w') :
    wpList P ops Q (⟨d, .call { callee := .builtin .append, args := #[s, x], argTypes := #[t, t] }, ty, pos, aft, none⟩ :: rest) a (w.alloc (.cells cs e)) := by
  refine wpList_push T hown hs hx hk h1 hn hm hb fun v' w' h1 h2 h3 => h v' w' ?_ h2 h3
  unfold OwR
  rw [List.length_append, List.flatMap_append, List.flatMap_singleton, ← hc]
  exact h1
end
end Go.Fd
namespace Go.Fd
open Go.RowKit
/-- o depends on operation j. -/
def depB (o : Oper) (j : Nat) : Bool := o.after.any fun e => e.on == j && Region.binds .any e
/-- Slot t holds, when operation i is run, what it held ahead of the region. -/
def oldB (l : List Oper) (i t : Nat) : Bool := l.zipIdx.all fun (o, k) => o.dst != some t || k == i || depB o i
/-- Each operation has a slot of its own, below n, and depends on earlier ones alone. -/
def persB (l : List Oper) (n : Nat) : Bool :=
  l.zipIdx.all fun (o, k) => (match o.dst with | some d => decide (d < n) | none => false) && o.after.all (fun e => !Region.binds .any e || decide (e.on < k)) && l.zipIdx.all fun (o', k') => k == k' || o.dst != o'.dst
structure At (P : Program) (l : List Oper) (V : Nat → Value → World → Prop) (a0 : Act) (w0 : World) (i : Nat) (o : Oper) (a : Act) (w : World) : Prop where
  below : Below w0.heap.size w0 w
  size : a.tmps.size = a0.tmps.size
  old : ∀ t, oldB l i t = true → a.eval (.tmp t) = a0.eval (.tmp t)
  dep : ∀ j oj d, l[j]? = some oj → oj.dst = some d → depB o j = true → V j (a.eval (.tmp d)) w
def putAll (vs : Nat → Value) : Nat → List Oper → Act → Act
  | _, [], a => a
  | k, o :: r, a => putAll vs (k + 1) r (a.put o.dst (vs k))
theorem put_size (a : Act) (d : Option Tmp) (v : Value) : (a.put d v).tmps.size = a.tmps.size := by cases d <;> simp [Act.put]
theorem put_defers (a : Act) (d : Option Tmp) (v : Value) : (a.put d v).defers = a.defers := by cases d <;> rfl
theorem put_get_ne (a : Act) (d : Option Tmp) (v : Value) (t : Nat) (h : d ≠ some t) : (a.put d v).eval (.tmp t) = a.eval (.tmp t) := by
  cases d with
  | none => rfl
  | some d =>
    have hne : d ≠ t := fun e => h (by rw [e])
    simp [Act.put, Act.eval, Array.getD_eq_getD_getElem?, hne]
theorem put_get_eq (a : Act) (d : Nat) (v : Value) (h : d < a.tmps.size) : (a.put (some d) v).eval (.tmp d) = v := by
  simp [Act.put, Act.eval, Array.getD_eq_getD_getElem?, h]
theorem act_ext {a b : Act} (h1 : a.tmps.size = b.tmps.size) (h2 : a.defers = b.defers) (h3 : ∀ t, a.eval (.tmp t) = b.eval (.tmp t)) : a = b := by
  cases a with
  | mk at_ ad =>
    cases b with
    | mk bt bd =>
      simp only at h1 h2
      subst h2
      congr 1
      apply Array.ext h1
      intro i hi1 hi2
      have := h3 i
      simpa [Act.eval, Array.getD_eq_getD_getElem?, Array.getElem?_eq_getElem hi1, Array.getElem?_eq_getElem hi2] using this
theorem putAll_size (vs : Nat → Value) : ∀ (k : Nat) (l : List Oper) (a : Act), (putAll vs k l a).tmps.size = a.tmps.size
  | _, [], _ => rfl
  | k, o :: r, a => by rw [putAll, putAll_size, put_size]
theorem putAll_defers (vs : Nat → Value) : ∀ (k : Nat) (l : List Oper) (a : Act), (putAll vs k l a).defers = a.defers
  | _, [], _ => rfl
  | k, o :: r, a => by rw [putAll, putAll_defers, put_defers]
theorem putAll_old (vs : Nat → Value) (t : Nat) : ∀ (k : Nat) (l : List Oper) (a : Act), (∀ o ∈ l, o.dst ≠ some t) → (putAll vs k l a).eval (.tmp t) = a.eval (.tmp t)
  | _, [], _, _ => rfl
  | k, o :: r, a, h => by rw [putAll, putAll_old vs t (k + 1) r _ (fun o ho => h o (by simp [ho])), put_get_ne _ _ _ _ (h o (by simp))]
theorem putAll_new (vs : Nat → Value) (t : Nat) : ∀ (k : Nat) (l : List Oper) (a : Act) (j : Nat) (o : Oper), l[j]? = some o → o.dst = some t → t < a.tmps.size → (∀ j' o', l[j']? = some o' → o'.dst = some t → j' = j) →
    (putAll vs k l a).eval (.tmp t) = vs (k + j)
  | _, [], _, _, _, h, _, _, _ => by simp at h
  | k, x :: r, a, 0, o, h, hd, hs, hu => by
    simp at h; subst h
    rw [putAll, putAll_old vs t (k + 1) r]
    · rw [hd]; exact put_get_eq _ _ _ hs
    · intro o' ho' e
      obtain ⟨j', hj'⟩ := List.getElem?_of_mem ho'
      have := hu (j' + 1) o' (by simpa using hj') e
      omega
  | k, x :: r, a, j + 1, o, h, hd, hs, hu => by
    rw [putAll, putAll_new vs t (k + 1) r _ j o (by simpa using h) hd (by rw [put_size]; exact hs) (fun j' o' h1 h2 => by have := hu (j' + 1) o' (by simpa using h1) h2; omega)]
    congr 1; omega
theorem persB_spec {l : List Oper} {n : Nat} (h : persB l n = true) {k : Nat} {o : Oper} (ho : l[k]? = some o) :
    (∃ d, o.dst = some d ∧ d < n) ∧ (∀ e ∈ o.after, Region.binds .any e = true → e.on < k) ∧ ∀ k' o', l[k']? = some o' → k' ≠ k → o'.dst ≠ o.dst := by
  unfold persB at h
  rw [List.all_eq_true] at h
  have hm : (o, k) ∈ l.zipIdx := by rw [List.mem_zipIdx_iff_getElem?]; exact ho
  have := h _ hm
  simp only [Bool.and_eq_true, Array.all_eq_true_iff_forall_mem, List.all_eq_true, Bool.or_eq_true, decide_eq_true_eq, Bool.not_eq_true'] at this
  obtain ⟨⟨h1, h2⟩, h3⟩ := this
  refine ⟨?_, fun e he hb => ?_, fun k' o' ho' hne he => ?_⟩
  · cases hd : o.dst with
    | none => rw [hd] at h1; simp at h1
    | some d => rw [hd] at h1; exact ⟨d, rfl, by simpa using h1⟩
  · rcases h2 e he with h | h
    · rw [hb] at h; cases h
    · exact h
  · have hm' : (o', k') ∈ l.zipIdx := by rw [List.mem_zipIdx_iff_getElem?]; exact ho'
    have := h3 _ hm'
    simp only [beq_iff_eq, bne_iff_ne, ne_eq] at this
    rcases this with h | h
    · exact hne h.symm
    · exact h he.symm
theorem depB_of {o : Oper} {j : Nat} (h : depB o j = true) : ∃ e ∈ o.after, e.on = j ∧ Region.binds .any e = true := by
  unfold depB at h
  rw [Array.any_eq_true'] at h
  obtain ⟨e, he, h⟩ := h
  simp only [Bool.and_eq_true, beq_iff_eq] at h
  exact ⟨e, he, h.1, h.2⟩
section
variable {P : Program} {l : List Oper} {V : Nat → Value → World → Prop} {a0 : Act} {w0 : World}
theorem getD_lt {listed : Array Bool} {i : Nat} (h : i < listed.size) : listed.getD i true = listed.getD i false := by
  simp [Array.getD_eq_getD_getElem?, Array.getElem?_eq_getElem h]
theorem getD_set_true' {listed : Array Bool} {i j : Nat} (h : listed.getD j true = true) : (listed.setIfInBounds i true).getD j true = true := by
  by_cases hij : i = j
  · subst hij
    by_cases hi : i < listed.size
    · simp [Array.getD_eq_getD_getElem?, hi]
    · simp [Array.getD_eq_getD_getElem?, hi]
  · rw [getD_set_ne _ hij]; exact h
theorem getD_set_self {listed : Array Bool} {i : Nat} (d : Bool) (h : i < listed.size) : (listed.setIfInBounds i true).getD i d = true := by
  simp [Array.getD_eq_getD_getElem?, h]
end
/-! ### One operation -/
section
variable {P : Program} {l : List Oper} {o : Oper} {a : Act} {w : World} {R : Value → World → Prop}
end
section
variable {P : Program} {l : List Oper} {a : Act} {w : World} {d : Option Tmp} {ty : TypeId} {pos : String} {aft : Array Edge} {g : Option (Nat × Bool)}
theorem run_bin {x y : Operand} {t t' : TypeId} {op : BinOp} {u v c : Value} (hx : a.eval x = u) (hy : a.eval y = v) (hr : (do eqGuard op t x y u v; binOp op t u v : Sem Value).run P w = .ok c w) : (execOp a.eval ⟨d, .binOp op t x y t', ty, pos, aft, g⟩).run P w = .ok (.value c) w := by
  simp only [execOp, hx, hy]
  rw [Sem.run_bind, hr]
  rfl
theorem run_call {f : FuncId} {fn : Func} {args : Array Operand} {ts : Array TypeId} {vals : Array Value} (hf : P.funcs[f]? = some fn) (hn : (fn.name == "runtime.NumGoroutine") = false) {c : Code} (hb : fn.body = some c) (hx : args.map a.eval = vals) :
    (execOp a.eval ⟨d, .call { callee := .value (.func f), args := args, argTypes := ts }, ty, pos, aft, g⟩).run P w = .ok (.enter f vals) w := by
  have h1 : fn.name ≠ "runtime.NumGoroutine" := by simpa using hn
  have hc : (callFunc f vals).run P w = .ok (.enter f vals) w := by
    simp [callFunc, hf, h1, hb]
  simp only [execOp, resolve, hx]
  show Sem.run P (do let d ← Deferred.ofValue (Value.func (.func f) #[] #[]) vals; invoke d.target d.args) w = _
  simp [Deferred.ofValue, invoke, hc]
end
end Go.Fd
namespace Go.Proofs.Ytmpmkjlkhlagfaa
open Go.RowKit Go.Fd
/-- The bytes ahead of the next 0. -/
def upto0 : List UInt8 → Option (List UInt8)
  | [] => none
  | c :: r => if c = 0 then some [] else (upto0 r).map (c :: ·)
def textR (l : List UInt8) (at_ : Int) : List UInt8 × Int :=
  if at_ < 0 ∨ (l.length : Int) < at_ then ([], 5) else match upto0 (l.drop at_.toNat) with
    | none => ([], 2)
    | some g => (g, 0)
theorem bytesOf_nums (l : List UInt8) : Lib.bytesOf (l.map fun c => (c.toNat : Int)) = l := by
  unfold Lib.bytesOf
  rw [List.map_map]
  conv => rhs; rw [← List.map_id l]
  apply List.map_congr_left
  intro c _
  simp
theorem run_indexByteAt {P : Program} (w : World) (ad : Addr) (c : Nat) (l : List UInt8) (cv : Int) (hc : ∀ j x, (l.map fun c => (c.toNat : Int))[j]? = some x → w.cell? (ad.add j) = some (.int .u8 x)) :
    (Extern.BytealgIndexByte.indexByte #[.slice (some ad) l.length c, .int .u8 cv]).run P w = .ok (.int .i64 (Lib.indexByte l cv.toNat.toUInt8)) w := by
  have hl := Lib.run_loadBytesX (P := P) w (l.map fun c => (c.toNat : Int)) ad .empty hc
  rw [List.length_map] at hl
  have hs := Lib.run_indexByteString (P := P) ⟨l.toArray⟩ cv w
  rw [bytesOf_nums] at hl
  have he : (⟨ByteArray.empty.data ++ l.toArray⟩ : ByteArray) = ⟨l.toArray⟩ := by
    apply ByteArray.ext
    show (#[] : Array UInt8) ++ l.toArray = l.toArray
    simp
  rw [he] at hl
  change Sem.run P (do
    let b ← Extern.Bytes.bytesOf (.slice (some ad) l.length c)
    let c ← Extern.Bytes.asByte (.int .u8 cv)
    match (List.range b.size).find? fun i => b[i]! == c with
    | some i => pure (goInt i)
    | none => pure (goInt (-1))) w = _
  change Sem.run P (do
    let b ← Extern.Bytes.bytesOf (.string ⟨l.toArray⟩)
    let c ← Extern.Bytes.asByte (.int .u8 cv)
    match (List.range b.size).find? fun i => b[i]! == c with
    | some i => pure (goInt i)
    | none => pure (goInt (-1))) w = _ at hs
  simp only [Extern.Bytes.bytesOf, Sem.run_bind, Sem.run_pure, hl, Result.andThen] at hs ⊢
  exact hs
theorem indexByte_any (l : List UInt8) (c : UInt8) (v : Value) (w : World) (hl : l.length ≤ 1000000000) (hv : Bs w v l) :
    Calls Try.prog 55 #[v, .int .u8 c.toNat] w fun e w' => e = .returned (.int .i64 (Lib.indexByte l c)) ∧ w = w' := by
  have hrun : ∀ wx, wx = w → (callFunc 62 #[v, .int .u8 c.toNat]).run Try.prog wx = .ok (.value (.int .i64 (Lib.indexByte l c))) wx := by
    rintro wx rfl
    rw [run_callFunc_extern Try.func62 (by kernel_rfl) (by kernel_rfl) (by kernel_rfl) (e := Extern.BytealgIndexByte.indexByte) (by kernel_rfl)]
    obtain ⟨h1, a, cap, rfl, h3, h0, h4⟩ := hv
    have hcc : UInt8.ofNat (Int.toNat (c.toNat : Int)) = c := by simp
    cases a with
    | none =>
      obtain rfl := h0 rfl
      obtain rfl : l = [] := List.eq_nil_of_length_eq_zero (by omega)
      rw [show (([] : List UInt8).length) = 0 from rfl, Lib.run_indexByteNil wx 0 0 (c.toNat : Int)]
      rfl
    | some ad =>
      rw [run_indexByteAt wx ad cap l (c.toNat : Int) (fun j x hj => by
        rw [List.getElem?_map] at hj
        cases hx : l[j]? with
        | none => rw [hx] at hj; simp at hj
        | some y =>
          rw [hx] at hj
          simp at hj
          subst hj
          have hjl : j < l.length := (List.getElem?_eq_some_iff.1 hx).1
          obtain ⟨b, off, e1, e2⟩ := h4 j (by simpa using hjl)
          cases e1
          have e3 : (⟨b, off, none⟩ : Addr).add j = ⟨b, off + j, none⟩ := by unfold Addr.add; split <;> simp_all
          rw [e3, e2, List.getElem?_map, hx]; rfl)]
      simp [Result.andThen]
  have hrun2 := hrun w rfl
  clear hrun hv
  go_enter Try.func55, Try.ntmps55
  go_wp2
  go_ret
  exact ⟨rfl, rfl⟩
theorem indexByte_upto0 (l : List UInt8) : Lib.indexByte l 0 = match upto0 l with | none => -1 | some g => (g.length : Int) := by
  induction l with
  | nil => rfl
  | cons c r ih =>
    rw [Lib.indexByte, upto0]
    by_cases h : c = 0
    · simp [h]
    · rw [if_neg h]
      simp only [beq_iff_eq, h, if_false]
      cases hr : upto0 r with
      | none => rw [hr] at ih; simp [ih]
      | some g => rw [hr] at ih; simp only at ih; rw [ih]; simp <;> omega
theorem upto0_prefix (l g : List UInt8) (h : upto0 l = some g) : g = l.take g.length ∧ g.length < l.length := by
  induction l generalizing g with
  | nil => simp [upto0] at h
  | cons c r ih =>
    rw [upto0] at h
    split at h
    · simp at h; subst h; simp
    · cases hr : upto0 r with
      | none => rw [hr] at h; simp at h
      | some x =>
        rw [hr] at h; simp at h; subst h
        obtain ⟨h1, h2⟩ := ih x hr
        refine ⟨?_, by simpa using h2⟩
        rw [List.length_cons, List.take_succ_cons, ← h1]
set_option maxRecDepth 100000 in
theorem octText_any (l : List UInt8) (at_ : Int) (v : Value) (w : World) (hl : l.length ≤ 1000000000) (hv : Bs w v l) :
    Calls Try.prog 49 #[v, .int .i64 at_] w fun e w' => e = .returned (.tuple #[S (textR l at_).1, .int .i64 (textR l at_).2]) ∧ w = w' := by
  obtain ⟨a, cap, rfl, hcap, _, _⟩ := hv.open
  by_cases h1 : at_ < 0
  · have HR := Lib.hid (show textR l at_ = ([], 5) by rw [textR, if_pos (.inl h1)])
    go_enter Try.func49, Try.ntmps49
    go_wp2
    go_ret2
    exact ⟨by rw [HR.out]; rfl, rfl⟩
  by_cases h2 : (l.length : Int) < at_
  · have HR := Lib.hid (show textR l at_ = ([], 5) by rw [textR, if_pos (.inr h2)])
    go_enter Try.func49, Try.ntmps49
    go_wp2
    go_ret2
    exact ⟨by rw [HR.out]; rfl, rfl⟩
  have htx : textR l at_ = match upto0 (l.drop at_.toNat) with | none => ([], 2) | some g => (g, 0) := by rw [textR, if_neg (by omega)]; try rfl
  obtain ⟨v1, hrun, hv1⟩ := run_fromB hv (i := at_) (k := .i64) (by omega) (by omega)
  have HRUN := Lib.hid hrun
  have hi := indexByte_any _ 0 v1 w (by rw [List.length_drop]; omega) hv1
  rw [indexByte_upto0] at hi
  clear hrun
  cases hs : upto0 (l.drop at_.toNat) with
  | none =>
    rw [hs] at htx hi
    have HR := Lib.hid htx
    have HI := Lib.hid hi
    clear htx hi hs
    go_enter Try.func49, Try.ntmps49
    go_wp2_with (first
      | (with_reducible show wpList _ _ _ (⟨some 17, _, _, _, _, _⟩ :: _) _ _; go_must (refine wpList_val rfl (exec_sliceFrom HRUN.out rfl rfl) ?_))
      | (go_at_call 55; go_must (refine HI.out.mono ?_; rintro e w' ⟨rfl, rfl⟩)))
    go_ret2
    exact ⟨by rw [HR.out]; rfl, rfl⟩
  | some g =>
    obtain ⟨hg2, hg3⟩ := upto0_prefix _ _ hs
    rw [List.length_drop] at hg3
    have HG := Lib.hid hg2
    rw [hs] at htx hi
    simp only at htx hi
    have HI := Lib.hid hi
    have HR := Lib.hid htx
    clear htx hi hs hg2
    obtain ⟨v2, hrun2, hv2⟩ := run_sliceB hv (i := at_) (j := at_ + g.length) (k := .i64) (k' := .i64) (by omega) (by omega) (by omega)
    have HRUN2 := Lib.hid hrun2
    rw [show (at_ + (g.length : Int) - at_).toNat = g.length by omega, ← HG.out] at hv2
    have hstr := run_str hv2
    clear hrun2
    go_enter Try.func49, Try.ntmps49
    go_wp2_with (first
      | (with_reducible show wpList _ _ _ (⟨some 17, _, _, _, _, _⟩ :: _) _ _; go_must (refine wpList_val rfl (exec_sliceFrom HRUN.out rfl rfl) ?_))
      | (go_at_call 55; go_must (refine HI.out.mono ?_; rintro e w' ⟨rfl, rfl⟩))
      | (with_reducible show wpList _ _ _ (⟨some 26, _, _, _, _, _⟩ :: _) _ _; go_must (refine wpList_val rfl (exec_slice2 HRUN2.out rfl rfl rfl) ?_)))
    go_ret2
    exact ⟨by rw [HR.out]; rfl, rfl⟩
end Go.Proofs.Ytmpmkjlkhlagfaa
namespace Go.Proofs
open Go.Shelf
def Try.lays219_ren : Go.Shelf.Ren := ⟨fun | 219 => 52 | 217 => 57 | 225 => 58 | 224 => 59 | 267 => 60 | 266 => 63 | 314 => 64 | n => n, fun | 9 => 9 | 3 => 3 | 4 => 4 | 5 => 5 | 46 => 81 | 146 => 103 | 51 => 102 | n => n, fun | 1 => 0 | n => n⟩
def Try.lays144_ren : Go.Shelf.Ren := ⟨fun | 144 => 32 | 143 => 46 | 219 => 52 | 217 => 57 | 225 => 58 | 224 => 59 | 267 => 60 | 266 => 63 | 314 => 64 | n => n, fun | 9 => 9 | 4 => 4 | 3 => 3 | 5 => 5 | 46 => 81 | 146 => 103 | 51 => 102 | n => n, fun | 1 => 0 | n => n⟩
theorem Try.lays144 : Go.Proofs.Lays.n144 Try.prog Try.lays144_ren := {
  mixed := by kernel_rfl
  f143 := Try.func46.trans (congrArg some (by kernel_rfl))
  f144 := Try.func32.trans (congrArg some (by kernel_rfl))
  f217 := Try.func57.trans (congrArg some (by kernel_rfl))
  f219 := Try.func52.trans (congrArg some (by kernel_rfl))
  f224 := Try.func59.trans (congrArg some (by kernel_rfl))
  f225 := Try.func58.trans (congrArg some (by kernel_rfl))
  f266 := Try.func63.trans (congrArg some (by kernel_rfl))
  f267 := Try.func60.trans (congrArg some (by kernel_rfl))
  f314 := Try.func64.trans (congrArg some (by kernel_rfl))
  t3 := Try.underlying3
  a3 := Try.isAgg3
  z3 := Try.sizeOf3
  v3 := Try.zeroValue3
  t4 := Try.underlying4
  a4 := Try.isAgg4
  z4 := Try.sizeOf4
  v4 := Try.zeroValue4
  t5 := Try.underlying5
  a5 := Try.isAgg5
  z5 := Try.sizeOf5
  v5 := Try.zeroValue5
  t9 := Try.underlying9
  a9 := Try.isAgg9
  z9 := Try.sizeOf9
  v9 := Try.zeroValue9
  t46 := Try.underlying81
  a46 := Try.isAgg81
  z46 := Try.sizeOf81
  v46 := Try.zeroValue81
  t51 := Try.underlying102
  a51 := Try.isAgg102
  z51 := Try.sizeOf102
  v51 := Try.zeroValue102
  t146 := Try.underlying103
  a146 := Try.isAgg103
  z146 := Try.sizeOf103
  v146 := Try.zeroValue103
  g1 := by kernel_rfl }
open Go.RowKit Go.Lib in
/-- strings.Contains: "Contains reports whether substr is within s.": AT A substr OF ONE BYTE c: IT RETURNS 'decide (0 ≤ Lib.indexByte s c)'; the world is as it was. (LAID: no walk: one application.) -/
theorem Try.strings_Contains_one (s : ByteArray) (c : UInt8) (w : World) :
    Calls Try.prog 32 #[.string s, .string ⟨#[c]⟩] w fun e w' => e = .returned (.bool (decide (0 ≤ Lib.indexByte s.data.toList c))) ∧ w' = w := Any.strings_Contains_one Try.lays144 s c w
end Go.Proofs
namespace Go.Proofs.Ytmpmkjlkhlagfaa
open Go.RowKit Go.Fd
/-- May it be a name? -/
def mayS (s : List UInt8) : Bool := decide (s.length ≤ 128) && !decide (0 ∈ s)
theorem contains0 (s : List UInt8) (w : World) : Calls Try.prog 32 #[S s, .string ⟨#[0]⟩] w fun e w' => e = .returned (.bool (decide (0 ∈ s))) ∧ w = w' := by
  refine (Try.strings_Contains_one ⟨s.toArray⟩ 0 w).mono fun e w' ⟨he, hw⟩ => ⟨?_, hw.symm⟩
  rw [he]
  simp only [← Lib.contains_iff_indexByte, List.contains_eq_mem]
theorem ref3May_any (s : List UInt8) (w : World) (hs : s.length ≤ 9223372036854775807) : Calls Try.prog 37 #[S s] w fun e w' => e = .returned (.bool (mayS s)) ∧ w = w' := by
  go_enter Try.func37, Try.ntmps37
  go_wp2
  go_loop [3] (fun i => ∃ k : Nat, i = .int .i64 k ∧ k ≤ s.length ∧ Hid (0 ∉ s.take k)) (fun i => s.length - (intOf i).toNat)
  case atStart => exact ⟨0, rfl, Nat.zero_le _, by simp [Hid]⟩
  case round =>
    obtain ⟨k, rfl, hk, HK⟩ := hrel
    by_cases hlt : k < s.length
    · have hb : ∀ h, (⟨s.toArray⟩ : ByteArray)[k]'h = s[k] := fun _ => rfl
      have HB := Lib.hid hb
      clear hb
      go_wp2
      · rename_i hz _
        have h0 : s[k] = 0 := by
          have h1 := hz
          rw [HB.out] at h1
          exact UInt8.toNat_inj.1 (by simpa using h1)
        have HR := Lib.hid (show mayS s = false by unfold mayS; rw [decide_eq_true (show (0 : UInt8) ∈ s by rw [← h0]; exact List.getElem_mem hlt)]; simp)
        go_ret
        exact ⟨by rw [HR.out]; rfl, rfl⟩
      · rename_i hz
        have h0 : s[k] ≠ 0 := by
          intro e
          have h1 := hz
          rw [HB.out, e] at h1
          simp at h1
        go_round
        case rel =>
          refine ⟨k + 1, by go_num, by omega, ?_⟩
          show 0 ∉ _
          rw [take_snoc' s k s[k] (List.getElem?_eq_getElem hlt)]
          intro hm
          rcases List.mem_append.1 hm with hm | hm
          · exact HK.out hm
          · simp at hm; exact h0 hm.symm
        case measure => simp [intOf] <;> omega
    · obtain rfl : k = s.length := by omega
      have HR := Lib.hid (show mayS s = decide (s.length ≤ 128) by
        have := HK.out
        rw [List.take_length] at this
        unfold mayS
        rw [decide_eq_false this]; simp)
      go_wp2
      go_ret
      refine ⟨by rw [HR.out]; exact ret1 (bool_eq (by simp; omega)), rfl⟩
end Go.Proofs.Ytmpmkjlkhlagfaa
namespace Go.Proofs.Ytmpmkjlkhlagfaa
open Go.RowKit Go.Fd
abbrev I64 (n : Nat) : Value := .int .i64 (n : Int)
theorem TI : SliceT Try.prog 27 3 1 8 := SliceT.mk' (z := .int .i64 0) (by kernel_rfl) (by kernel_rfl) rfl (by omega)
end Go.Proofs.Ytmpmkjlkhlagfaa
namespace Go.Proofs.Ytmpmkjlkhlagfaa
open Go.RowKit Go.Fd
theorem below_drewN {B : Nat} {a w : World} (h : Below B a w) (n : Nat) : Below B a (w.drewN n) := ⟨h.os, h.tape, h.output, h.size, h.block⟩
end Go.Proofs.Ytmpmkjlkhlagfaa
namespace Go.Proofs.Ytmpmkjlkhlagfaa
open Go.RowKit Go.Fd
/-- New bytes of the call's own, whose spare places may be written. -/
def Fresh (w : World) (base : Nat) (v : Value) (l : List UInt8) : Prop := ∃ b cap, v = .slice (some ⟨b, 0, none⟩) l.length cap ∧ base ≤ b ∧ b < w.heap.size ∧ l.length ≤ cap ∧
  (∀ i, i < l.length → w.cell? ⟨b, i, none⟩ = some (.int .u8 (l[i]?.getD 0).toNat)) ∧ (∀ j, j < cap → (w.cell? ⟨b, j, none⟩).isSome = true ∧ w.frozen? ⟨b, j, none⟩ = false)
theorem fresh_conv (w : World) (s : List UInt8) : Fresh (Lib.bytesWorld w 5 ⟨s.toArray⟩) w.heap.size (.slice (some ⟨w.heap.size, 0, none⟩) s.length (grownCap w s.length 0 5)) s ∧ Below w.heap.size w (Lib.bytesWorld w 5 ⟨s.toArray⟩) := by
  have hsz : (⟨s.toArray⟩ : ByteArray).size = s.length := by simp [ByteArray.size]
  have hge := grownCap_ge w s.length 0 5
  have hcs : (Lib.bytesCells w 5 ⟨s.toArray⟩).size = grownCap w s.length 0 5 := by
    unfold Lib.bytesCells
    rw [hsz]
    simp
    omega
  refine ⟨⟨w.heap.size, _, rfl, Nat.le_refl _, by rw [Lib.bytesWorld_size]; omega, hge, fun i hi => ?_, fun j hj => ?_⟩, ⟨?_, ?_, ?_, ?_, ?_⟩⟩
  · rw [Lib.bytesWorld_cell w 5 ⟨s.toArray⟩ i (by rw [hsz]; exact hi)]
    simp [List.getD]
  · constructor
    · simp only [World.cell?, Lib.bytesWorld_at_new]
      rw [Array.getElem?_eq_getElem (by rw [hcs]; exact hj)]
      simp
    · simp only [World.frozen?, Lib.bytesWorld_at_new, hcs]
      simp
      omega
  · rfl
  · rfl
  · rfl
  · rw [Lib.bytesWorld_size]; omega
  · intro k hk; exact Lib.bytesWorld_at_old w _ _ k hk
section
variable {ops : Array Oper} {rest : List Oper} {Q : Exit → Act → World → Prop} {a : Act} {w : World}
/-- '[]byte(s)'. -/
theorem wpList_convS {d : Option Tmp} {ty : TypeId} {pos : String} {aft : Array Edge} {x : Operand} {s : List UInt8} (hx : a.eval x = S s)
    (h : ∀ v' w', Fresh w' w.heap.size v' s → Below w.heap.size w w' → wpList Try.prog ops Q rest (a.put d v') w') :
    wpList Try.prog ops Q (⟨d, .convert 9 26 x, ty, pos, aft, none⟩ :: rest) a w := by
  obtain ⟨h1, h2⟩ := fresh_conv w s
  refine wpList_val rfl ?_ (h _ _ h1 h2)
  have := Lib.run_convert_string_bytes (P := Try.prog) w 9 26 5 ⟨s.toArray⟩ (u := .string) (by kernel_rfl) (by kernel_rfl) (by kernel_rfl)
  rw [show (⟨s.toArray⟩ : ByteArray).size = s.length by simp [ByteArray.size]] at this
  simp [execOp, hx, this, Result.andThen]
end
end Go.Proofs.Ytmpmkjlkhlagfaa
namespace Go.Proofs.Ytmpmkjlkhlagfaa
open Go.RowKit Go.Fd
/-- The name at a place. -/
def atR (tab : List UInt8) (at_ : Int) : List UInt8 × Int :=
  if at_ < 0 ∨ (tab.length : Int) ≤ at_ then ([], 5) else match upto0 (tab.drop at_.toNat) with
    | none => ([], 4)
    | some g => if 128 < g.length then ([], 7) else (g, 0)
theorem _root_.Go.RowKit.Below.drewN {B : Nat} {a w : World} (h : Below B a w) (n : Nat) : Below B a (w.drewN n) := ⟨h.os, h.tape, h.output, h.size, h.block⟩
end Go.Proofs.Ytmpmkjlkhlagfaa
namespace Go.Proofs.Ytmpmkjlkhlagfaa
open Go.RowKit Go.Fd
theorem ob_push {w : World} {base g k cap : Nat} {r : List UInt8} (hk : k = r.length) (c : UInt8) (h : w.ownsRow base 5 1 (.slice (some ⟨g, 0, none⟩) (k + 1) cap) (k + 1) (r.map B ++ [B c])) : OB w base (.slice (some ⟨g, 0, none⟩) (k + 1) cap) (r ++ [c]) := by
  subst hk
  unfold OB
  simpa using h
set_option maxHeartbeats 1000000 in
set_option maxRecDepth 100000 in
theorem spoil_any (l : List UInt8) (base : Nat) (v : Value) (w : World) (hl : l.length ≤ 1000000000) (hv : OB w base v l) :
    Calls Try.prog 13 #[v] w fun e w' => e = .returned (.tuple #[]) ∧ w.grownBy w' v.ownBlock := by
  obtain ⟨m, a, cap, hm, rfl, hmc, hnil⟩ := hv.shape
  cases a with
  | none =>
    obtain rfl := hnil rfl
    obtain rfl : m = 0 := by omega
    go_enter Try.func13, Try.ntmps13
    go_wp2
    refine wp_loop_rounds 1 ?_
    rw [rounds_succ]
    go_wp2
    refine wp_loop_rounds 1 ?_
    rw [rounds_succ]
    go_wp2
    go_end0
    exact ⟨rfl, World.grownBy.refl _ _⟩
  | some ad =>
    have hown := hv
    obtain ⟨_, h2⟩ := hown
    rcases h2 with ⟨h2, _⟩ | ⟨g, cap', cur, h2, hbg, hgw, hnc, hcm, _, _⟩
    · cases h2
    simp only [Value.slice.injEq, Option.some.injEq] at h2
    obtain ⟨rfl, rfl, rfl⟩ := h2
    unfold maxLen at hcm
    clear hm
    by_cases hmin : cap ≤ l.length + 2000
    all_goals
      go_enter Try.func13, Try.ntmps13
      go_wp2
      go_loopw [0] (fun v wr => ∃ (k : Nat) (r : List UInt8), v = .slice (some ⟨g, 0, none⟩) k cap ∧ k ≤ cap ∧ Hid (k = r.length) ∧ k ≤ 2000 + l.length ∧ OB wr base (.slice (some ⟨g, 0, none⟩) k cap) r ∧ w.grownBy wr (some g)) (fun v _ => cap - lenV v)
      case atStart => exact ⟨l.length, l, rfl, hmc, rfl, by omega, hv, World.grownBy.refl _ _⟩
      case round =>
        obtain ⟨k, r, rfl, hk, HK, hk2, hown, hg⟩ := hrel
        have HO := Lib.hid (show wr.ownsRow base 5 1 (.slice (some ⟨g, 0, none⟩) k cap) k (r.map B) by have := hown; unfold OB at this; rw [← HK.out] at this; exact this)
        have HOB := Lib.hid hown
        clear hown
        by_cases hlt : k < cap ∧ k < l.length + 2000
        · obtain ⟨hlt1, hlt2⟩ := hlt
          go_wp2_with (at_builtin; go_must (refine wpList_pushFits TB HO.out rfl rfl rfl rfl hlt1 ?_; intro w1 hw1 hg1))
          go_roundw
          case rel => exact ⟨k + 1, r ++ [0], rfl, by omega, by have := HK.out; show _ = _; simp; omega, by omega, ob_push HK.out 0 hw1, grownBy_trans hg hg1⟩
          case measure => simp [lenV] <;> omega
        · have HLT := Lib.hid hlt
          have hge : cap ≤ k ∨ l.length + 2000 ≤ k := by omega
          clear hlt
          have HGE := Lib.hid hge
          first
            | (have hx : cap ≤ k := by omega)
            | (have hx : l.length + 2000 ≤ k := by omega)
          clear hge
          go_wp2
          go_loopw [3] (fun i wr => ∃ (i' : Nat) (r : List UInt8), i = .int .i64 i' ∧ i' ≤ k ∧ Hid (k = r.length) ∧ OB wr base (.slice (some ⟨g, 0, none⟩) k cap) r ∧ w.grownBy wr (some g)) (fun i _ => k - (intOf i).toNat)
          case atStart => exact ⟨0, r, rfl, Nat.zero_le _, HK, HOB.out, hg⟩
          case round =>
            obtain ⟨i, r2, rfl, hi, HK2, hown2, hg2⟩ := hrel
            by_cases hlt2 : i < k
            · have hr2 := HK2.out
              obtain ⟨g', cap', e1, _, _, _, hcell, hfz⟩ := hown2.open (by omega)
              simp only [Value.slice.injEq, Option.some.injEq, Addr.mk.injEq, and_true] at e1
              obtain ⟨rfl, _, rfl⟩ := e1
              have hci := hcell i (by omega)
              have hfi := hfz i
              have HO2 := Lib.hid hown2
              clear hcell hfz hown2 hr2
              go_wp2
              go_roundw
              case rel => exact ⟨i + 1, r2.set i 0xee, by go_num, by omega, by show _ = _; rw [List.length_set]; exact HK2.out, by have := HO2.out; rw [HK2.out] at this ⊢; exact this.stored i 0xee, grownBy_trans hg2 (grownBy_setCell _ _ _ _)⟩
              case measure => simp [intOf] <;> omega
            · go_wp2
              go_end0
              exact ⟨rfl, hg2⟩
end Go.Proofs.Ytmpmkjlkhlagfaa
namespace Go.Proofs.Ytmpmkjlkhlagfaa
open Go.RowKit Go.Fd
theorem take_step {α : Type} {l m : List α} {k : Nat} {x y : α} (hx : l[k]? = some x) (hy : m[k]? = some y) (h : l.take k = m.take k) (e : x = y) : l.take (k + 1) = m.take (k + 1) := by
  subst e
  rw [List.take_add_one, List.take_add_one, hx, hy, h]
set_option maxRecDepth 100000 in
theorem ints_any (l m : List Nat) (v u : Value) (w : World) (hl : l.length ≤ 1000000000) (hm : m.length ≤ 1000000000) (hv : Rd I64 w v l) (hu : Rd I64 w u m) :
    Calls Try.prog 12 #[v, u] w fun e w' => e = .returned (.bool (decide (l = m))) ∧ Below w.heap.size w w' := by
  obtain ⟨a, ca, rfl, hca, hna, hc⟩ := hv.open 0
  obtain ⟨b, cb, rfl, hcb, hnb, hd⟩ := hu.open 0
  have HC := Lib.hid hc
  have HD := Lib.hid hd
  clear hc hd hna hnb hv hu
  obtain ⟨nl, hnl⟩ : ∃ n, n = l.length := ⟨_, rfl⟩
  obtain ⟨nm, hnm⟩ : ∃ n, n = m.length := ⟨_, rfl⟩
  rw [← hnl] at hl hca HC ⊢
  rw [← hnm] at hm hcb HD ⊢
  have HL := Lib.hid hnl
  have HM := Lib.hid hnm
  clear hnl hnm
  by_cases hlen : nl = nm
  · subst hlen
    go_enter Try.func12, Try.ntmps12
    go_wp2
    go_loopw [5] (fun i wr => ∃ k : Nat, i = .int .i64 k ∧ k ≤ nl ∧ Hid (l.take k = m.take k) ∧ Hid (Below w.heap.size w wr)) (fun i _ => nl - (intOf i).toNat)
    case atStart => exact ⟨0, rfl, Nat.zero_le _, by simp [Hid], Below.refl _ _⟩
    case round =>
      obtain ⟨k, rfl, hk, HT, HB⟩ := hrel
      by_cases hlt : k < nl
      · obtain ⟨b1, o1, ha, hc1⟩ := HC.out k hlt
        obtain ⟨b2, o2, hb, hc2⟩ := HD.out k hlt
        subst ha hb
        have hd1 := (HB.out.cell (block_lt hc1)).trans hc1
        have hd2 := (HB.out.cell (block_lt hc2)).trans hc2
        have X1 := Lib.hid (show l[k]? = some (l[k]?.getD 0) by rw [List.getElem?_eq_getElem (by have := HL.out; omega)]; rfl)
        have X2 := Lib.hid (show m[k]? = some (m[k]?.getD 0) by rw [List.getElem?_eq_getElem (by have := HM.out; omega)]; rfl)
        clear hc1 hc2
        generalize l[k]?.getD 0 = x at *
        generalize m[k]?.getD 0 = y at *
        by_cases hxy : x = y
        · have hz : (((x : Int) != (y : Int)) : Bool) = false := by simp [hxy]
          have HN := Lib.hid (take_step X1.out X2.out HT.out hxy)
          clear hxy
          go_wp2
          go_quiet (fail)
          go_wp2
          go_roundw
          case rel =>
            first
              | exact ⟨k + 1, by go_num, by omega, HN.out, HB.out.drewN _⟩
              | ((repeat apply Exists.intro); exact ⟨⟨k + 1, by go_num, by omega, HN.out, HB.out.drewN _⟩, rfl⟩)
          case measure => simp [intOf] <;> omega
        · have hz : (((x : Int) != (y : Int)) : Bool) = true := by simpa using fun e => hxy (by omega)
          have HN := Lib.hid (show decide (l = m) = false by
            rw [decide_eq_false_iff_not]
            intro e
            subst e
            have h1 := X1.out
            rw [X2.out] at h1
            exact hxy (Option.some.inj h1).symm)
          clear hxy
          go_wp2
          go_quiet (fail)
          go_wp2
          go_ret
          exact ⟨by rw [HN.out]; rfl, HB.out.drewN _⟩
      · have HN := Lib.hid (show decide (l = m) = true by
          rw [decide_eq_true_iff]
          have e : k = nl := by omega
          have := HT.out
          rw [e, List.take_of_length_le (by have := HL.out; omega), List.take_of_length_le (by have := HM.out; omega)] at this
          exact this)
        go_wp2
        go_ret
        exact ⟨by rw [HN.out]; rfl, HB.out⟩
  · have HN := Lib.hid (show decide (l = m) = false by
      rw [decide_eq_false_iff_not]
      intro e
      subst e
      exact hlen (HL.out.trans HM.out.symm))
    go_enter Try.func12, Try.ntmps12
    go_wp2
    go_ret
    exact ⟨by rw [HN.out]; rfl, Below.refl _ _⟩
end Go.Proofs.Ytmpmkjlkhlagfaa
namespace Go.Proofs.Ytmpmkjlkhlagfaa
open Go.RowKit Go.Fd
theorem ow_ints {e : TypeId} {w : World} {base : Nat} {v : Value} {l : List Nat} (h : Ow I64 e w base v l) : Ow (Value.int .i64) e w base v (l.map fun n : Nat => (n : Int)) := by
  have e1 : (l.map fun n : Nat => (n : Int)).map (Value.int .i64) = l.map I64 := by rw [List.map_map]; rfl
  unfold Ow at h ⊢
  rw [e1, List.length_map]
  exact h
theorem ints_same (l : List Nat) (v u : Value) (w : World) (hl : l.length ≤ 1000000000) (hv : Rd I64 w v l) (hu : Rd I64 w u l) :
    Calls Try.prog 12 #[v, u] w fun e w' => e = .returned (.bool true) ∧ Below w.heap.size w w' := by
  have h := ints_any l l v u w hl hl hv hu
  rwa [show decide (l = l) = true by simp] at h
end Go.Proofs.Ytmpmkjlkhlagfaa
namespace Go.Fd
section
variable {P : Program} {ops : Array Oper} {C : World → Prop}
theorem wpQuiet_run {Q : Act → Prop} {a : Act} {o : Oper} {rest : List Oper} {v : Value} (hg : o.guard = none) (hr : ∀ w, C w → (execOp a.eval o).run P w = .ok (.value v) w)
    (h : wpQuiet P ops C Q rest (a.put o.dst v)) : wpQuiet P ops C Q (o :: rest) a := by
  unfold wpQuiet
  rw [if_pos (by simp [Region.wanted, hg])]
  refine ⟨v, fun w hw => ?_, h⟩
  unfold Oper.quietAt
  rw [hr w hw]
  exact ⟨rfl, rfl⟩
end
/-- Fields of one cell each, compared: a result each. -/
def eqT (P : Program) (d : Nat) (xs ys : Array Value) (w : World) : List (String × TypeId × Nat) → List Bool → Prop
  | [], [] => True
  | (n, t, o) :: ts, r :: rs => n ≠ "_" ∧ (isAgg t).run P w = .ok false w ∧ (∃ a b, xs[o]? = some a ∧ ys[o]? = some b ∧ (Op.equalIn d t a b).run P w = .ok r w) ∧ eqT P d xs ys w ts rs
  | _, _ => False
theorem run_part1 {P : Program} {w : World} {t : TypeId} {xs : Array Value} {o : Nat} {a : Value} (h : (isAgg t).run P w = .ok false w) (ha : xs[o]? = some a) : (part t xs o).run P w = .ok a w := by
  unfold part
  rw [Sem.run_bind, h, Result.andThen_ok, if_neg (by decide), ha]
  rfl
theorem run_eqFields_flat {P : Program} {d : Nat} {xs ys : Array Value} {w : World} : ∀ (fs : List Field) (ts : List (String × TypeId × Nat)) (rs : List Bool), fs.map (fun f => (f.name, f.type, f.offset)) = ts → eqT P d xs ys w ts rs →
    (Op.eqFields d xs ys fs).run P w = .ok (rs.all id) w := by
  intro fs
  induction fs with
  | nil =>
    rintro ts rs rfl h
    cases rs with
    | nil => rfl
    | cons r rs => exact h.elim
  | cons f fs ih =>
    rintro ts rs rfl h
    cases rs with
    | nil => exact h.elim
    | cons r rs =>
      obtain ⟨hn, hg, ⟨a, b, ha, hb, hr⟩, h⟩ := h
      unfold Op.eqFields
      rw [if_pos hn]
      simp only [Sem.run_bind, run_part1 hg ha, run_part1 hg hb, hr, Result.andThen_ok, Sem.run_ite, List.all_cons, id]
      cases r with
      | false => simp
      | true =>
        simp only [Bool.not_true, Bool.false_eq_true, if_false, Bool.true_and]
        exact ih _ rs rfl h
end Go.Fd
namespace Go.Proofs.Ytmpmkjlkhlagfaa
open Go.RowKit Go.Fd
end Go.Proofs.Ytmpmkjlkhlagfaa
namespace Go.Proofs.Ytmpmkjlkhlagfaa
open Go.RowKit Go.Fd
def fixed : Nat → Nat → List UInt8
  | _, 0 => []
  | n, k + 1 => UInt8.ofNat n :: fixed (n / 256) k
theorem length_fixed (n s : Nat) : (fixed n s).length = s := by
  induction s generalizing n with
  | zero => rfl
  | succ s ih => simp [fixed, ih]
theorem fixed_snoc (n s : Nat) : fixed n (s + 1) = fixed n s ++ [UInt8.ofNat (n / 256 ^ s)] := by
  induction s generalizing n with
  | zero => simp [fixed]
  | succ s ih => rw [fixed, ih (n / 256), fixed, List.cons_append, Nat.div_div_eq_div_mul]; congr 4; rw [Nat.pow_succ, Nat.mul_comm]
theorem fixed_any (n : Nat) (s : Nat) (w : World) (hn : n < 18446744073709551616) (hs : s ≤ 8) :
    Calls Try.prog 25 #[.int .u64 n, .int .i64 s] w fun e w' =>
      ∃ v, e = .returned v ∧ OB w' w.heap.size v (fixed n s) ∧ Below w.heap.size w w' := by
  go_enter Try.func25, Try.ntmps25
  go_wp2
  go_loopw [0, 5, 6] (fun m v i wr => ∃ k : Nat, k ≤ s ∧ i = .int .i64 k ∧ m = .int .u64 ((n / 256 ^ k : Nat)) ∧ OB wr w.heap.size v (fixed n k) ∧ Below w.heap.size w wr) (fun _ _ i _ => s - (intOf i).toNat)
  case atStart => exact ⟨0, Nat.zero_le _, rfl, by simp, OB.nil _ _, Below.refl _ _⟩
  case round =>
    obtain ⟨k, hk, rfl, rfl, hown, hb⟩ := hrel
    have hm : n / 256 ^ k < 18446744073709551616 := Nat.lt_of_le_of_lt (Nat.div_le_self _ _) hn
    have HF := Lib.hid (fixed_snoc n k)
    have HP := Lib.hid (show n / 256 ^ k / 256 = n / 256 ^ (k + 1) by rw [Nat.div_div_eq_div_mul, Nat.pow_succ])
    have hL := length_fixed n k
    have HL := Lib.hid hL
    clear hL
    generalize n / 256 ^ k = m at *
    by_cases hlt : k < s
    · go_wp2_with (at_builtin; refine wpList_pushB hown rfl rfl (UInt8.ofNat m) (by rw [u8_of]; omega) (by rw [HL.out]; omega) hb.size ?_; intro v1 w1 hown1 _ hb1)
      go_roundw
      case rel => exact ⟨k + 1, by omega, by go_num, by rw [← HP.out]; go_num, by rw [HF.out]; exact hown1, hb.trans hb1⟩
      case measure => simp [intOf] <;> omega
    · obtain rfl : k = s := by omega
      go_wp2
      go_ret
      exact ⟨_, rfl, hown, hb⟩
theorem fixed_int (n : Nat) (s : Int) (w : World) (hn : n < 18446744073709551616) (h0 : 0 ≤ s) (hs : s ≤ 8) :
    Calls Try.prog 25 #[.int .u64 n, .int .i64 s] w fun e w' =>
      ∃ v, e = .returned v ∧ OB w' w.heap.size v (fixed n s.toNat) ∧ Below w.heap.size w w' := by
  obtain ⟨k, rfl⟩ := Int.eq_ofNat_of_zero_le h0
  rw [Int.toNat_natCast]
  exact fixed_any n k w hn (by omega)
end Go.Proofs.Ytmpmkjlkhlagfaa
namespace Go.Proofs.Ytmpmkjlkhlagfaa
open Go.RowKit Go.Fd
def numLE : List UInt8 → Nat
  | [] => 0
  | c :: r => c.toNat + 256 * numLE r
theorem numLE_lt (l : List UInt8) : numLE l < 256 ^ l.length := by
  induction l with
  | nil => simp [numLE]
  | cons c r ih =>
    have := c.toNat_lt
    rw [numLE, List.length_cons, Nat.pow_succ]
    omega
theorem numLE_drop (l : List UInt8) (k : Nat) (h : k < l.length) : numLE (l.drop k) = (l[k]?.getD 0).toNat + 256 * numLE (l.drop (k + 1)) := by
  rw [List.drop_eq_getElem_cons h, numLE, List.getElem?_eq_getElem h]; rfl
theorem numLE_lt' (l : List UInt8) (m : Nat) (h : l.length ≤ m) : numLE l < 256 ^ m := Nat.lt_of_lt_of_le (numLE_lt l) (Nat.pow_le_pow_right (by omega) h)
theorem or_byte (n : Nat) (c : UInt8) (hn : n < 72057594037927936) : bits .or .u64 ((n : Int) * 256) (c.toNat : Int) = ((c.toNat + 256 * n : Nat) : Int) := by
  have hc := c.toNat_lt
  rw [show (n : Int) * 256 = ((n * 256 : Nat) : Int) by omega, u64_or_nat _ _ (by omega) (by omega), nat_join 8 _ _ (by omega) (by omega)]
  congr 1; omega
end Go.Proofs.Ytmpmkjlkhlagfaa
namespace Go.Proofs.Ytmpmkjlkhlagfaa
open Go.RowKit Go.Fd
/-- May a number have so many bytes? -/
def Sized (n : Int) : Prop := n = 1 ∨ n = 2 ∨ n = 4 ∨ n = 8
instance (n : Int) : Decidable (Sized n) := by unfold Sized; infer_instance
theorem octSized_yes (n : Int) (w : World) (h : Sized n) : Calls Try.prog 53 #[.int .i64 n] w fun e w' => e = .returned (.bool true) ∧ w = w' := by
  rcases h with rfl | rfl | rfl | rfl
  all_goals
    go_enter Try.func53, Try.ntmps53
    go_wp2
    go_ret
    exact ⟨rfl, rfl⟩
theorem octSized_no (n : Int) (w : World) (h : ¬ Sized n) : Calls Try.prog 53 #[.int .i64 n] w fun e w' => e = .returned (.bool false) ∧ w = w' := by
  unfold Sized at h
  have h1 : (n == 1) = false := beq_eq_false_iff_ne.2 (by omega)
  have h2 : (n == 2) = false := beq_eq_false_iff_ne.2 (by omega)
  have h3 : (n == 4) = false := beq_eq_false_iff_ne.2 (by omega)
  have h4 : (n == 8) = false := beq_eq_false_iff_ne.2 (by omega)
  clear h
  go_enter Try.func53, Try.ntmps53
  go_wp2
  go_ret
  exact ⟨rfl, rfl⟩
theorem sized_bounds {size : Int} (h : Sized size) : 1 ≤ size ∧ size ≤ 8 := by unfold Sized at h; omega
def getR (l : List UInt8) (at_ size : Int) (big : Bool) : Nat × Int :=
  if Sized size then (if at_ < 0 ∨ (l.length : Int) < at_ then (0, 5) else if (l.length : Int) - at_ < size then (0, 2)
    else (numLE (if big then ((l.drop at_.toNat).take size.toNat).reverse else (l.drop at_.toNat).take size.toNat), 0)) else (0, 1)
theorem cut_len (l : List UInt8) (at_ size : Int) (hs : Sized size) : ((l.drop at_.toNat).take size.toNat).length ≤ 8 := by
  rw [List.length_take]; have := sized_bounds hs; omega
def fieldR (l : List UInt8) (at_ size : Int) : List UInt8 × Int :=
  if Sized size then (if at_ < 0 ∨ (l.length : Int) < at_ then ([], 5) else if (l.length : Int) - at_ < size then ([], 2) else ((l.drop at_.toNat).take size.toNat, 0)) else ([], 1)
theorem getR_eq (l : List UInt8) (at_ size : Int) (big : Bool) : getR l at_ size big = (numLE (if big then (fieldR l at_ size).1.reverse else (fieldR l at_ size).1), (fieldR l at_ size).2) := by
  unfold getR fieldR
  split
  · split
    · cases big <;> rfl
    · split
      · cases big <;> rfl
      · rfl
  · cases big <;> rfl
theorem fieldR_len (l : List UInt8) (at_ size : Int) : (fieldR l at_ size).1.length ≤ 8 := by
  unfold fieldR
  split
  · next h =>
    split
    · simp
    · split
      · simp
      · exact cut_len l at_ size h
  · simp
set_option maxRecDepth 100000 in
theorem field_any (l : List UInt8) (at_ size : Int) (v : Value) (w : World) (hl : l.length ≤ 1000000000) (hv : Bs w v l) :
    Calls Try.prog 47 #[v, .int .i64 at_, .int .i64 size] w fun e w' =>
      ∃ v', e = .returned (.tuple #[v', .int .i64 (fieldR l at_ size).2]) ∧ Bs w v' (fieldR l at_ size).1 ∧ w = w' := by
  by_cases hs : Sized size
  · have hb1 := (sized_bounds hs).1
    have hb2 := (sized_bounds hs).2
    obtain ⟨a, cap, rfl, hcap, _, _⟩ := hv.open
    by_cases h1 : at_ < 0
    · have HR := Lib.hid (show fieldR l at_ size = ([], 5) by rw [fieldR, if_pos hs, if_pos (.inl h1)])
      go_enter Try.func47, Try.ntmps47
      go_wp2_with (go_at_call 53; refine (octSized_yes _ _ hs).mono ?_; rintro e w' ⟨rfl, rfl⟩)
      go_ret2
      exact ⟨_, by rw [HR.out]; rfl, by rw [HR.out]; exact Bs.nil _, rfl⟩
    by_cases h2 : (l.length : Int) < at_
    · have HR := Lib.hid (show fieldR l at_ size = ([], 5) by rw [fieldR, if_pos hs, if_pos (.inr h2)])
      go_enter Try.func47, Try.ntmps47
      go_wp2_with (go_at_call 53; refine (octSized_yes _ _ hs).mono ?_; rintro e w' ⟨rfl, rfl⟩)
      go_ret2
      exact ⟨_, by rw [HR.out]; rfl, by rw [HR.out]; exact Bs.nil _, rfl⟩
    by_cases h3 : (l.length : Int) - at_ < size
    · have HR := Lib.hid (show fieldR l at_ size = ([], 2) by rw [fieldR, if_pos hs, if_neg (by omega), if_pos h3])
      go_enter Try.func47, Try.ntmps47
      go_wp2_with (go_at_call 53; refine (octSized_yes _ _ hs).mono ?_; rintro e w' ⟨rfl, rfl⟩)
      go_ret2
      exact ⟨_, by rw [HR.out]; rfl, by rw [HR.out]; exact Bs.nil _, rfl⟩
    have HR := Lib.hid (show fieldR l at_ size = ((l.drop at_.toNat).take size.toNat, 0) by rw [fieldR, if_pos hs, if_neg (by omega), if_neg h3])
    obtain ⟨v', hrun, hv'⟩ := run_sliceB hv (i := at_) (j := at_ + size) (k := .i64) (k' := .i64) (by omega) (by omega) (by omega)
    rw [show at_ + size - at_ = size by omega] at hv'
    have HRUN := Lib.hid hrun
    clear hrun
    go_enter Try.func47, Try.ntmps47
    go_wp2_with (first
      | (go_at_call 53; refine (octSized_yes _ _ hs).mono ?_; rintro e w' ⟨rfl, rfl⟩)
      | (with_reducible show wpList _ _ _ (⟨some 33, _, _, _, _, _⟩ :: _) _ _; go_must (refine wpList_val rfl (exec_slice2 HRUN.out rfl rfl rfl) ?_)))
    go_ret2
    exact ⟨_, by rw [HR.out]; rfl, by rw [HR.out]; exact hv', rfl⟩
  · have HR := Lib.hid (show fieldR l at_ size = ([], 1) by rw [fieldR, if_neg hs])
    go_enter Try.func47, Try.ntmps47
    go_wp2_with (go_at_call 53; refine (octSized_no _ _ hs).mono ?_; rintro e w' ⟨rfl, rfl⟩)
    go_ret2
    exact ⟨_, by rw [HR.out]; rfl, by rw [HR.out]; exact Bs.nil _, rfl⟩
set_option maxRecDepth 100000 in
theorem octU_any (l : List UInt8) (at_ size : Int) (v : Value) (w : World) (hl : l.length ≤ 1000000000) (hv : Bs w v l) :
    Calls Try.prog 40 #[v, .int .i64 at_, .int .i64 size] w fun e w' =>
      e = .returned (.tuple #[.int .u64 (getR l at_ size false).1, .int .i64 (getR l at_ size false).2]) ∧ w = w' := by
  have HW := Lib.hid (field_any l at_ size v w hl hv)
  have HL := Lib.hid (fieldR_len l at_ size)
  have HP := Lib.hid (getR_eq l at_ size false)
  generalize fieldR l at_ size = r at *
  obtain ⟨x, e⟩ := r
  have hx : x.length ≤ 8 := HL.out
  go_enter Try.func40, Try.ntmps40
  go_wp2_with (go_at_call 47; go_must (refine HW.out.mono ?_; rintro e w1 ⟨v1, rfl, hf, rfl⟩; obtain ⟨a, cap, rfl, hcap, _, hc⟩ := hf.open; have HC := Lib.hid hc; clear hc))
  go_loop [10, 11] (fun n i => ∃ k : Nat, k ≤ x.length ∧ i = .int .i64 ((k : Int) - 1) ∧ n = .int .u64 (numLE (x.drop k))) (fun _ i => (intOf i + 1).toNat)
  case atStart => exact ⟨x.length, Nat.le_refl _, rfl, by simp [numLE]⟩
  case round =>
    obtain ⟨k, hk, rfl, rfl⟩ := hrel
    by_cases h : 0 < k
    · obtain ⟨k, rfl⟩ : ∃ j, k = j + 1 := ⟨k - 1, by omega⟩
      obtain ⟨b, off, rfl, hcell⟩ := HC.out k (by omega)
      have hb : numLE (x.drop (k + 1)) < 256 ^ 7 := numLE_lt' _ 7 (by rw [List.length_drop]; omega)
      have HB := Lib.hid (numLE_drop x k (by omega))
      have HO := Lib.hid (or_byte (numLE (x.drop (k + 1))) (x[k]?.getD 0) hb)
      have hb' : (numLE (x.drop (k + 1)) : Int) < 72057594037927936 := by omega
      have hu := (x[k]?.getD 0).toNat_lt
      generalize numLE (x.drop (k + 1)) = m at *
      go_wp2
      go_round
      case rel => exact ⟨k, by omega, by go_num, by rw [HB.out, ← HO.out]⟩
      case measure => simp [intOf] <;> omega
    · obtain rfl : k = 0 := by omega
      go_wp2
      go_ret2
      exact ⟨by rw [HP.out]; rfl, rfl⟩
end Go.Proofs.Ytmpmkjlkhlagfaa
namespace Go.Proofs.Ytmpmkjlkhlagfaa
open Go.RowKit Go.Fd
/-- Blocks of another element's type stay as they are. -/
def Keeps (e0 : TypeId) (w w' : World) : Prop := ∀ (b : Nat) cs e fr, e ≠ e0 → w.heap[b]? = some (.cells cs e fr) → w'.heap[b]? = some (.cells cs e fr)
theorem Keeps.trans {e0 : TypeId} {w w' w'' : World} (h : Keeps e0 w w') (k : Keeps e0 w' w'') : Keeps e0 w w'' := fun b cs e fr he hb => k b cs e fr he (h b cs e fr he hb)
theorem keeps_below {e0 : TypeId} {w w' : World} (h : Below w.heap.size w w') : Keeps e0 w w' := fun b cs e fr _ hb => by rw [h.block b (Array.getElem?_eq_some_iff.1 hb).1]; exact hb
theorem keeps_own {e0 size n base : Nat} {w w' : World} {v : Value} {xs : List Value} (h : w.ownsRow base e0 size v n xs) (hg : w.grownBy w' v.ownBlock) : Keeps e0 w w' := fun b cs e fr he hb => by
  rw [hg.block b (Array.getElem?_eq_some_iff.1 hb).1 (fun hr => ?_)]
  · exact hb
  rcases h.2 with ⟨rfl, -⟩ | ⟨g, cap, cur, rfl, -, hh, -⟩
  · simp [Value.ownBlock] at hr
  · simp only [Value.ownBlock, Option.some.injEq] at hr
    subst hr
    rw [hb] at hh
    cases hh
    exact he rfl
theorem shr_byte (n k : Nat) : (n : Int) / 2 ^ (8 * k) % 256 = ((UInt8.ofNat (n / 256 ^ k)).toNat : Int) := by
  have h : n / 256 ^ k = n / 2 ^ (8 * k) := by rw [Nat.pow_mul]
  rw [u8_of, h, Int.natCast_emod, Int.natCast_ediv, Int.natCast_pow]
  rfl
end Go.Proofs.Ytmpmkjlkhlagfaa
namespace Go.Fd
open Go.RowKit
section
variable {P : Program} {ops : Array Oper} {rest : List Oper} {Q : Exit → Act → World → Prop} {a : Act} {w : World}
/-- A whole record into the block that was made last. -/
theorem wpList_storeNew {d : Option Tmp} {ty t : TypeId} {pos : String} {aft : Array Edge} {p x : Operand} {c c' : Array Value} (hp : a.eval p = .pointer (some ⟨w.heap.size, 0, none⟩)) (hx : a.eval x = .agg c')
    (hi : (P.info? t).map (·.size) = some c'.size) (ho : c.size = c'.size) (h1 : c'.all (·.oneCell') = true)
    (h : ∀ w1, w1.heap[w.heap.size]? = some (.cells c' t (0, 0)) → Below w.heap.size w w1 → wpList P ops Q rest (a.put d undef) w1) :
    wpList P ops Q (⟨d, .store t p x, ty, pos, aft, none⟩ :: rest) a (w.alloc (.cells c t)) := by
  refine wpList_did rfl ?_ (h (w.alloc (.cells c' t)) (heap_alloc_last w _) (below_alloc w _))
  simp only [execOp, hp, hx, Sem.run_bind, run_storeAt_new w t c c' hi ho h1, Result.andThen_ok]
  rfl
theorem cell_rec {w : World} {g : Nat} {cs : Array Value} {t : TypeId} {fr : Nat × Nat} (h : w.heap[g]? = some (.cells cs t fr)) (c : Nat) : w.cell? ⟨g, c, none⟩ = cs[c]? := cell_of_row w g c cs t fr h
end
end Go.Fd
namespace Go.Proofs.Ytmpmkjlkhlagfaa
open Go.RowKit Go.Fd
end Go.Proofs.Ytmpmkjlkhlagfaa
namespace Go.Proofs.Ytmpmkjlkhlagfaa
open Go.RowKit Go.Fd
theorem i64_small {n : Nat} (h : n < 4294967296) : IntKind.i64.wrap (n : Int) = (n : Int) := by
  simp [IntKind.wrap, IntKind.bits, IntKind.signed]
  omega
end Go.Proofs.Ytmpmkjlkhlagfaa
namespace Go.Fd
open Go.RowKit
section
variable {P : Program} {l : List Oper} {s : Oper} {V : Nat → Value → World → Prop} {a0 : Act} {w0 : World}
theorem ready_none {listed : Array Bool} {L : List Oper} (h : ∀ i, i < L.length → listed.getD i true = true) : Region.ready .any L.toArray listed = [] := by
  rw [List.eq_nil_iff_forall_not_mem]
  intro i hi
  rw [mem_ready] at hi
  obtain ⟨h1, o, ho, _⟩ := hi
  have := h i (by have := (Array.getElem?_eq_some_iff.1 ho).1; simpa using this)
  rw [h1] at this; cases this
end
section
variable {P : Program} {a : Act} {w : World}
/-- The store of a record into the block that was made. -/
theorem wp_store_made {d : Option Tmp} {ty t : TypeId} {pos : String} {aft : Array Edge} {p x : Operand} {c c' : Array Value} {g : Nat} {K : Act → World → Prop} {Q : Exit → Act → World → Prop} {B : Nat} (hg : w.heap[g]? = some (.cells c t (0, 0))) (hp : a.eval p = .pointer (some ⟨g, 0, none⟩)) (hx : a.eval x = .agg c')
    (hi : (P.info? t).map (·.size) = some c'.size) (ho : c.size = c'.size) (h1 : c'.all (·.oneCell') = true) (hB : B ≤ g) (_hBw : B ≤ w.heap.size)
    (h : ∀ w1, w1.heap[g]? = some (.cells c' t (0, 0)) → Below B w w1 → K (a.put d undef) w1) :
    Oper.wp P ⟨d, .store t p x, ty, pos, aft, none⟩ a w K Q := by
  have hr : (execOp a.eval ⟨d, .store t p x, ty, pos, aft, none⟩).run P w = .ok .skip (w.setRow g c') := by
    simp only [execOp, hp, hx, Instr.storeAt, Instr.sureAddr, Sem.run_bind, Sem.run_pure, Result.andThen, run_storeVar_row w g t t c c' hg hi ho h1]
  unfold Oper.wp Oper.upon
  rw [hr]
  refine h _ ?_ ?_
  · simp only [World.setRow]
    rw [Array.getElem?_modify, if_pos rfl, hg]
    rfl
  · refine ⟨rfl, rfl, rfl, by simp [World.setRow], fun k hk => ?_⟩
    have : g ≠ k := by omega
    simp only [World.setRow]
    rw [Array.getElem?_modify, if_neg this]
end
end Go.Fd
namespace Go.Fd
open Go.RowKit
/-- What an operation that makes memory, or a call, comes to: a value of a shape, and what is known of it. -/
structure Yld where
  X : Type
  inh : X
  shape : X → Value
  rel : X → World → Prop
  st : ∀ x w w', rel x w → Below w.heap.size w w' → rel x w'
def Yld.R (S : Yld) (v : Value) (w : World) : Prop := ∃ x, v = S.shape x ∧ S.rel x w
def madeAt (M : List (Nat × Yld)) (i : Nat) : Option Yld := (M.find? (fun p => p.1 == i)).map (·.2)
/-- Worlds above one. -/
structure Above (w0 : World) where
  w : World
  h : Below w0.heap.size w0 w
instance (w0 : World) : Nonempty (Above w0) := ⟨⟨w0, Below.refl _ _⟩⟩
/-- What is known of the operations that one waits for. -/
def Deps (L : List Oper) (M : List (Nat × Yld)) (a : Act) (o : Oper) (w : World) : Prop :=
  ∀ j oj d S, L[j]? = some oj → oj.dst = some d → depB o j = true → madeAt M j = some S → Region.wanted oj (yielded L.toArray a.tmps) = true → S.R (a.eval (.tmp d)) w
/-- What is known of a way that leaves the region: U is what may go up. -/
def Ups (Up : Exit → Prop) (d : List Deferred) (w : World) (x : Exit) (a : Act) (w' : World) : Prop := Up x ∧ a.defers = d ∧ Below w.heap.size w w'
/-- Nothing goes up. -/
def NoUp : Exit → Prop := fun _ => False
def WpYld (P : Program) (Up : Exit → Prop) (o : Oper) (a : Act) (S : Yld) (w : World) : Prop :=
  o.wp P a w (fun a' w' => ∃ v, a' = a.put o.dst v ∧ S.R v w' ∧ Below w.heap.size w w') (Ups Up a.defers w)
theorem oper_wp_to {P : Program} {o : Oper} {a : Act} {w : World} {K : Act → World → Prop} {Q Q' : Exit → Act → World → Prop} (hq : ∀ x a w, Q x a w → Q' x a w) (h : o.wp P a w K Q) : o.wp P a w K Q' := by
  unfold Oper.wp at *
  generalize (execOp a.eval o).run P w = r at *
  cases r with
  | ok n w' =>
    cases n <;> simp only [Oper.upon] at h ⊢ <;>
      first
        | exact h
        | exact Calls.mono h (fun e w'' he => by
            cases e with
            | returned v => exact he
            | panicked c => exact hq _ _ _ he
            | outgrown => obtain ⟨a0, w0, h0⟩ := (he : LetsOut _); exact ⟨a0, w0, hq _ _ _ h0⟩)
  | halt x w' => cases x <;> simp only [Oper.upon] at h ⊢ <;> first | exact h | exact hq _ _ _ h
def walk (P : Program) (Up : Exit → Prop) (L : List Oper) (M : List (Nat × Yld)) (w0 : World) (E : Act → Prop) : Nat → List Oper → Act → Prop
  | _, [], a => E a
  | i, o :: r, a =>
    if Region.wanted o (yielded L.toArray a.tmps) = true then
      match madeAt M i with
      | some S => (∀ w, Below w0.heap.size w0 w → Deps L M a o w → WpYld P Up o a S w) ∧ ∀ x, walk P Up L M w0 E (i + 1) r (a.put o.dst (S.shape x))
      | none => ∃ v, (∀ w, Below w0.heap.size w0 w → Deps L M a o w → (execOp a.eval o).run P w = .ok (.value v) w) ∧ walk P Up L M w0 E (i + 1) r (a.put o.dst v)
    else walk P Up L M w0 E (i + 1) r (a.put o.dst undef)
/-- The slots that an operation looks at are those of operations that it waits for, or old ones. -/
def readsB (L H : List Oper) : Bool := H.zipIdx.all fun (o, i) =>
  (match o.op with | .select _ _ => false | _ => true) &&
  (o.looksAt L.toArray).all (fun t => oldB H i t || H.zipIdx.any fun (o', j) => o'.dst == some t && depB o j) &&
  (match o.guard with | some (g, _) => depB o g | none => true)
/-- Operation n waits for all ahead of it, and those behind it each for the one ahead. -/
def tailB (L : List Oper) (n : Nat) : Bool :=
  ((List.range n).all fun k => (match L[n]? with | some s => depB s k | none => true) || (L.take n).zipIdx.any fun (o, k') => decide (k < k') && depB o k) &&
  (L.zipIdx.all fun (o, t) => decide (t ≤ n) || depB o (t - 1)) &&
  Region.seqB .any L.toArray (L.length - n) n (List.replicate n true ++ List.replicate (L.length - n) false).toArray
def walkB (L : List Oper) (n sz : Nat) : Bool := decide (n ≤ L.length) && persB (L.take n) sz && readsB L (L.take n) && (decide (n = L.length) || tailB L n)
theorem putAll_congr {u u' : Nat → Value} : ∀ (l : List Oper) (k : Nat) (a : Act), (∀ j, k ≤ j → j < k + l.length → u j = u' j) → putAll u k l a = putAll u' k l a
  | [], _, _, _ => rfl
  | o :: r, k, a, h => by
    rw [putAll, putAll, h k (Nat.le_refl _) (by simp)]
    exact putAll_congr r (k + 1) _ fun j h1 h2 => h j (by omega) (by simp; omega)
theorem putAll_append {u : Nat → Value} : ∀ (l r : List Oper) (k : Nat) (a : Act), putAll u k (l ++ r) a = putAll u (k + l.length) r (putAll u k l a)
  | [], _, _, _ => by simp [putAll]
  | o :: l, r, k, a => by
    rw [List.cons_append, putAll, putAll, putAll_append l r (k + 1)]
    congr 1
    simp; omega
def fr (u : Nat → Value) (H : List Oper) (a0 : Act) (i : Nat) : Act := putAll u 0 (H.take i) a0
theorem fr_succ {u : Nat → Value} {H : List Oper} {a0 : Act} {i : Nat} {o : Oper} (h : H[i]? = some o) : fr u H a0 (i + 1) = (fr u H a0 i).put o.dst (u i) := by
  unfold fr
  obtain ⟨h1, h2⟩ := List.getElem?_eq_some_iff.1 h
  rw [List.take_succ_eq_append_getElem h1, putAll_append, h2, List.length_take, Nat.min_eq_left (by omega), Nat.zero_add]
  rfl
theorem fr_congr {u u' : Nat → Value} {H : List Oper} {a0 : Act} {i : Nat} (h : ∀ j, j < i → u j = u' j) : fr u H a0 i = fr u' H a0 i :=
  putAll_congr _ _ _ fun j _ hj => h j (by simp at hj; omega)
theorem fr_size (u : Nat → Value) (H : List Oper) (a0 : Act) (i : Nat) : (fr u H a0 i).tmps.size = a0.tmps.size := putAll_size _ _ _ _
theorem fr_defers (u : Nat → Value) (H : List Oper) (a0 : Act) (i : Nat) : (fr u H a0 i).defers = a0.defers := putAll_defers _ _ _ _
section
variable {P : Program} {Up : Exit → Prop} {L H : List Oper} {M : List (Nat × Yld)} {a0 : Act} {w0 : World} {E : Act → Prop}
theorem fr_new (hP : persB H a0.tmps.size = true) {u : Nat → Value} {i j : Nat} {o : Oper} {d : Nat} (ho : H[j]? = some o) (hd : o.dst = some d) (hj : j < i) : (fr u H a0 i).eval (.tmp d) = u j := by
  obtain ⟨⟨d', hd', hlt⟩, _, hu⟩ := persB_spec hP ho
  rw [hd] at hd'; cases hd'
  have := putAll_new u d 0 (H.take i) a0 j o (by rw [List.getElem?_take, if_pos hj]; exact ho) hd hlt fun j' o' h1 h2 => by
    by_cases e : j' = j
    · exact e
    · rw [List.getElem?_take] at h1
      split at h1
      · exact absurd (h2.trans hd.symm) (hu j' o' h1 e)
      · cases h1
  rwa [Nat.zero_add] at this
theorem fr_old {u : Nat → Value} {i t : Nat} (h : ∀ j o, j < i → H[j]? = some o → o.dst ≠ some t) : (fr u H a0 i).eval (.tmp t) = a0.eval (.tmp t) := by
  refine putAll_old u t 0 _ _ fun o ho => ?_
  obtain ⟨j, hj⟩ := List.getElem?_of_mem ho
  rw [List.getElem?_take] at hj
  split at hj
  · exact h j o (by assumption) hj
  · cases hj
theorem readsB_spec (hR : readsB L H = true) {i : Nat} {o : Oper} (ho : H[i]? = some o) :
    (∀ cs b, o.op ≠ .select cs b) ∧ (∀ t ∈ o.looksAt L.toArray, oldB H i t = true ∨ ∃ j oj, H[j]? = some oj ∧ oj.dst = some t ∧ depB o j = true) ∧ ∀ g b, o.guard = some (g, b) → depB o g = true := by
  unfold readsB at hR
  rw [List.all_eq_true] at hR
  have := hR (o, i) (by rw [List.mem_zipIdx_iff_getElem?]; exact ho)
  simp only [Bool.and_eq_true] at this
  obtain ⟨⟨h1, h2⟩, h3⟩ := this
  refine ⟨(fun cs b e => by rw [e] at h1; cases h1), fun t ht => ?_, (fun g b hg => by rw [hg] at h3; exact h3)⟩
  have := List.all_eq_true.1 h2 t ht
  rw [Bool.or_eq_true] at this
  rcases this with h | h
  · exact .inl h
  · obtain ⟨⟨oj, j⟩, hm, h⟩ := List.any_eq_true.1 h
    rw [List.mem_zipIdx_iff_getElem?] at hm
    simp only [Bool.and_eq_true, beq_iff_eq] at h
    exact .inr ⟨j, oj, hm, h.1, h.2⟩
theorem dep_lt (hP : persB H a0.tmps.size = true) {i j : Nat} {o : Oper} (ho : H[i]? = some o) (h : depB o j = true) : j < i := by
  obtain ⟨e, he, hon, hb⟩ := depB_of h
  have := (persB_spec hP ho).2.1 e he hb
  omega
theorem old_not (hP : persB H a0.tmps.size = true) {i j t : Nat} {o oj : Oper} (_ : H[i]? = some o) (hj : H[j]? = some oj) (hold : oldB H i t = true) (hji : j < i) : oj.dst ≠ some t := by
  unfold oldB at hold
  rw [List.all_eq_true] at hold
  have := hold (oj, j) (by rw [List.mem_zipIdx_iff_getElem?]; exact hj)
  simp only [Bool.or_eq_true, bne_iff_ne, ne_eq, beq_iff_eq] at this
  rcases this with (h | h) | h
  · exact h
  · omega
  · have := dep_lt hP hj h; omega
/-- What an operation comes to leans on the slots that it looks at alone. -/
theorem same_of_looks {o : Oper} {a b : Act} (hs : ∀ cs c, o.op ≠ .select cs c) (hz : a.tmps.size = b.tmps.size) (h : ∀ t ∈ o.looksAt L.toArray, a.eval (.tmp t) = b.eval (.tmp t)) :
    execOp a.eval o = execOp b.eval o ∧ Region.wanted o (yielded L.toArray a.tmps) = Region.wanted o (yielded L.toArray b.tmps) := by
  constructor
  · refine execOp_congr o hs fun x hx => ?_
    cases x with
    | tmp t => exact h t (List.mem_append_left _ (List.mem_filterMap.2 ⟨.tmp t, by simpa using hx, rfl⟩))
    | const v => rfl
    | global g => rfl
    | func f => rfl
  · unfold Region.wanted
    cases hg : o.guard with
    | none => rfl
    | some gw =>
      obtain ⟨g, want⟩ := gw
      have hy : yielded L.toArray a.tmps g = yielded L.toArray b.tmps g := by
        unfold yielded
        cases ht : ((L.toArray)[g]?).bind (·.dst) with
        | none => rfl
        | some t =>
          have ht' : ((L[g]?).bind fun x => x.dst) = some t := by simpa using ht
          have := h t (by simp [Oper.looksAt, hg, ht'])
          have e : a.tmps[t]? = b.tmps[t]? := by
            by_cases hlt : t < a.tmps.size
            · have hlt' : t < b.tmps.size := Nat.lt_of_lt_of_eq hlt hz
              have h2 : a.tmps.getD t undef = b.tmps.getD t undef := this
              rw [Array.getD_eq_getD_getElem?, Array.getD_eq_getD_getElem?, Array.getElem?_eq_getElem hlt, Array.getElem?_eq_getElem hlt'] at h2
              rw [Array.getElem?_eq_getElem hlt, Array.getElem?_eq_getElem hlt']
              simpa using h2
            · rw [Array.getElem?_eq_none (Nat.not_lt.1 hlt), Array.getElem?_eq_none (Nat.not_lt.1 (hz ▸ hlt))]
          simp only [Option.bind_some, e]
      simp only [hy]
structure PathP (P : Program) (Up : Exit → Prop) (L H : List Oper) (M : List (Nat × Yld)) (a0 : Act) (w0 : World) (E : Act → Prop) (p : (i : Nat) → (S : Yld) → S.X) (u : Nat → Value) : Prop where
  step : ∀ i o, H[i]? = some o →
    if Region.wanted o (yielded L.toArray (fr u H a0 i).tmps) = true then
      match madeAt M i with
      | some S => (∀ w, Below w0.heap.size w0 w → Deps L M (fr u H a0 i) o w → WpYld P Up o (fr u H a0 i) S w) ∧ u i = S.shape (p i S)
      | none => ∀ w, Below w0.heap.size w0 w → Deps L M (fr u H a0 i) o w → (execOp (fr u H a0 i).eval o).run P w = .ok (.value (u i)) w
    else u i = undef
  fin : E (fr u H a0 H.length)
theorem path_aux (p : (i : Nat) → (S : Yld) → S.X) : ∀ (r : List Oper) (k : Nat) (u0 : Nat → Value), H.drop k = r → k ≤ H.length → walk P Up L M w0 E k r (fr u0 H a0 k) →
    ∃ u, (∀ j, j < k → u j = u0 j) ∧ (∀ i o, k ≤ i → H[i]? = some o →
      if Region.wanted o (yielded L.toArray (fr u H a0 i).tmps) = true then
        match madeAt M i with
        | some S => (∀ w, Below w0.heap.size w0 w → Deps L M (fr u H a0 i) o w → WpYld P Up o (fr u H a0 i) S w) ∧ u i = S.shape (p i S)
        | none => ∀ w, Below w0.heap.size w0 w → Deps L M (fr u H a0 i) o w → (execOp (fr u H a0 i).eval o).run P w = .ok (.value (u i)) w
      else u i = undef) ∧ E (fr u H a0 H.length)
  | [], k, u0, hr, hk, h => by
    have : H.length ≤ k := by simpa using hr
    obtain rfl : k = H.length := by omega
    exact ⟨u0, fun _ _ => rfl, fun i o hi ho => by have := (List.getElem?_eq_some_iff.1 ho).1; omega, h⟩
  | o :: r, k, u0, hr, hk, h => by
    have ho : H[k]? = some o := by
      have : (H.drop k)[0]? = some o := by rw [hr]; rfl
      simpa using this
    have hr' : H.drop (k + 1) = r := by
      rw [← List.drop_drop, hr]; rfl
    have hk' : k + 1 ≤ H.length := (List.getElem?_eq_some_iff.1 ho).1
    have key : ∀ v, walk P Up L M w0 E (k + 1) r ((fr u0 H a0 k).put o.dst v) → ∃ u, (∀ j, j < k → u j = u0 j) ∧ u k = v ∧ (∀ i o, k + 1 ≤ i → H[i]? = some o →
      if Region.wanted o (yielded L.toArray (fr u H a0 i).tmps) = true then
        match madeAt M i with
        | some S => (∀ w, Below w0.heap.size w0 w → Deps L M (fr u H a0 i) o w → WpYld P Up o (fr u H a0 i) S w) ∧ u i = S.shape (p i S)
        | none => ∀ w, Below w0.heap.size w0 w → Deps L M (fr u H a0 i) o w → (execOp (fr u H a0 i).eval o).run P w = .ok (.value (u i)) w
      else u i = undef) ∧ E (fr u H a0 H.length) := by
      intro v hv
      have e1 : fr (fun j => if j = k then v else u0 j) H a0 k = fr u0 H a0 k := fr_congr fun j hj => by
        show (if j = k then v else u0 j) = u0 j
        rw [if_neg (by omega)]
      have e2 : fr (fun j => if j = k then v else u0 j) H a0 (k + 1) = (fr u0 H a0 k).put o.dst v := by
        rw [fr_succ ho, e1]
        simp
      obtain ⟨u, h1, h2, h3⟩ := path_aux p r (k + 1) (fun j => if j = k then v else u0 j) hr' hk' (by rw [e2]; exact hv)
      refine ⟨u, fun j hj => ?_, ?_, h2, h3⟩
      · rw [h1 j (by omega), if_neg (by omega)]
      · rw [h1 k (by omega), if_pos rfl]
    have fin : ∀ v, (∃ u, (∀ j, j < k → u j = u0 j) ∧ u k = v ∧ (∀ i o, k + 1 ≤ i → H[i]? = some o →
      if Region.wanted o (yielded L.toArray (fr u H a0 i).tmps) = true then
        match madeAt M i with
        | some S => (∀ w, Below w0.heap.size w0 w → Deps L M (fr u H a0 i) o w → WpYld P Up o (fr u H a0 i) S w) ∧ u i = S.shape (p i S)
        | none => ∀ w, Below w0.heap.size w0 w → Deps L M (fr u H a0 i) o w → (execOp (fr u H a0 i).eval o).run P w = .ok (.value (u i)) w
      else u i = undef) ∧ E (fr u H a0 H.length)) → (if Region.wanted o (yielded L.toArray (fr u0 H a0 k).tmps) = true then
        match madeAt M k with
        | some S => (∀ w, Below w0.heap.size w0 w → Deps L M (fr u0 H a0 k) o w → WpYld P Up o (fr u0 H a0 k) S w) ∧ v = S.shape (p k S)
        | none => ∀ w, Below w0.heap.size w0 w → Deps L M (fr u0 H a0 k) o w → (execOp (fr u0 H a0 k).eval o).run P w = .ok (.value v) w
      else v = undef) → ∃ u, (∀ j, j < k → u j = u0 j) ∧ (∀ i o, k ≤ i → H[i]? = some o →
      if Region.wanted o (yielded L.toArray (fr u H a0 i).tmps) = true then
        match madeAt M i with
        | some S => (∀ w, Below w0.heap.size w0 w → Deps L M (fr u H a0 i) o w → WpYld P Up o (fr u H a0 i) S w) ∧ u i = S.shape (p i S)
        | none => ∀ w, Below w0.heap.size w0 w → Deps L M (fr u H a0 i) o w → (execOp (fr u H a0 i).eval o).run P w = .ok (.value (u i)) w
      else u i = undef) ∧ E (fr u H a0 H.length) := by
      rintro v ⟨u, h1, h2, h3, h4⟩ hstep
      refine ⟨u, h1, fun i o' hi ho' => ?_, h4⟩
      by_cases hik : i = k
      · subst hik
        rw [ho] at ho'
        cases ho'
        rw [fr_congr (u' := u0) h1, h2]
        exact hstep
      · exact h3 i o' (by omega) ho'
    rw [walk] at h
    by_cases hw : Region.wanted o (yielded L.toArray (fr u0 H a0 k).tmps) = true
    · rw [if_pos hw] at h
      cases hM : madeAt M k with
      | some S =>
        simp only [hM] at h
        refine fin (S.shape (p k S)) (key _ (h.2 (p k S))) ?_
        rw [if_pos hw, hM]
        exact ⟨h.1, rfl⟩
      | none =>
        simp only [hM] at h
        obtain ⟨v, h1, h2⟩ := h
        refine fin v (key _ h2) ?_
        rw [if_pos hw, hM]
        exact h1
    · rw [if_neg hw] at h
      refine fin undef (key _ h) ?_
      rw [if_neg hw]
theorem path_exists (p : (i : Nat) → (S : Yld) → S.X) (h : walk P Up L M w0 E 0 H a0) : ∃ u, PathP P Up L H M a0 w0 E p u := by
  obtain ⟨u, _, h2, h3⟩ := path_aux (a0 := a0) p H 0 (fun _ => undef) rfl (Nat.zero_le _) (by unfold fr; rw [List.take_zero]; exact h)
  exact ⟨u, fun i o ho => h2 i o (Nat.zero_le _) ho, h3⟩
/-- The frames of a path at a slot that an operation looks at. -/
theorem looks_fr (hP : persB H a0.tmps.size = true) (hR : readsB L H = true) {i : Nat} {o : Oper} (ho : H[i]? = some o) {t : Nat} (ht : t ∈ o.looksAt L.toArray) :
    (oldB H i t = true ∧ ∀ u, (fr u H a0 i).eval (.tmp t) = a0.eval (.tmp t)) ∨ ∃ j oj, H[j]? = some oj ∧ oj.dst = some t ∧ depB o j = true ∧ j < i ∧ ∀ u, (fr u H a0 i).eval (.tmp t) = u j := by
  rcases (readsB_spec hR ho).2.1 t ht with h | ⟨j, oj, hj, hd, hdep⟩
  · exact .inl ⟨h, fun u => fr_old fun j oj hji hj => old_not hP ho hj h hji⟩
  · have hlt := dep_lt hP ho hdep
    exact .inr ⟨j, oj, hj, hd, hdep, hlt, fun u => fr_new hP hj hd hlt⟩
/-- Whether an operation is wanted stands from its own place on. -/
theorem wanted_later (hP : persB H a0.tmps.size = true) (hR : readsB L H = true) (hL : ∀ (i : Nat) (o : Oper), H[i]? = some o → L[i]? = some o) {u : Nat → Value} {j i : Nat} {oj : Oper} (hj : H[j]? = some oj) (hji : j ≤ i) :
    Region.wanted oj (yielded L.toArray (fr u H a0 i).tmps) = Region.wanted oj (yielded L.toArray (fr u H a0 j).tmps) := by
  unfold Region.wanted
  cases hg : oj.guard with
  | none => rfl
  | some gw =>
    obtain ⟨g, want⟩ := gw
    have hdep := (readsB_spec hR hj).2.2 g want hg
    have hlt := dep_lt hP hj hdep
    have hgl : g < H.length := by have := (List.getElem?_eq_some_iff.1 hj).1; omega
    have hog : H[g]? = some H[g] := List.getElem?_eq_getElem hgl
    obtain ⟨⟨d, hd, hdn⟩, _, _⟩ := persB_spec hP hog
    have e1 : (fr u H a0 i).eval (.tmp d) = u g := fr_new hP hog hd (by omega)
    have e2 : (fr u H a0 j).eval (.tmp d) = u g := fr_new hP hog hd hlt
    have hget : ∀ (a : Act), a.tmps.size = a0.tmps.size → a.eval (.tmp d) = u g → yielded L.toArray a.tmps g = (match some (u g) with | some (.bool b) => some b | _ => none) := by
      intro a hz he
      unfold yielded
      have h2 : a.tmps.getD d undef = u g := he
      have hlt' : d < a.tmps.size := by rw [hz]; exact hdn
      rw [Array.getD_eq_getD_getElem?, Array.getElem?_eq_getElem hlt'] at h2
      have h3 : (L.toArray)[g]? = some H[g] := by simpa using hL g _ hog
      rw [h3, Option.bind_some, hd, Option.bind_some, Array.getElem?_eq_getElem hlt']
      simp only [Option.getD_some] at h2
      rw [h2]
      rfl
    show (yielded L.toArray (fr u H a0 i).tmps g == some want) = (yielded L.toArray (fr u H a0 j).tmps g == some want)
    rw [hget _ (fr_size _ _ _ _) e1, hget _ (fr_size _ _ _ _) e2]
/-- What is known of the operations that have been carried out. -/
def Known (L H : List Oper) (M : List (Nat × Yld)) (a0 : Act) (u : Nat → Value) (D : Nat → Prop) (w : World) : Prop :=
  ∀ j oj S, D j → H[j]? = some oj → madeAt M j = some S → Region.wanted oj (yielded L.toArray (fr u H a0 j).tmps) = true → S.R (u j) w
theorem deps_of (hP : persB H a0.tmps.size = true) (hR : readsB L H = true) (hL : ∀ (i : Nat) (o : Oper), H[i]? = some o → L[i]? = some o) {u : Nat → Value} {D : Nat → Prop} {w : World} (hK : Known L H M a0 u D w) {i : Nat} {o : Oper} (ho : H[i]? = some o)
    (hD : ∀ j, depB o j = true → D j) : Deps L M (fr u H a0 i) o w := by
  intro j oj d S hj hd hdep hM hw
  have hlt := dep_lt hP ho hdep
  have hjl : j < H.length := by have := (List.getElem?_eq_some_iff.1 ho).1; omega
  have hj' : H[j]? = some oj := by
    have := hL j _ (List.getElem?_eq_getElem hjl)
    rw [hj] at this
    cases this
    exact List.getElem?_eq_getElem hjl
  rw [fr_new hP hj' hd hlt]
  exact hK j oj S (hD j hdep) hj' hM (by rw [← wanted_later hP hR hL hj' (Nat.le_of_lt hlt)]; exact hw)
/-- Two paths agree on what has been carried out. -/
theorem agree (hP : persB H a0.tmps.size = true) (hR : readsB L H = true) (hL : ∀ (i : Nat) (o : Oper), H[i]? = some o → L[i]? = some o) {p p' : (i : Nat) → (S : Yld) → S.X} {u u' : Nat → Value}
    (h : PathP P Up L H M a0 w0 E p u) (h' : PathP P Up L H M a0 w0 E p' u') {D : Nat → Prop} {w : World} (hw : Below w0.heap.size w0 w) (hcl : ∀ i o, D i → H[i]? = some o → ∀ j, depB o j = true → D j)
    (hp : ∀ i S, D i → p i S = p' i S) (hK : Known L H M a0 u D w) : ∀ i o, D i → H[i]? = some o → u i = u' i ∧ Region.wanted o (yielded L.toArray (fr u H a0 i).tmps) = Region.wanted o (yielded L.toArray (fr u' H a0 i).tmps) := by
  intro i
  induction i using Nat.strongRecOn with
  | ind i ih =>
    intro o hi ho
    have hlooks : ∀ t ∈ o.looksAt L.toArray, (fr u H a0 i).eval (.tmp t) = (fr u' H a0 i).eval (.tmp t) := fun t ht => by
      rcases looks_fr hP hR ho ht with ⟨_, he⟩ | ⟨j, oj, hj, hd, hdep, hlt, he⟩
      · rw [he u, he u']
      · rw [he u, he u']
        exact (ih j hlt oj (hcl i o hi ho j hdep) hj).1
    obtain ⟨e1, e2⟩ := same_of_looks (L := L) (readsB_spec hR ho).1 (by rw [fr_size, fr_size]) hlooks
    refine ⟨?_, e2⟩
    have s1 := h.step i o ho
    have s2 := h'.step i o ho
    rw [← e2] at s2
    by_cases hwt : Region.wanted o (yielded L.toArray (fr u H a0 i).tmps) = true
    · rw [if_pos hwt] at s1 s2
      cases hM : madeAt M i with
      | some S =>
        simp only [hM] at s1 s2
        rw [s1.2, s2.2, hp i S hi]
      | none =>
        simp only [hM] at s1 s2
        have hd1 := deps_of hP hR hL hK ho fun j hj => hcl i o hi ho j hj
        have hd2 : Deps L M (fr u' H a0 i) o w := by
          intro j oj d S hj hd hdep hMj hwj
          have hlt := dep_lt hP ho hdep
          have hjl : j < H.length := by have := (List.getElem?_eq_some_iff.1 ho).1; omega
          have hj' : H[j]? = some oj := by
            have := hL j _ (List.getElem?_eq_getElem hjl)
            rw [hj] at this
            cases this
            exact List.getElem?_eq_getElem hjl
          have hDj := hcl i o hi ho j hdep
          obtain ⟨f1, f2⟩ := ih j hlt oj hDj hj'
          rw [fr_new hP hj' hd hlt, ← f1]
          refine hK j oj S hDj hj' hMj ?_
          rw [f2, ← wanted_later hP hR hL hj' (Nat.le_of_lt hlt)]
          exact hwj
        have r1 := s1 w hw hd1
        have r2 := s2 w hw hd2
        rw [e1, r2] at r1
        injection r1 with h1 _
        injection h1 with h2
        exact h2.symm
    · rw [if_neg hwt] at s1 s2
      rw [s1, s2]
/-- What holds while the head is run. -/
structure InvW (P : Program) (Up : Exit → Prop) (L H : List Oper) (M : List (Nat × Yld)) (a0 : Act) (w0 : World) (E : Act → Prop) (listed : Array Bool) (a : Act) (w : World) : Prop where
  lsize : listed.size = L.length
  tail : ∀ t, H.length ≤ t → t < L.length → listed.getD t true = false
  below : Below w0.heap.size w0 w
  size : a.tmps.size = a0.tmps.size
  defers : a.defers = a0.defers
  old : ∀ t, (∀ i o, H[i]? = some o → listed.getD i true = true → o.dst ≠ some t) → a.eval (.tmp t) = a0.eval (.tmp t)
  closed : ∀ i o, H[i]? = some o → listed.getD i true = true → ∀ j, depB o j = true → listed.getD j true = true
  path : ∃ p u, PathP P Up L H M a0 w0 E p u ∧ (∀ i o d, H[i]? = some o → listed.getD i true = true → o.dst = some d → a.eval (.tmp d) = u i) ∧ Known L H M a0 u (fun i => i < H.length ∧ listed.getD i true = true) w
theorem Known.mono {u : Nat → Value} {D : Nat → Prop} {w w' : World} (h : Known L H M a0 u D w) (hb : Below w.heap.size w w') : Known L H M a0 u D w' := fun j oj S hD hj hM hw => by
  obtain ⟨x, e, hr⟩ := h j oj S hD hj hM hw
  exact ⟨x, e, S.st x w w' hr hb⟩
theorem InvW.looks (hP : persB H a0.tmps.size = true) (hR : readsB L H = true) {listed : Array Bool} {a : Act} {w : World} (h : InvW P Up L H M a0 w0 E listed a w) {u : Nat → Value} (hu : ∀ i o d, H[i]? = some o → listed.getD i true = true → o.dst = some d → a.eval (.tmp d) = u i)
    {i : Nat} {o : Oper} (ho : H[i]? = some o) (hl : listed.getD i true = false) (hd : ∀ j, depB o j = true → listed.getD j true = true) : ∀ t ∈ o.looksAt L.toArray, a.eval (.tmp t) = (fr u H a0 i).eval (.tmp t) := by
  intro t ht
  rcases looks_fr hP hR ho ht with ⟨hold, he⟩ | ⟨j, oj, hj, hdj, hdep, hlt, he⟩
  · rw [he u]
    refine h.old t fun k ok hk hlk e => ?_
    unfold oldB at hold
    rw [List.all_eq_true] at hold
    have := hold (ok, k) (by rw [List.mem_zipIdx_iff_getElem?]; exact hk)
    simp only [Bool.or_eq_true, bne_iff_ne, ne_eq, beq_iff_eq] at this
    rcases this with (h' | h') | h'
    · exact h' e
    · subst h'; rw [hl] at hlk; cases hlk
    · have := h.closed k ok hk hlk i h'
      rw [hl] at this; cases this
  · rw [he u]
    exact hu j oj t hj (hd j hdep) hdj
open Classical in
/-- One operation of the head. -/
theorem InvW.step (hP : persB H a0.tmps.size = true) (hR : readsB L H = true) (hL : ∀ (i : Nat) (o : Oper), H[i]? = some o → L[i]? = some o) (hW : walk P Up L M w0 E 0 H a0) {listed : Array Bool} {a : Act} {w : World} (h : InvW P Up L H M a0 w0 E listed a w)
    {i : Nat} {o : Oper} (ho : H[i]? = some o) (hl : listed.getD i true = false) (hd : ∀ j, depB o j = true → listed.getD j true = true) {K : Act → World → Prop}
    (hK : ∀ v w', Below w.heap.size w w' → InvW P Up L H M a0 w0 E (listed.setIfInBounds i true) (a.put o.dst v) w' → K (a.put o.dst v) w') :
    if Region.wanted o (yielded L.toArray a.tmps) = true then o.wp P a w K (Ups Up a0.defers w0) else K (a.put o.dst undef) w := by
  obtain ⟨⟨d, hod, hdn⟩, _, hun⟩ := persB_spec hP ho
  obtain ⟨p, u, hp, hu, hk⟩ := h.path
  have hil : i < H.length := (List.getElem?_eq_some_iff.1 ho).1
  have hiL : i < L.length := (List.getElem?_eq_some_iff.1 (hL i o ho)).1
  have hi : i < listed.size := by rw [h.lsize]; exact hiL
  obtain ⟨e1, e2⟩ := same_of_looks (L := L) (readsB_spec hR ho).1 (by rw [fr_size, h.size]) (h.looks hP hR hu ho hl hd)
  have hdeps : Deps L M (fr u H a0 i) o w := deps_of hP hR hL hk ho fun j hj => ⟨by have := dep_lt hP ho hj; omega, hd j hj⟩
  have hs := hp.step i o ho
  -- the new invariant, given a path whose value here is v
  have next : ∀ v w', Below w.heap.size w w' → (∃ p' u', PathP P Up L H M a0 w0 E p' u' ∧ u' i = v ∧ (∀ j oj, j < H.length → listed.getD j true = true → H[j]? = some oj → u' j = u j) ∧ Known L H M a0 u' (fun j => j < H.length ∧ (listed.setIfInBounds i true).getD j true = true) w') →
      InvW P Up L H M a0 w0 E (listed.setIfInBounds i true) (a.put o.dst v) w' := by
    rintro v w' hb ⟨p', u', hp', hv, hag, hk'⟩
    refine ⟨by simpa using h.lsize, fun t h1 h2 => by rw [getD_set_ne _ (by omega)]; exact h.tail t h1 h2, h.below.trans (hb.mono h.below.size), by rw [put_size]; exact h.size, by rw [put_defers]; exact h.defers, ?_, ?_, p', u', hp', ?_, hk'⟩
    · intro t ht
      rw [put_get_ne _ _ _ _ (ht i o ho (getD_set_self _ hi))]
      exact h.old t fun j oj hj hlj => ht j oj hj (getD_set_true' hlj)
    · intro j oj hj hlj k hdep
      by_cases hij : i = j
      · subst hij
        rw [ho] at hj
        cases hj
        exact getD_set_true' (hd k hdep)
      · rw [getD_set_ne _ hij] at hlj
        exact getD_set_true' (h.closed j oj hj hlj k hdep)
    · intro j oj dj hj hlj hdj
      by_cases hij : i = j
      · subst hij
        rw [ho] at hj
        cases hj
        rw [hod] at hdj
        cases hdj
        rw [hod, put_get_eq _ _ _ (by rw [h.size]; exact hdn), hv]
      · rw [getD_set_ne _ hij] at hlj
        rw [put_get_ne _ _ _ _ (fun e => hun j oj hj (Ne.symm hij) (hdj.trans e.symm)), hag j oj (List.getElem?_eq_some_iff.1 hj).1 hlj hj]
        exact hu j oj dj hj hlj hdj
  -- the path stays
  have stay : ∀ w', Below w.heap.size w w' → (∀ S, madeAt M i = some S → Region.wanted o (yielded L.toArray (fr u H a0 i).tmps) = true → S.R (u i) w') → InvW P Up L H M a0 w0 E (listed.setIfInBounds i true) (a.put o.dst (u i)) w' := by
    intro w' hb hmade
    refine next _ _ hb ⟨p, u, hp, rfl, fun _ _ _ _ _ => rfl, fun j oj S hj hoj hM hw => ?_⟩
    by_cases hij : i = j
    · subst hij
      rw [ho] at hoj
      cases hoj
      exact hmade S hM hw
    · obtain ⟨hj1, hj2⟩ := hj
      rw [getD_set_ne _ hij] at hj2
      exact hk.mono hb j oj S ⟨hj1, hj2⟩ hoj hM hw
  by_cases hw : Region.wanted o (yielded L.toArray (fr u H a0 i).tmps) = true
  · rw [if_pos hw] at hs
    rw [if_pos (e2.trans hw)]
    cases hM : madeAt M i with
    | none =>
      simp only [hM] at hs
      have hr := hs w h.below hdeps
      unfold Oper.wp Oper.upon
      rw [e1, hr]
      exact hK _ _ (Below.refl _ _) (stay w (Below.refl _ _) fun S hS => by rw [hM] at hS; cases hS)
    | some S =>
      simp only [hM] at hs
      have hwp := hs.1 w h.below hdeps
      have hups : ∀ x a1 w1, Ups Up (fr u H a0 i).defers w x a1 w1 → Ups Up a0.defers w0 x a1 w1 := fun x a1 w1 hq => ⟨hq.1, hq.2.1.trans (fr_defers _ _ _ _), h.below.trans (hq.2.2.mono h.below.size)⟩
      have hwp' : o.wp P a w (fun a' w' => ∃ v, a' = a.put o.dst v ∧ S.R v w' ∧ Below w.heap.size w w') (Ups Up a0.defers w0) := by
        have hput : ∀ v, ∃ v', (fr u H a0 i).put o.dst v = (fr u H a0 i).put o.dst v' := fun v => ⟨v, rfl⟩
        unfold WpYld Oper.wp at hwp
        unfold Oper.wp
        rw [e1]
        generalize (execOp (fr u H a0 i).eval o).run P w = r at hwp ⊢
        have inj : ∀ {v v' : Value}, (fr u H a0 i).put o.dst v = (fr u H a0 i).put o.dst v' → v = v' := fun {v v'} e => by
          have h1 := put_get_eq (fr u H a0 i) d v (by rw [fr_size]; exact hdn)
          have h2 := put_get_eq (fr u H a0 i) d v' (by rw [fr_size]; exact hdn)
          rw [hod] at e
          rw [← h1, e, h2]
        have conv : ∀ (v : Value) (w' : World), (∃ v', (fr u H a0 i).put o.dst v = (fr u H a0 i).put o.dst v' ∧ S.R v' w' ∧ Below w.heap.size w w') → ∃ v', a.put o.dst v = a.put o.dst v' ∧ S.R v' w' ∧ Below w.heap.size w w' := by
          rintro v w' ⟨v', e, hR, hb⟩
          rw [inj e]
          exact ⟨v', rfl, hR, hb⟩
        cases r with
        | halt x w' =>
          cases x <;> simp only [Oper.upon] at hwp ⊢
          case panic v => exact ⟨(hwp : Ups _ _ _ _ _ _).1, h.defers, (hups _ _ _ hwp).2.2⟩
        | ok n w' =>
          cases n <;> simp only [Oper.upon] at hwp ⊢
          case value v => exact conv v w' hwp
          case skip => exact conv undef w' hwp
          case enter f args =>
            refine Calls.mono hwp fun e w'' he => ?_
            cases e with
            | returned v => exact conv v w'' he
            | panicked c => exact ⟨(he : Ups _ _ _ _ _ _).1, h.defers, (hups _ _ _ he).2.2⟩
            | outgrown => obtain ⟨a1, w1, h0⟩ := (he : LetsOut _); exact ⟨a1, w1, hups _ _ _ h0⟩
          case row rw args =>
            exact hwp.mono fun v w'' he => conv v w'' he
          case defer dd =>
            obtain ⟨v', e, _⟩ := hwp
            have := congrArg Act.defers e
            rw [put_defers, put_defers] at this
            have := congrArg List.length this
            simp at this
      refine Oper.wp_mono (fun a' w' hq => ?_) hwp'
      obtain ⟨v, rfl, hRv, hb⟩ := hq
      obtain ⟨x, hx, hrel⟩ := hRv
      refine hK _ _ hb (next v w' hb ?_)
      obtain ⟨u', hp'⟩ := path_exists (a0 := a0) (fun k S' => if hh : k = i ∧ S' = S then hh.2 ▸ x else p k S') hW
      have hag := agree hP hR hL hp hp' (D := fun j => j < H.length ∧ listed.getD j true = true) (w := w) h.below (fun j oj hj hoj k hdep => ⟨by have := dep_lt hP hoj hdep; omega, h.closed j oj hoj hj.2 k hdep⟩)
        (fun j S' hj => by
          have hne : ¬ (j = i ∧ S' = S) := fun hh => by
            have := hj.2
            rw [hh.1, hl] at this
            cases this
          simp only [dif_neg hne]) hk
      have hlooks' : ∀ t ∈ o.looksAt L.toArray, (fr u H a0 i).eval (.tmp t) = (fr u' H a0 i).eval (.tmp t) := fun t ht => by
        rcases looks_fr hP hR ho ht with ⟨_, he⟩ | ⟨j, oj, hj, hdj, hdep, hlt, he⟩
        · rw [he u, he u']
        · rw [he u, he u']
          exact (hag j oj ⟨by omega, hd j hdep⟩ hj).1
      obtain ⟨-, e4⟩ := same_of_looks (L := L) (readsB_spec hR ho).1 (by rw [fr_size, fr_size]) hlooks'
      have hui : u' i = v := by
        have s := hp'.step i o ho
        rw [← e4, if_pos hw, hM] at s
        have := s.2
        rw [this, hx]
        simp
      refine ⟨_, u', hp', hui, fun j oj hj hlj hoj => ((hag j oj ⟨hj, hlj⟩ hoj).1).symm, fun j oj S' hj hoj hMj hwj => ?_⟩
      by_cases hij : i = j
      · subst hij
        rw [ho] at hoj
        cases hoj
        rw [hM] at hMj
        cases hMj
        rw [hui]
        exact ⟨x, hx, hrel⟩
      · obtain ⟨hj1, hj2⟩ := hj
        rw [getD_set_ne _ hij] at hj2
        obtain ⟨f1, f2⟩ := hag j oj ⟨hj1, hj2⟩ hoj
        rw [← f1]
        exact hk.mono hb j oj S' ⟨hj1, hj2⟩ hoj hMj (by rw [f2]; exact hwj)
  · rw [if_neg hw] at hs
    rw [if_neg (by rw [e2]; exact hw), ← hs]
    exact hK _ _ (Below.refl _ _) (stay w (Below.refl _ _) fun S _ hw' => absurd hw' hw)
theorem getD_tf {listed : Array Bool} {j : Nat} (h : listed.getD j false = true) : listed.getD j true = true := by
  by_cases hj : j < listed.size
  · rw [getD_lt hj]; exact h
  · simp [Array.getD_eq_getD_getElem?, Array.getElem?_eq_none (Nat.not_lt.1 hj)]
/-- What is known when the head is done. -/
def Facts (L H : List Oper) (M : List (Nat × Yld)) (a : Act) (w : World) : Prop :=
  ∀ i o d S, H[i]? = some o → o.dst = some d → madeAt M i = some S → Region.wanted o (yielded L.toArray a.tmps) = true → S.R (a.eval (.tmp d)) w
theorem InvW.done (hP : persB H a0.tmps.size = true) (hR : readsB L H = true) (hL : ∀ (i : Nat) (o : Oper), H[i]? = some o → L[i]? = some o) {listed : Array Bool} {a : Act} {w : World} (h : InvW P Up L H M a0 w0 E listed a w)
    (hall : ∀ i, i < H.length → listed.getD i true = true) : E a ∧ Facts L H M a w := by
  obtain ⟨p, u, hp, hu, hk⟩ := h.path
  have he : fr u H a0 H.length = a := by
    refine act_ext (by rw [fr_size, h.size]) (by rw [fr_defers, h.defers]) fun t => ?_
    by_cases ht : ∃ (i : Nat) (o : Oper), H[i]? = some o ∧ o.dst = some t
    · obtain ⟨i, o, ho, hod⟩ := ht
      have hi := (List.getElem?_eq_some_iff.1 ho).1
      rw [fr_new hP ho hod hi]
      exact (hu i o t ho (hall i hi) hod).symm
    · rw [fr_old fun j o _ ho e => ht ⟨j, o, ho, e⟩]
      exact (h.old t fun i o ho _ e => ht ⟨i, o, ho, e⟩).symm
  refine ⟨he ▸ hp.fin, fun i o d S ho hd hM hw => ?_⟩
  have hi := (List.getElem?_eq_some_iff.1 ho).1
  rw [hu i o d ho (hall i hi) hd]
  refine hk i o S ⟨hi, hall i hi⟩ ho hM ?_
  rw [← wanted_later hP hR hL ho (Nat.le_of_lt hi), he]
  exact hw
theorem seq_listed {n : Nat} {listed : Array Bool} (hn : n ≤ L.length) (hs : listed.size = L.length) (h1 : ∀ i, i < n → listed.getD i true = true) (h2 : ∀ t, n ≤ t → t < L.length → listed.getD t true = false) :
    listed = (List.replicate n true ++ List.replicate (L.length - n) false).toArray := by
  apply Array.ext
  · simp; omega
  · intro i hi1 hi2
    have e : listed.getD i true = listed[i] := by simp [Array.getD_eq_getD_getElem?, hi1]
    rw [← e]
    by_cases hin : i < n
    · rw [h1 i hin]
      simp [hin]
    · rw [h2 i (by omega) (by omega)]
      simp [List.getElem_append, hin]
theorem wpAny_walk {Q : Exit → Act → World → Prop} {n : Nat} (hH : H = L.take n) (hn : n ≤ L.length) (hP : persB H a0.tmps.size = true) (hR : readsB L H = true) (hT : n = L.length ∨ tailB L n = true) (hW : walk P Up L M w0 E 0 H a0)
    (hup : ∀ x a w, Ups Up a0.defers w0 x a w → Q x a w) (hend : ∀ a w, E a → Below w0.heap.size w0 w → Facts L H M a w → wpList P L.toArray Q (L.drop n) a w) :
    ∀ (fuel : Nat) (U : List Nat) (listed : Array Bool) (a : Act) (w : World), U.Nodup → (∀ i, i ∈ U ↔ i < n ∧ listed.getD i true = false) → fuel = U.length + (L.length - n) → InvW P Up L H M a0 w0 E listed a w → wpAny P .any L.toArray Q fuel listed a w := by
  have hHl : H.length = n := by rw [hH]; simp; omega
  have hL : ∀ (i : Nat) (o : Oper), H[i]? = some o → L[i]? = some o := fun i o h => by
    rw [hH, List.getElem?_take] at h
    split at h
    · exact h
    · cases h
  have hLH : ∀ (i : Nat) (o : Oper), i < n → L[i]? = some o → H[i]? = some o := fun i o hi h => by
    rw [hH, List.getElem?_take, if_pos hi]; exact h
  intro fuel
  induction fuel with
  | zero =>
    intro U listed a w _ hU hf h
    have hU0 : U = [] := List.eq_nil_of_length_eq_zero (by omega)
    have hnl : n = L.length := by omega
    have hall : ∀ i, i < n → listed.getD i true = true := fun i hi => by
      cases hl : listed.getD i true with
      | true => rfl
      | false => have := (hU i).2 ⟨hi, hl⟩; rw [hU0] at this; cases this
    obtain ⟨hE, hF⟩ := h.done hP hR hL (fun i hi => hall i (by omega))
    have hq := hend a w hE h.below hF
    rw [hnl, List.drop_length] at hq
    exact ⟨ready_none fun i hi => hall i (by omega), hq⟩
  | succ fuel ih =>
    intro U listed a w hnd hU hf h
    by_cases hU0 : U = []
    · have hall : ∀ i, i < n → listed.getD i true = true := fun i hi => by
        cases hl : listed.getD i true with
        | true => rfl
        | false => have := (hU i).2 ⟨hi, hl⟩; rw [hU0] at this; cases this
      obtain ⟨hE, hF⟩ := h.done hP hR hL (fun i hi => hall i (by omega))
      have hq := hend a w hE h.below hF
      rw [hU0] at hf
      simp only [List.length_nil, Nat.zero_add] at hf
      have hT' : tailB L n = true := hT.resolve_left (by omega)
      unfold tailB at hT'
      simp only [Bool.and_eq_true] at hT'
      have hlist := seq_listed (L := L) hn h.lsize hall (fun t h1 h2 => h.tail t (by omega) h2)
      have := wpAny_of_seq (P := P) (md := .any) (ops := L.toArray) (Q' := Q) (L.drop n) n listed a w (fun j => by simp [List.getElem?_drop]) (by rw [List.length_drop, hlist]; exact hT'.2) hq
      rw [List.length_drop, ← hf] at this
      exact this
    · have hnotall : ¬ ∀ i, i < n → listed.getD i true = true := fun hall => by
        obtain ⟨x, hx⟩ := List.exists_mem_of_ne_nil _ hU0
        have := (hU x).1 hx
        rw [hall x this.1] at this
        exact absurd this.2 (by decide)
      refine ⟨fun hr => ?_, fun i hi => ?_⟩
      · exfalso
        refine hnotall fun i => ?_
        induction i using Nat.strongRecOn with
        | ind i ihi =>
          intro hi
          cases hl : listed.getD i true with
          | true => rfl
          | false =>
            have ho : H[i]? = some (H[i]'(by omega)) := List.getElem?_eq_getElem _
            obtain ⟨_, h2, _⟩ := persB_spec hP ho
            have : i ∈ Region.ready .any L.toArray listed := by
              rw [mem_ready]
              refine ⟨hl, _, by simpa using hL i _ ho, fun e he hb => ?_⟩
              have hlt := h2 e he hb
              rw [← getD_lt (by rw [h.lsize]; omega)]
              exact ihi e.on hlt (by omega)
            rw [hr] at this
            cases this
      rw [mem_ready] at hi
      obtain ⟨hl, o, ho, hdeps⟩ := hi
      have hoL : L[i]? = some o := by simpa using ho
      have hiL : i < L.length := (List.getElem?_eq_some_iff.1 hoL).1
      have hd : ∀ j, depB o j = true → listed.getD j true = true := fun j hj => by
        obtain ⟨e, he, hon, hb⟩ := depB_of hj
        have := hdeps e he hb
        rw [hon] at this
        exact getD_tf this
      by_cases hin : i < n
      · have ho' := hLH i o hin hoL
        have hs := h.step hP hR hL hW ho' hl hd (K := wpAny P .any L.toArray Q fuel (listed.setIfInBounds i true)) (fun v w' _ hinv => by
          refine ih (U.erase i) _ _ _ (hnd.erase i) (fun j => ?_) ?_ hinv
          · rw [hnd.mem_erase_iff, hU j]
            constructor
            · rintro ⟨h1, h2, h3⟩
              exact ⟨h2, by rw [getD_set_ne _ (Ne.symm h1)]; exact h3⟩
            · rintro ⟨h1, h2⟩
              have hne : j ≠ i := by
                rintro rfl
                rw [getD_set_self _ (by rw [h.lsize]; exact hiL)] at h2; cases h2
              rw [getD_set_ne _ (Ne.symm hne)] at h2
              exact ⟨hne, h1, h2⟩
          · have hm := (hU i).2 ⟨hin, hl⟩
            have := List.length_pos_of_mem hm
            rw [List.length_erase_of_mem hm]
            omega)
        unfold wpOp
        rw [ho]
        simp only
        split at hs
        · next hw => rw [if_pos hw]; exact .inl (oper_wp_to hup hs)
        · next hw => rw [if_neg hw]; exact hs
      · exfalso
        have hT' : tailB L n = true := hT.resolve_left (by omega)
        unfold tailB at hT'
        simp only [Bool.and_eq_true] at hT'
        obtain ⟨⟨hT1, hT2⟩, _⟩ := hT'
        by_cases hni : i = n
        · subst hni
          refine hnotall ?_
          have key : ∀ m k, i - k = m → k < i → listed.getD k true = true := by
            intro m
            induction m using Nat.strongRecOn with
            | ind m ihm =>
              intro k hm hk
              have := List.all_eq_true.1 hT1 k (List.mem_range.2 hk)
              rw [Bool.or_eq_true, hoL] at this
              rcases this with h1 | h1
              · exact hd k h1
              · obtain ⟨⟨o', k'⟩, hm', h2⟩ := List.any_eq_true.1 h1
                simp only [Bool.and_eq_true, decide_eq_true_eq] at h2
                rw [List.mem_zipIdx_iff_getElem?, ← hH] at hm'
                have hk' := (List.getElem?_eq_some_iff.1 hm').1
                exact h.closed k' o' hm' (ihm (i - k') (by omega) k' rfl (by omega)) k h2.2
          exact fun k hk => key _ k rfl hk
        · have := List.all_eq_true.1 hT2 (o, i) (by rw [List.mem_zipIdx_iff_getElem?]; exact hoL)
          simp only [Bool.or_eq_true, decide_eq_true_eq] at this
          rcases this with h1 | h1
          · omega
          · have h2 := hd _ h1
            rw [h.tail (i - 1) (by omega) (by omega)] at h2
            cases h2
/-- THE LAW: n operations in whatever order, walked in the list's order; the rest behind them. -/
theorem wp_region_walkU {id : Nat} {Q : Exit → Act → World → Prop} (n : Nat) (M : List (Nat × Yld)) (hm : P.follows .mixedOrders = true) (hB : walkB L n a0.tmps.size = true) (hup : ∀ x a w, Ups Up a0.defers w0 x a w → Q x a w)
    (h : walk P Up L M w0 (fun a => ∀ w, Below w0.heap.size w0 w → Facts L (L.take n) M a w → wpList P L.toArray Q (L.drop n) a w) 0 (L.take n) a0) : (Code.region id L.toArray true).wp P Q a0 w0 := by
  unfold walkB at hB
  simp only [Bool.and_eq_true, Bool.or_eq_true, decide_eq_true_eq] at hB
  obtain ⟨⟨⟨hn, hP⟩, hR⟩, hT⟩ := hB
  refine wp_region_any hm ?_
  have hf : ∀ i, i < L.length → (Array.replicate L.toArray.size false).getD i true = false := fun i hi => by
    rw [Array.getD_eq_getD_getElem?, Array.getElem?_eq_getElem (by simpa using hi)]
    simp
  have hHl : (L.take n).length = n := by simp; omega
  obtain ⟨u, hu⟩ := path_exists (a0 := a0) (fun _ S => S.inh) h
  refine wpAny_walk (w0 := w0) rfl hn hP hR hT h hup (fun a w hE hb hF => hE w hb hF) _ (List.range n) _ _ _ List.nodup_range (fun i => ?_) (by simp; omega) ?_
  · rw [List.mem_range]
    exact ⟨fun hi => ⟨hi, hf i (by omega)⟩, fun hi => hi.1⟩
  · refine ⟨by simp, fun t _ ht => hf t ht, ⟨rfl, rfl, rfl, Nat.le_refl _, fun _ _ => rfl⟩, rfl, rfl, fun t _ => rfl, fun i o ho hl => ?_, _, u, hu, fun i o d ho hl => ?_, fun j oj S hj => ?_⟩
    · have := (List.getElem?_eq_some_iff.1 ho).1
      rw [hf i (by omega)] at hl; cases hl
    · have := (List.getElem?_eq_some_iff.1 ho).1
      rw [hf i (by omega)] at hl; cases hl
    · have := hj.2
      rw [hf j (by omega)] at this; cases this
/-- The same where nothing goes up. -/
theorem wp_region_walk {id : Nat} {Q : Exit → Act → World → Prop} (n : Nat) (M : List (Nat × Yld)) (hm : P.follows .mixedOrders = true) (hB : walkB L n a0.tmps.size = true)
    (h : walk P NoUp L M w0 (fun a => ∀ w, Below w0.heap.size w0 w → Facts L (L.take n) M a w → wpList P L.toArray Q (L.drop n) a w) 0 (L.take n) a0) : (Code.region id L.toArray true).wp P Q a0 w0 :=
  wp_region_walkU n M hm hB (fun _ _ _ hq => (hq.1 : False).elim) h
end
end Go.Fd
namespace Go.Fd
open Go.RowKit
/-- An operation that comes to a value, if it comes to anything. -/
def valB (o : Oper) : Bool :=
  match o.op with
  | .move _ | .assign _ | .pick _ _ _ | .alloc _ | .box _ _ | .build _ _ | .buildSlice _ _ _ | .load _ _ | .binOp _ _ _ _ _ | .unOp _ _ _ | .convert _ _ _ | .makeInterface _ _ | .makeFunc _ _ _ | .makeSlice _ _ _ | .makeMap _ _ | .slice _ _ _ _ _ | .fieldAddr _ _ _ | .field _ _ _ | .indexAddr _ _ _ | .index _ _ _ | .lookup _ _ _ _ | .extract _ _ | .typeAssert _ _ _ _ => true
  | .call c => (match c.callee with | .builtin .len => true | .builtin .cap => true | .builtin .min => true | .builtin .max => true | .builtin .append => true | .builtin .copy => true | _ => false)
  | _ => false
theorem run_v {P : Program} {s : Sem Value} {w w' : World} {n : Next} (h : (do pure (.value (← s)) : Sem Next).run P w = .ok n w') : ∃ v, n = .value v := by
  rw [Sem.run_bind] at h
  cases hs : s.run P w with
  | ok v w1 =>
    rw [hs, Result.andThen_ok] at h
    have : (pure (Next.value v) : Sem Next).run P w1 = .ok (.value v) w1 := rfl
    rw [this] at h
    cases h
    exact ⟨v, rfl⟩
  | halt x w1 =>
    rw [hs, Result.andThen_halt] at h
    cases h
theorem valB_spec {P : Program} {o : Oper} (h : valB o = true) {ρ : Operand → Value} {w w' : World} {n : Next} (hr : (execOp ρ o).run P w = .ok n w') : ∃ v, n = .value v := by
  obtain ⟨dst, op, type, pos, after, guard⟩ := o
  cases op <;> simp only [valB] at h <;> simp only [execOp] at hr
  case move x => exact run_v (s := pure (ρ x)) hr
  case assign x => exact run_v (s := pure (ρ x)) hr
  case call c =>
    obtain ⟨callee, args, ats⟩ := c
    cases callee with
    | value f => cases h
    | invoke r m => cases h
    | builtin b =>
      cases b <;> simp only at h <;> first | (cases h; done) | exact run_v hr
  case pick c x y =>
    rw [Sem.run_bind] at hr
    cases hs : (asBool (ρ c)).run P w with
    | ok v w1 =>
      rw [hs, Result.andThen_ok] at hr
      have : (pure (Next.value (if v = true then ρ x else ρ y)) : Sem Next).run P w1 = .ok (.value (if v = true then ρ x else ρ y)) w1 := rfl
      exact ⟨(if v = true then ρ x else ρ y), by
        rw [show (pure (Next.value (if v = true then ρ x else ρ y)) : Sem Next).run P w1 = .ok (.value (if v = true then ρ x else ρ y)) w1 from rfl] at hr
        cases hr; rfl⟩
    | halt x w1 =>
      rw [hs, Result.andThen_halt] at hr
      cases hr
  all_goals first | (cases h; done) | exact run_v hr
section
variable {P : Program} {Up : Exit → Prop} {L r : List Oper} {M : List (Nat × Yld)} {a : Act} {w0 : World} {E : Act → Prop} {i : Nat} {o : Oper}
theorem Above.cell (x : Above w0) (b k : Nat) (h : b < w0.heap.size) : x.w.cell? ⟨b, k, none⟩ = w0.cell? ⟨b, k, none⟩ := x.h.cell (p := ⟨b, k, none⟩) h
theorem walk_val {v : Value} (hw : Region.wanted o (yielded L.toArray a.tmps) = true) (hM : madeAt M i = none) (h : ∀ w, Below w0.heap.size w0 w → Deps L M a o w → (execOp a.eval o).run P w = .ok (.value v) w) (hn : walk P Up L M w0 E (i + 1) r (a.put o.dst v)) : walk P Up L M w0 E i (o :: r) a := by
  rw [walk, if_pos hw, hM]
  exact ⟨v, h, hn⟩
theorem walk_made {S : Yld} (hw : Region.wanted o (yielded L.toArray a.tmps) = true) (hM : madeAt M i = some S) (h : ∀ w, Below w0.heap.size w0 w → Deps L M a o w → WpYld P Up o a S w) (hn : ∀ x, walk P Up L M w0 E (i + 1) r (a.put o.dst (S.shape x))) : walk P Up L M w0 E i (o :: r) a := by
  rw [walk, if_pos hw, hM]
  exact ⟨h, hn⟩
/-- An operation that is run by the walk's own rules. -/
theorem walk_quiet (hw : Region.wanted o (yielded L.toArray a.tmps) = true) (hM : madeAt M i = none) (hv : valB o = true) (h : ∀ K : Act → Prop, (∀ a, walk P Up L M w0 E (i + 1) r a → K a) → o.quiet P a (fun w => ∃ x : Above w0, w = x.w) K) : walk P Up L M w0 E i (o :: r) a := by
  obtain ⟨v, h1, h2⟩ := h (walk P Up L M w0 E (i + 1) r) (fun _ h => h)
  refine walk_val hw hM (fun w hb _ => ?_) h2
  have := h1 w ⟨⟨w, hb⟩, rfl⟩
  unfold Oper.quietAt at this
  generalize hr : (execOp a.eval o).run P w = res at this
  cases res with
  | halt x w' => exact this.elim
  | ok n w' =>
    obtain ⟨u, rfl⟩ := valB_spec hv hr
    obtain ⟨rfl, rfl⟩ := (this : w' = w ∧ u = v)
    rfl
theorem walk_nil (h : E a) : walk P Up L M w0 E i [] a := h
theorem WpYld.val {S : Yld} {v : Value} {w w' : World} (hr : (execOp a.eval o).run P w = .ok (.value v) w') (hR : S.R v w') (hb : Below w.heap.size w w') : WpYld P Up o a S w := by
  unfold WpYld Oper.wp Oper.upon
  rw [hr]
  exact ⟨v, rfl, hR, hb⟩
end
theorem run_callL {P : Program} {a : Act} {w : World} {d : Option Tmp} {ty : TypeId} {pos : String} {aft : Array Edge} {g : Option (Nat × Bool)} {f : FuncId} {fn : Func} {xs : List Operand} {ts : Array TypeId} {vals : List Value} (hf : P.funcs[f]? = some fn) (hn : (fn.name == "runtime.NumGoroutine") = false) {c : Code} (hb : fn.body = some c) (hx : xs.map a.eval = vals) :
    (execOp a.eval ⟨d, .call { callee := .value (.func f), args := xs.toArray, argTypes := ts }, ty, pos, aft, g⟩).run P w = .ok (.enter f vals.toArray) w :=
  run_call hf hn hb (by rw [List.map_toArray, hx])
section
variable {P : Program} {Up : Exit → Prop} {L r : List Oper} {M : List (Nat × Yld)} {a : Act} {w0 : World} {E : Act → Prop} {i : Nat} {o : Oper}
end
/-- A block of memory, made in the region, of so many cells. -/
def Yld.new (B : Nat) (t : TypeId) (n : Nat) : Yld := ⟨Nat, 0, fun g => .pointer (some ⟨g, 0, none⟩), fun g w => B ≤ g ∧ ∃ cs : Array Value, w.heap[g]? = some (.cells cs t (0, 0)) ∧ cs.size = n,
  fun g w w' ⟨h1, cs, h2, h3⟩ hb => ⟨h1, cs, by rw [hb.block g (Array.getElem?_eq_some_iff.1 h2).1]; exact h2, h3⟩⟩
theorem walk_new {P : Program} {Up : Exit → Prop} {L r : List Oper} {M : List (Nat × Yld)} {a : Act} {w0 : World} {E : Act → Prop} {i : Nat} {o : Oper} {B n : Nat} {t : TypeId} (hw : Region.wanted o (yielded L.toArray a.tmps) = true) (hM : madeAt M i = some (Yld.new B t n)) (h : ∀ w, Below w0.heap.size w0 w → Deps L M a o w → WpYld P Up o a (Yld.new B t n) w) (hn : ∀ g : Nat, walk P Up L M w0 E (i + 1) r (a.put o.dst (.pointer (some ⟨g, 0, none⟩)))) : walk P Up L M w0 E i (o :: r) a :=
  walk_made hw hM h hn
theorem Yld.new_got {B n g : Nat} {t : TypeId} {w : World} (h : (Yld.new B t n).R (.pointer (some ⟨g, 0, none⟩)) w) : B ≤ g ∧ ∃ cs : Array Value, w.heap[g]? = some (.cells cs t (0, 0)) ∧ cs.size = n := by
  obtain ⟨x, e, hr⟩ := h
  have : g = x := by
    have e' : (Value.pointer (some ⟨g, 0, none⟩)) = .pointer (some ⟨x, 0, none⟩) := e
    injection e' with e'; injection e' with e'; injection e'
  subst this
  exact hr
theorem Yld.new_mk {w0 w : World} {t : TypeId} (cs : Array Value) (h : Below w0.heap.size w0 w) : (Yld.new w0.heap.size t cs.size).R (.pointer (some ⟨w.heap.size, 0, none⟩)) (w.alloc (.cells cs t)) ∧ Below w.heap.size w (w.alloc (.cells cs t)) :=
  ⟨⟨w.heap.size, rfl, h.size, cs, heap_alloc_last w _, rfl⟩, below_alloc w _⟩
section
variable {P : Program} {ops : Array Oper} {rest : List Oper} {Q : Exit → Act → World → Prop} {a : Act} {w : World}
/-- The store of a record into a block that was made. -/
theorem wpList_storeMade {d : Option Tmp} {ty t : TypeId} {pos : String} {aft : Array Edge} {p x : Operand} {c c' : Array Value} {g B : Nat} (hg : w.heap[g]? = some (.cells c t (0, 0))) (hp : a.eval p = .pointer (some ⟨g, 0, none⟩)) (hx : a.eval x = .agg c')
    (hi : (P.info? t).map (·.size) = some c'.size) (ho : c.size = c'.size) (h1 : c'.all (·.oneCell') = true) (hB : B ≤ g) (hBw : B ≤ w.heap.size)
    (h : ∀ w1, w1.heap[g]? = some (.cells c' t (0, 0)) → Below B w w1 → wpList P ops Q rest (a.put d undef) w1) :
    wpList P ops Q (⟨d, .store t p x, ty, pos, aft, none⟩ :: rest) a w := by
  unfold wpList
  rw [if_pos (by simp [Region.wanted])]
  exact .inl (wp_store_made hg hp hx hi ho h1 hB hBw h)
end
end Go.Fd
namespace Go.Fd
structure SecM where
  name : List UInt8
  typ : Nat
  flags : Nat
  addr : Nat
  align : Nat
  size : Nat
  link : Nat
  info : Nat
  ent : Nat
  data : List UInt8
deriving DecidableEq
structure SegM where
  typ : Nat
  flags : Nat
  off : Nat
  vaddr : Nat
  filesz : Nat
  memsz : Nat
  align : Nat
deriving DecidableEq
end Go.Fd
namespace Go.Proofs.Ytmpmkjlkhlagfaa
open Go.RowKit Go.Fd
end Go.Proofs.Ytmpmkjlkhlagfaa
namespace Go.Fd
open Go.RowKit
section
variable {P : Program} {ops : Array Oper} {rest : List Oper} {Q : Exit → Act → World → Prop} {a : Act} {w : World}
/-- A block that was there stays. -/
theorem heap_below {w w' : World} {b : Nat} {o : Obj} (h : Below w.heap.size w w') (hb : w.heap[b]? = some o) : w'.heap[b]? = some o := by
  rw [h.block b (Array.getElem?_eq_some_iff.1 hb).1]; exact hb
end
end Go.Fd
namespace Go.Proofs.Ytmpmkjlkhlagfaa
open Go.RowKit Go.Fd
end Go.Proofs.Ytmpmkjlkhlagfaa
namespace Go.Fd
theorem all_no {α : Type} {f : α → Bool} {l : List α} {k : Nat} {x : α} (h : l[k]? = some x) (hb : f x = false) : l.all f = false := by
  rw [Bool.eq_false_iff]
  intro h'
  rw [List.all_eq_true.1 h' x (List.mem_of_getElem? h)] at hb
  cases hb
end Go.Fd
namespace Go.Proofs.Ytmpmkjlkhlagfaa
open Go.RowKit Go.Fd
end Go.Proofs.Ytmpmkjlkhlagfaa
namespace Go.Fd
open Go.RowKit
theorem walk_check {P : Program} {Up : Exit → Prop} {L r : List Oper} {M : List (Nat × Yld)} {a : Act} {w0 : World} {E : Act → Prop} {i : Nat} {d : Option Tmp} {ty : TypeId} {pos : String} {aft : Array Edge} {gd : Option (Nat × Bool)} {x : Operand} {p : Addr} (hw : Region.wanted ⟨d, .nilCheck x, ty, pos, aft, gd⟩ (yielded L.toArray a.tmps) = true) (hM : madeAt M i = none) (hp : a.eval x = .pointer (some p)) (hn : walk P Up L M w0 E (i + 1) r (a.put d (.pointer (some p)))) : walk P Up L M w0 E i (⟨d, .nilCheck x, ty, pos, aft, gd⟩ :: r) a :=
  walk_val hw hM (fun w _ _ => by simp only [execOp, hp]; rfl) hn
end Go.Fd
namespace Go.Proofs.Ytmpmkjlkhlagfaa
open Go.RowKit Go.Fd
/-- Blocks of other elements' types, but for one block, stay as they are. -/
def KeepF (g : Nat) (w w' : World) : Prop := ∀ (b : Nat) cs e fr, b ≠ g → e ≠ 5 → w.heap[b]? = some (.cells cs e fr) → w'.heap[b]? = some (.cells cs e fr)
theorem KeepF.refl (g : Nat) (w : World) : KeepF g w w := fun _ _ _ _ _ _ h => h
theorem KeepF.trans {g : Nat} {w w' w'' : World} (h : KeepF g w w') (k : KeepF g w' w'') : KeepF g w w'' := fun b cs e fr hb he hh => k b cs e fr hb he (h b cs e fr hb he hh)
theorem KeepF.of {g : Nat} {w w' : World} (h : Keeps 5 w w') : KeepF g w w' := fun b cs e fr _ he hh => h b cs e fr he hh
theorem KeepF.below {g : Nat} {w w' : World} (h : Below w.heap.size w w') : KeepF g w w' := KeepF.of (keeps_below h)
theorem ob_apart {w : World} {base g : Nat} {v : Value} {l : List UInt8} {cs : Array Value} {e : TypeId} {fr : Nat × Nat} (ho : OB w base v l) (hg : w.heap[g]? = some (.cells cs e fr)) (he : e ≠ 5) : ∀ k, v.ownBlock = some k → k ≠ g := by
  intro k hk hkg
  subst hkg
  rcases ho.2 with ⟨rfl, -⟩ | ⟨g', cap, cur, rfl, -, hh, -⟩
  · cases hk
  · simp only [Value.ownBlock, Option.some.injEq] at hk
    subst hk
    rw [hg] at hh
    cases hh
    exact he rfl
theorem free_rec' {w : World} {g : Nat} {cs : Array Value} {t : TypeId} (h : w.heap[g]? = some (.cells cs t (0, 0))) (c : Nat) : w.frozen? ⟨g, c, none⟩ = false := by simp [World.frozen?, h]
/-- append in a region that draws: bytes of a file, and a row of bytes of its own. -/
theorem step_catF {P : Program} {ops : Array Oper} {o : Oper} {a : Act} {w : World} {K : Act → World → Prop} {Q : Exit → Act → World → Prop} {E : Prop}
    (hg : o.guard = none) (s x : Operand) (t : TypeId) (e : TypeId) (T : SliceT P t e 1 1) (hop : o.op = Op.call { callee := Callee.builtin Builtin.append, args := #[s, x], argTypes := #[t, t] })
    {base : Nat} {v : Value} {l m : List UInt8} {ad : Addr} {n c : Nat} (hown : w.ownsRow base e 1 v l.length (l.map B)) (hs : a.eval s = v) (hx : a.eval x = .slice (some ad) n c) (hm : n = m.length)
    (hc : ∀ j u, (m.map B)[j]? = some u → w.cell? (ad.add j) = some u) (hn : l.length + m.length ≤ 140737488355328) (hb : base ≤ w.heap.size)
    (hK : ∀ v' w', w'.ownsRow base e 1 v' (l ++ m).length ((l ++ m).map B) → w.grownBy w' v.ownBlock → K (a.put o.dst v') w') :
    if Region.wanted o (yielded ops a.tmps) = true then Oper.wp P o a w K Q else E := by
  have hw : Region.wanted o (yielded ops a.tmps) = true := by simp [Region.wanted, hg]
  rw [if_pos hw]
  obtain ⟨i, z, h1, h2, h3, h4, h5⟩ := T.info
  subst hm
  obtain ⟨v', w', hrun, h6, h7, -⟩ := run_append_own (w := w) base t o.type e i z 1 1 T.ht h1 h2 h3 h4 h5 T.pos v l.length (l.map B) hown ad m.length c (m.map B) (by simp) hc (fun u hu => List.all_eq_true.1 (allB m) u hu) (maxLen_of (by omega)) (by omega) hb
  unfold Oper.wp
  simp [execOp, hop, resolve, invoke, builtin, hs, hx, hrun, Result.andThen]
  refine hK v' w' ?_ h7
  rw [List.length_append, List.map_append]
  exact h6
end Go.Proofs.Ytmpmkjlkhlagfaa
namespace Go.Proofs.Ytmpmkjlkhlagfaa
open Go.RowKit Go.Fd
theorem append_types {P : Program} {w : World} {t u ty e e' : TypeId} {b : Option Addr} {n c : Nat} {x : Value} (ht : P.underlying t = some (.slice e)) (hu : P.underlying u = some (.slice e')) : (Builtin.append_ #[t, u] ty #[.slice b n c, x]).run P w = (Builtin.append_ #[t, t] ty #[.slice b n c, x]).run P w := by
  simp [Builtin.append_, run_underlying ht, run_underlying hu]
theorem run_cat {P : Program} {w : World} {t ty e : TypeId} (T : SliceT P t e 1 1) {v u : Value} {base : Nat} {l m : List UInt8} (hown : w.ownsRow base e 1 v l.length (l.map B)) (hy : Bs w u m) (hn : l.length + m.length ≤ 140737488355328) (hb : base ≤ w.heap.size) :
    ∃ v' w', (Builtin.append_ #[t, t] ty #[v, u]).run P w = .ok v' w' ∧ w'.ownsRow base e 1 v' (l ++ m).length ((l ++ m).map B) ∧ w.grownBy w' v.ownBlock := by
  obtain ⟨i, z, h1', h2, h3, h4, h5⟩ := T.info
  obtain ⟨hl, au, cap, rfl, hcap, h00, hc⟩ := hy
  rcases au with _ | ad
  · have hm0 : m = [] := by
      cases m with
      | nil => rfl
      | cons c m => obtain ⟨b, off, h', _⟩ := hc 0 (by simp); cases h'
    subst hm0
    obtain rfl := h00 rfl
    refine ⟨v, w, run_append_owned_none (w := w) base t ty e i 1 T.ht h1' v l.length (l.map B) hown, ?_, World.grownBy.refl _ _⟩
    rw [List.append_nil]
    exact hown
  · obtain ⟨v', w', hrun, h6, h7, -⟩ := run_append_own (w := w) base t ty e i z 1 1 T.ht h1' h2 h3 h4 h5 T.pos v l.length (l.map B) hown ad m.length cap (m.map B) (by simp) (fun j y hj => by
      have hlt : j < (m.map B).length := (List.getElem?_eq_some_iff.1 hj).1
      obtain ⟨b, off, e1, e2⟩ := hc j hlt
      cases e1
      have e3 : (⟨b, off, none⟩ : Addr).add j = ⟨b, off + j, none⟩ := by unfold Addr.add; split <;> simp_all
      rw [e3, e2, hj]) (fun u hu => List.all_eq_true.1 (allB m) u hu) (maxLen_of (by omega)) (by omega) hb
    refine ⟨v', w', hrun, ?_, h7⟩
    rw [List.length_append, List.map_append]
    exact h6
end Go.Proofs.Ytmpmkjlkhlagfaa
namespace Go.Proofs.Ytmpmkjlkhlagfaa
open Go.RowKit Go.Fd
/-- A number at a place, and whether it is there. -/
def gN (l : List UInt8) (a s : Nat) : Nat := (getR l a s false).1
def okB (l : List UInt8) (a s : Nat) : Bool := decide ((getR l a s false).2 = 0)
theorem gN_lt (l : List UInt8) (a s : Nat) : gN l a s < 256 ^ s := by
  unfold gN getR
  split
  · split
    · exact Nat.pow_pos (by omega)
    · split
      · exact Nat.pow_pos (by omega)
      · have h := numLE_lt ((l.drop (a : Int).toNat).take (s : Int).toNat)
        refine Nat.lt_of_lt_of_le h (Nat.pow_le_pow_right (by omega) ?_)
        rw [List.length_take]
        omega
  · exact Nat.pow_pos (by omega)
theorem gN4 (l : List UInt8) (a : Nat) : gN l a 4 < 4294967296 := gN_lt l a 4
theorem gN8 (l : List UInt8) (a : Nat) : gN l a 8 < 18446744073709551616 := gN_lt l a 8
theorem okB_iff {l : List UInt8} {a s : Nat} (hs : Sized s) : okB l a s = decide (a + s ≤ l.length) := by
  unfold okB getR
  rw [if_pos hs]
  by_cases h : a + s ≤ l.length
  · rw [if_neg (by omega), if_neg (by omega), decide_eq_true h]; rfl
  · rw [decide_eq_false h]
    split
    · rfl
    · rw [if_pos (by omega)]; rfl
theorem gN_in {l : List UInt8} {a s : Nat} (hs : Sized s) (h : a + s ≤ l.length) : gN l a s = numLE ((l.drop a).take s) := by
  unfold gN getR
  rw [if_pos hs, if_neg (by omega), if_neg (by omega)]
  simp
theorem sz1 : Sized 1 := by unfold Sized; omega
theorem sz2 : Sized 2 := by unfold Sized; omega
theorem sz4 : Sized 4 := by unfold Sized; omega
theorem sz8 : Sized 8 := by unfold Sized; omega
end Go.Proofs.Ytmpmkjlkhlagfaa
namespace Go.Proofs.Ytmpmkjlkhlagfaa
open Go.RowKit Go.Fd
def leb : Nat → Nat → List UInt8
  | 0, n => [UInt8.ofNat n]
  | k + 1, n => if n < 128 then [UInt8.ofNat n] else UInt8.ofNat (n % 128 + 128) :: leb k (n / 128)
theorem leb_small (k n : Nat) (h : n < 128) : leb k n = [UInt8.ofNat n] := by
  cases k with
  | zero => rfl
  | succ k => rw [leb, if_pos h]
theorem leb_big (k n : Nat) (h : ¬ n < 128) : leb (k + 1) n = UInt8.ofNat (n % 128 + 128) :: leb k (n / 128) := by rw [leb, if_neg h]
theorem or128 (x : Nat) (h : x < 256) : x ||| 128 = x % 128 + 128 := by
  have : ∀ x : Fin 256, x.val ||| 128 = x.val % 128 + 128 := by decide +kernel
  exact this ⟨x, h⟩
theorem bits_or128 (x : Nat) : bits .or .u8 ((x : Int) % 256) 128 = ((x % 128 + 128 : Nat) : Int) := by
  rw [show (x : Int) % 256 = ((x % 256 : Nat) : Int) by omega, show (128 : Int) = ((128 : Nat) : Int) from rfl, u8_or_nat _ _ (by omega) (by omega), or128 _ (by omega)]
  congr 1; omega
theorem refLeb_any (n : Nat) (w : World) (hn : n < 18446744073709551616) :
    Calls Try.prog 24 #[.int .u64 n] w fun e w' => ∃ v, e = .returned v ∧ OB w' w.heap.size v (leb 9 n) ∧ Below w.heap.size w w' := by
  go_enter Try.func24, Try.ntmps24
  go_wp2
  go_loopw [0, 3] (fun m v wr => ∃ (k j : Nat) (pre : List UInt8), m = .int .u64 k ∧ pre ++ leb j k = leb 9 n ∧ k < 128 ^ (j + 1) ∧ k < 18446744073709551616 ∧ pre.length + j = 9 ∧ OB wr w.heap.size v pre ∧ Below w.heap.size w wr) (fun m _ _ => (intOf m).toNat)
  case atStart => exact ⟨n, 9, [], rfl, rfl, Nat.lt_trans hn (by decide), hn, rfl, OB.nil _ _, Below.refl _ _⟩
  case round =>
    obtain ⟨k, j, pre, rfl, hp, hk, hk2, hj, hown, hb⟩ := hrel
    have HP := Lib.hid hp
    have HJ := Lib.hid hj
    have hj' : pre.length ≤ 9 := by omega
    clear hp hj
    by_cases h : k < 128
    · have HS := Lib.hid (leb_small j k h)
      go_wp2_with (at_builtin; refine wpList_pushB hown rfl rfl (UInt8.ofNat k) (by rw [u8_of]; omega) (by omega) hb.size ?_; intro v1 w1 hown1 _ hb1)
      go_ret
      exact ⟨_, rfl, by rw [← HP.out, HS.out]; exact hown1, hb.trans hb1⟩
    · obtain ⟨j, rfl⟩ : ∃ i, j = i + 1 := by
        cases j with
        | zero => exact absurd hk (by omega)
        | succ j => exact ⟨j, rfl⟩
      have HS := Lib.hid (leb_big j k h)
      have HK := Lib.hid hk
      clear hk
      go_wp2_with (at_builtin; refine wpList_pushB hown rfl rfl (UInt8.ofNat (k % 128 + 128)) (by rw [u8_of]; omega) (by omega) hb.size ?_; intro v1 w1 hown1 _ hb1)
      go_roundw
      case rel => exact ⟨k / 128, j, pre ++ [UInt8.ofNat (k % 128 + 128)], by go_num, by rw [← HP.out, HS.out]; simp, by have := HK.out; rw [Nat.pow_succ] at this; omega, by omega, by have := HJ.out; simp; omega, hown1, hb.trans hb1⟩
      case measure => simp [intOf] <;> omega
set_option maxRecDepth 100000 in
theorem octLeb_any (n : Nat) (w : World) (hn : n < 18446744073709551616) :
    Calls Try.prog 34 #[.int .u64 n] w fun e w' => ∃ v, e = .returned v ∧ OB w' w.heap.size v (leb 9 n) ∧ Below w.heap.size w w' := by
  go_enter Try.func34, Try.ntmps34
  go_wp2
  go_loopw [0, 3] (fun m v wr => ∃ (k j : Nat) (pre : List UInt8), m = .int .u64 k ∧ pre ++ leb j k = leb 9 n ∧ k < 128 ^ (j + 1) ∧ k < 18446744073709551616 ∧ pre.length + j = 9 ∧ OB wr w.heap.size v pre ∧ Below w.heap.size w wr) (fun m _ _ => (intOf m).toNat)
  case atStart => exact ⟨n, 9, [], rfl, rfl, Nat.lt_trans hn (by decide), hn, rfl, OB.nil _ _, Below.refl _ _⟩
  case round =>
    obtain ⟨k, j, pre, rfl, hp, hk, hk2, hj, hown, hb⟩ := hrel
    have HP := Lib.hid hp
    have HJ := Lib.hid hj
    have hj' : pre.length ≤ 9 := by omega
    clear hp hj
    by_cases h : k < 128
    · have HS := Lib.hid (leb_small j k h)
      go_wp2_with (at_builtin; refine wpList_pushB hown rfl rfl (UInt8.ofNat k) (by rw [u8_of]; omega) (by omega) hb.size ?_; intro v1 w1 hown1 _ hb1)
      go_ret
      exact ⟨_, rfl, by rw [← HP.out, HS.out]; exact hown1, hb.trans hb1⟩
    · obtain ⟨j, rfl⟩ : ∃ i, j = i + 1 := by
        cases j with
        | zero => exact absurd hk (by omega)
        | succ j => exact ⟨j, rfl⟩
      have HS := Lib.hid (leb_big j k h)
      have HK := Lib.hid hk
      clear hk
      go_wp2_with (at_builtin; refine wpList_pushB hown rfl rfl (UInt8.ofNat (k % 128 + 128)) ((bits_or128 k).trans (by rw [u8_of]; omega)) (by omega) hb.size ?_; intro v1 w1 hown1 _ hb1)
      go_roundw
      case rel => exact ⟨k / 128, j, pre ++ [UInt8.ofNat (k % 128 + 128)], by go_num, by rw [← HP.out, HS.out]; simp, by have := HK.out; rw [Nat.pow_succ] at this; omega, by omega, by have := HJ.out; simp; omega, hown1, hb.trans hb1⟩
      case measure => simp [intOf] <;> omega
def sleb : Nat → Int → List UInt8
  | 0, n => [UInt8.ofNat (n % 128).toNat]
  | k + 1, n => if -64 ≤ n ∧ n ≤ 63 then [UInt8.ofNat (n % 128).toNat] else UInt8.ofNat ((n % 128).toNat + 128) :: sleb k (n / 128)
theorem sleb_small (k : Nat) (n : Int) (h : -64 ≤ n ∧ n ≤ 63) : sleb k n = [UInt8.ofNat (n % 128).toNat] := by
  cases k with
  | zero => rfl
  | succ k => rw [sleb, if_pos h]
theorem sleb_big (k : Nat) (n : Int) (h : ¬ (-64 ≤ n ∧ n ≤ 63)) : sleb (k + 1) n = UInt8.ofNat ((n % 128).toNat + 128) :: sleb k (n / 128) := by rw [sleb, if_neg h]
theorem wrap_mod128 (k : Int) : (IntKind.u64.wrap k).tmod 128 = k % 128 := by
  rw [IntKind.wrap_u64, Int.tmod_eq_emod_of_nonneg (by omega)]; omega
set_option maxRecDepth 100000 in
theorem refSleb_any (n : Int) (w : World) (h1 : -9223372036854775808 ≤ n) (h2 : n < 9223372036854775808) :
    Calls Try.prog 39 #[.int .i64 n] w fun e w' => ∃ v, e = .returned v ∧ OB w' w.heap.size v (sleb 9 n) ∧ Below w.heap.size w w' := by
  go_enter Try.func39, Try.ntmps39
  go_wp2
  go_loopw [0, 3] (fun m v wr => ∃ (k : Int) (j : Nat) (pre : List UInt8), m = .int .i64 k ∧ pre ++ sleb j k = sleb 9 n ∧ -(64 * 128 ^ j : Nat) ≤ k ∧ k < (64 * 128 ^ j : Nat) ∧ -9223372036854775808 ≤ k ∧ k < 9223372036854775808 ∧ pre.length + j = 9 ∧ OB wr w.heap.size v pre ∧ Below w.heap.size w wr)
    (fun m _ _ => (intOf m).natAbs)
  case atStart => exact ⟨n, 9, [], rfl, rfl, by simp; omega, by simp; omega, h1, h2, rfl, OB.nil _ _, Below.refl _ _⟩
  case round =>
    obtain ⟨k, j, pre, rfl, hp, hk1, hk2, hk3, hk4, hj, hown, hb⟩ := hrel
    have HP := Lib.hid hp
    have HJ := Lib.hid hj
    have hj' : pre.length ≤ 9 := by omega
    clear hp hj
    by_cases h : -64 ≤ k ∧ k ≤ 63
    · have HS := Lib.hid (sleb_small j k h)
      obtain ⟨ha, hc⟩ := h
      clear hk1 hk2
      go_wp2_with (at_builtin; refine wpList_pushB hown rfl rfl (UInt8.ofNat (k % 128).toNat) (by (try rw [wrap_mod128]); rw [u8_of]; omega) (by omega) hb.size ?_; intro v1 w1 hown1 _ hb1)
      go_ret
      exact ⟨_, rfl, by rw [← HP.out, HS.out]; exact hown1, hb.trans hb1⟩
    · obtain ⟨j, rfl⟩ : ∃ i, j = i + 1 := by
        cases j with
        | zero => exact absurd hk1 (by omega)
        | succ j => exact ⟨j, rfl⟩
      have HS := Lib.hid (sleb_big j k h)
      have HK := Lib.hid (And.intro hk1 hk2)
      clear hk1 hk2
      have hx1 : 0 ≤ (IntKind.u64.wrap k).tmod 128 := by rw [wrap_mod128]; omega
      have hx2 : (IntKind.u64.wrap k).tmod 128 < 128 := by rw [wrap_mod128]; omega
      by_cases hneg : k < -64
      all_goals
        go_wp2_with (at_builtin; go_must (refine wpList_pushB hown rfl rfl (UInt8.ofNat ((k % 128).toNat + 128)) (by (try rw [wrap_mod128]); rw [u8_of]; omega) (by omega) hb.size ?_; intro v1 w1 hown1 _ hb1))
        go_roundw
        case rel => exact ⟨k / 128, j, pre ++ [UInt8.ofNat ((k % 128).toNat + 128)], by go_num, by rw [← HP.out, HS.out]; simp, by have := HK.out; rw [Nat.pow_succ] at this; omega, by have := HK.out; rw [Nat.pow_succ] at this; omega, by omega, by omega, by have := HJ.out; simp; omega, hown1, hb.trans hb1⟩
        case measure => simp [intOf] <;> omega
theorem u8_wrap_and (k : Int) : bits .and .u8 (k % 256) 127 = (k % 128) := by
  rw [show k % 256 = (((k % 256).toNat : Nat) : Int) by omega, show (127 : Int) = ((127 : Nat) : Int) from rfl, u8_and_nat _ _ (by omega) (by omega), nat_mask7]
  omega
theorem u8_wrap_or (k : Int) : bits .or .u8 (k % 256) 128 = (k % 128) + 128 := by
  rw [show k % 256 = (((k % 256).toNat : Nat) : Int) by omega, show (128 : Int) = ((128 : Nat) : Int) from rfl, u8_or_nat _ _ (by omega) (by omega), or128 _ (by omega)]
  omega
set_option maxRecDepth 100000 in
theorem octSleb_any (n : Int) (w : World) (h1 : -9223372036854775808 ≤ n) (h2 : n < 9223372036854775808) :
    Calls Try.prog 36 #[.int .i64 n] w fun e w' => ∃ v, e = .returned v ∧ OB w' w.heap.size v (sleb 9 n) ∧ Below w.heap.size w w' := by
  go_enter Try.func36, Try.ntmps36
  go_wp2
  go_loopw [0, 3] (fun m v wr => ∃ (k : Int) (j : Nat) (pre : List UInt8), m = .int .i64 k ∧ pre ++ sleb j k = sleb 9 n ∧ -(64 * 128 ^ j : Nat) ≤ k ∧ k < (64 * 128 ^ j : Nat) ∧ -9223372036854775808 ≤ k ∧ k < 9223372036854775808 ∧ pre.length + j = 9 ∧ OB wr w.heap.size v pre ∧ Below w.heap.size w wr)
    (fun m _ _ => (intOf m).natAbs)
  case atStart => exact ⟨n, 9, [], rfl, rfl, by simp; omega, by simp; omega, h1, h2, rfl, OB.nil _ _, Below.refl _ _⟩
  case round =>
    obtain ⟨k, j, pre, rfl, hp, hk1, hk2, hk3, hk4, hj, hown, hb⟩ := hrel
    have HP := Lib.hid hp
    have HJ := Lib.hid hj
    have hj' : pre.length ≤ 9 := by omega
    clear hp hj
    by_cases h : -64 ≤ k ∧ k ≤ 63
    · have HS := Lib.hid (sleb_small j k h)
      obtain ⟨ha, hc⟩ := h
      clear hk1 hk2
      go_wp2_with (at_builtin; go_must (refine wpList_pushB hown rfl rfl (UInt8.ofNat (k % 128).toNat) (by (try rw [u8_wrap_and]); rw [u8_of]; omega) (by omega) hb.size ?_; intro v1 w1 hown1 _ hb1))
      go_ret
      exact ⟨_, rfl, by rw [← HP.out, HS.out]; exact hown1, hb.trans hb1⟩
    · obtain ⟨j, rfl⟩ : ∃ i, j = i + 1 := by
        cases j with
        | zero => exact absurd hk1 (by omega)
        | succ j => exact ⟨j, rfl⟩
      have HS := Lib.hid (sleb_big j k h)
      have HK := Lib.hid (And.intro hk1 hk2)
      clear hk1 hk2
      by_cases hneg : k < -64
      all_goals
        go_wp2_with (at_builtin; go_must (refine wpList_pushB hown rfl rfl (UInt8.ofNat ((k % 128).toNat + 128)) (by (try rw [u8_wrap_or]); rw [u8_of]; omega) (by omega) hb.size ?_; intro v1 w1 hown1 _ hb1))
        go_roundw
        case rel => exact ⟨k / 128, j, pre ++ [UInt8.ofNat ((k % 128).toNat + 128)], by go_num, by rw [← HP.out, HS.out]; simp, by have := HK.out; rw [Nat.pow_succ] at this; omega, by have := HK.out; rw [Nat.pow_succ] at this; omega, by omega, by omega, by have := HJ.out; simp; omega, hown1, hb.trans hb1⟩
        case measure => simp [intOf] <;> omega
end Go.Proofs.Ytmpmkjlkhlagfaa
namespace Go.Proofs.Ytmpmkjlkhlagfaa
open Go.RowKit Go.Fd
def sevens : List UInt8 → Option (List UInt8)
  | [] => none
  | c :: r => if c.toNat < 128 then some [c] else (sevens r).map (c :: ·)
def sevenR (l : List UInt8) (at_ : Int) : List UInt8 × Int :=
  if at_ < 0 ∨ (l.length : Int) < at_ then ([], 5) else match sevens (l.drop at_.toNat) with
    | none => ([], 2)
    | some g => if g.length > 10 then ([], 3) else (g, 0)
theorem sevens_hit (l : List UInt8) (k : Nat) (hk : k < l.length) (h : (l[k]?.getD 0).toNat < 128) : sevens (l.drop k) = some [l[k]?.getD 0] := by
  rw [List.drop_eq_getElem_cons hk, sevens]
  rw [List.getElem?_eq_getElem hk, Option.getD_some] at h ⊢
  rw [if_pos h]
theorem sevens_miss (l : List UInt8) (k : Nat) (hk : k < l.length) (h : ¬ (l[k]?.getD 0).toNat < 128) : sevens (l.drop k) = (sevens (l.drop (k + 1))).map ((l[k]?.getD 0) :: ·) := by
  rw [List.drop_eq_getElem_cons hk, sevens]
  rw [List.getElem?_eq_getElem hk, Option.getD_some] at h ⊢
  rw [if_neg h]
def low7 (g : List UInt8) : List Nat := g.map fun c => c.toNat % 128
/-- The number that sevens of bits make. -/
def lebVal : List Nat → Nat
  | [] => 0
  | d :: r => d + 128 * lebVal r
theorem lebVal_snoc (g : List Nat) (d : Nat) : lebVal (g ++ [d]) = lebVal g + d * 128 ^ g.length := by
  induction g with
  | nil => simp [lebVal]
  | cons c g ih => rw [List.cons_append, lebVal, ih, lebVal, List.length_cons, Nat.pow_succ, Nat.mul_add, Nat.add_assoc]; congr 2; rw [Nat.mul_comm (128 ^ g.length) 128, Nat.mul_left_comm]
theorem lebVal_lt (g : List Nat) (h : ∀ d ∈ g, d < 128) : lebVal g < 128 ^ g.length := by
  induction g with
  | nil => simp [lebVal]
  | cons c g ih =>
    have h1 := h c (by simp)
    have h2 := ih fun d hd => h d (by simp [hd])
    rw [lebVal, List.length_cons, Nat.pow_succ]; omega
theorem low7_lt (g : List UInt8) : ∀ d ∈ low7 g, d < 128 := by
  intro d hd
  obtain ⟨c, _, rfl⟩ := List.mem_map.1 hd
  exact Nat.mod_lt _ (by omega)
/-- A group of seven bits, put above those that are there. -/
theorem or_group (n d i : Nat) (hn : n < 128 ^ i) (hi : i ≤ 9) (hd : d < 128) (h9 : i = 9 → d ≤ 1) :
    d * 128 ^ i < 18446744073709551616 ∧ bits .or .u64 (n : Int) ((d * 128 ^ i : Nat) : Int) = ((n + d * 128 ^ i : Nat) : Int) := by
  have h1 : d * 128 ^ i < 18446744073709551616 := by
    by_cases h : i = 9
    · subst h
      have := h9 rfl
      calc d * 128 ^ 9 ≤ 1 * 128 ^ 9 := Nat.mul_le_mul_right _ this
        _ < _ := by decide
    · calc d * 128 ^ i ≤ 128 * 128 ^ 8 := Nat.mul_le_mul (by omega) (Nat.pow_le_pow_right (by omega) (by omega))
        _ < _ := by decide
  have h2 : n < 18446744073709551616 := by
    calc n < 128 ^ i := hn
      _ ≤ 128 ^ 9 := Nat.pow_le_pow_right (by omega) hi
      _ ≤ _ := by decide
  refine ⟨h1, ?_⟩
  rw [u64_or_nat _ _ h2 h1]
  have e : (128 : Nat) ^ i = 2 ^ (7 * i) := by rw [Nat.pow_mul]
  rw [Nat.or_comm, nat_join (7 * i) _ _ (by rw [e]; exact Nat.mul_mod_left _ _) (by rw [← e]; exact hn), Nat.add_comm]
theorem or_groupW (n d i : Nat) (hn : n < 128 ^ i) (hi : i ≤ 9) (hd : d < 128) (h9 : i = 9 → d ≤ 1) :
    bits .or .u64 (n : Int) (IntKind.u64.wrap ((d : Int) * 2 ^ (7 * i))) = ((n + d * 128 ^ i : Nat) : Int) := by
  obtain ⟨h1, h2⟩ := or_group n d i hn hi hd h9
  rw [← h2, IntKind.wrap_u64]
  have e : (128 : Nat) ^ i = 2 ^ (7 * i) := by rw [Nat.pow_mul]
  rw [e] at h1 ⊢
  rw [show (d : Int) * 2 ^ (7 * i) = ((d * 2 ^ (7 * i) : Nat) : Int) by simp, Int.emod_eq_of_lt (by omega) (by omega)]
def readLebR (l : List UInt8) (at_ : Int) : Nat × Nat × Int :=
  if (sevenR l at_).2 ≠ 0 then (0, 0, (sevenR l at_).2) else if (sevenR l at_).1.length = 10 ∧ 1 < (low7 (sevenR l at_).1)[9]?.getD 0 then (0, 0, 3) else (lebVal (low7 (sevenR l at_).1), (sevenR l at_).1.length, 0)
theorem sevens_len (l g : List UInt8) (h : sevens l = some g) : 1 ≤ g.length := by
  cases l with
  | nil => simp [sevens] at h
  | cons c r =>
    rw [sevens] at h
    split at h
    · simp at h; subst h; simp
    · cases hr : sevens r with
      | none => rw [hr] at h; simp at h
      | some x => rw [hr] at h; simp at h; subst h; simp
theorem sevenR_len (l : List UInt8) (at_ : Int) (h : (sevenR l at_).2 = 0) : 1 ≤ (sevenR l at_).1.length ∧ (sevenR l at_).1.length ≤ 10 := by
  rw [sevenR] at h ⊢
  split at h
  · simp at h
  · next h0 =>
    rw [if_neg h0]
    split at h
    · simp at h
    · next g hg =>
      have := sevens_len _ _ hg
      split at h
      · simp at h
      · next h1 => simp only [if_neg h1]; exact ⟨this, by simpa using h1⟩
end Go.Proofs.Ytmpmkjlkhlagfaa
namespace Go.Proofs.Ytmpmkjlkhlagfaa
open Go.RowKit Go.Fd
def slebVal (q : List Nat) : Int :=
  if q.length < 10 ∧ 64 ≤ q[q.length - 1]?.getD 0 then (lebVal q : Int) - 128 ^ q.length else IntKind.i64.wrap (lebVal q % 18446744073709551616 : Nat)
def readSlebR (l : List UInt8) (at_ : Int) : Int × Nat × Int :=
  if (sevenR l at_).2 ≠ 0 then (0, 0, (sevenR l at_).2) else
    if (sevenR l at_).1.length = 10 ∧ (low7 (sevenR l at_).1)[9]?.getD 0 ≠ 0 ∧ (low7 (sevenR l at_).1)[9]?.getD 0 ≠ 127 then (0, 0, 3) else (slebVal (low7 (sevenR l at_).1), (sevenR l at_).1.length, 0)
theorem or_group9 (n d : Nat) (hn : n < 128 ^ 9) (hd : d = 0 ∨ d = 127) :
    bits .or .u64 (n : Int) (IntKind.u64.wrap ((d : Int) * 9223372036854775808)) = (((n + d * 128 ^ 9) % 18446744073709551616 : Nat) : Int) := by
  have e0 : (128 : Nat) ^ 9 = 9223372036854775808 := by decide
  rw [e0] at hn ⊢
  rcases hd with rfl | rfl
  · rw [show IntKind.u64.wrap (((0 : Nat) : Int) * 9223372036854775808) = ((0 : Nat) : Int) from by rw [IntKind.wrap_u64]; rfl, u64_or_nat _ _ (by omega) (by omega), Nat.or_zero]
    omega
  · rw [show IntKind.u64.wrap (((127 : Nat) : Int) * 9223372036854775808) = ((9223372036854775808 : Nat) : Int) from by rw [IntKind.wrap_u64]; omega, u64_or_nat _ _ (by omega) (by omega), Nat.or_comm, nat_join 63 _ _ (by kernel_rfl) (by omega)]
    omega
theorem group_lt (m d k : Nat) (hm : m < 128 ^ k) (hd : d < 128) (hk : k < 9) : m + d * 128 ^ k < 18446744073709551616 := by
  have h1 : d * 128 ^ k ≤ 127 * 128 ^ k := Nat.mul_le_mul_right _ (by omega)
  have h2 : 128 ^ k ≤ 128 ^ 8 := Nat.pow_le_pow_right (by omega) (by omega)
  have h3 : (128 : Nat) ^ 8 = 72057594037927936 := by decide
  omega
theorem sleb_high (m L : Nat) (hm : m < 128 ^ L) (hL : L ≤ 9) : wrap64 (bits .or .u64 (m : Int) (IntKind.u64.wrap (18446744073709551615 * 2 ^ (7 * L)))) = (m : Int) - 128 ^ L := by
  have e : (2 : Nat) ^ (7 * L) = 128 ^ L := by rw [Nat.pow_mul]
  have hp : 128 ^ L ≤ 9223372036854775808 := Nat.le_trans (Nat.pow_le_pow_right (by omega) hL) (by decide)
  have hp0 : 0 < 128 ^ L := Nat.pow_pos (by omega)
  have hd : 18446744073709551616 % 128 ^ L = 0 := by
    have : (18446744073709551616 : Nat) = 2 * 128 ^ 9 := by decide
    rw [this, show (128 : Nat) ^ 9 = 128 ^ (9 - L) * 128 ^ L by rw [← Nat.pow_add]; congr 1; omega, ← Nat.mul_assoc]
    exact Nat.mul_mod_left _ _
  have h1 : (18446744073709551615 * 2 ^ (7 * L) : Int) = ((18446744073709551615 * 128 ^ L : Nat) : Int) := by rw [← e]; simp
  rw [h1, IntKind.wrap_u64, show (128 : Int) ^ L = ((128 ^ L : Nat) : Int) by simp]
  have hal : (18446744073709551616 - 128 ^ L) % 2 ^ (7 * L) = 0 := by
    rw [e]
    exact (Nat.sub_mod_eq_zero_of_mod_eq (by rw [hd, Nat.mod_self]))
  generalize 128 ^ L = p at *
  rw [show ((18446744073709551615 * p : Nat) : Int) % 18446744073709551616 = ((18446744073709551616 - p : Nat) : Int) by omega, u64_or_nat _ _ (by omega) (by omega), Nat.or_comm, nat_join (7 * L) _ _ hal (by omega)]
  rw [wrap64]
  omega
end Go.Proofs.Ytmpmkjlkhlagfaa
namespace Go.Proofs.Ytmpmkjlkhlagfaa
open Go.RowKit Go.Fd
theorem numLE_fixed (n s : Nat) : numLE (fixed n s) = n % 256 ^ s := by
  induction s generalizing n with
  | zero => simp [fixed, numLE, Nat.mod_one]
  | succ s ih =>
    rw [fixed, numLE, ih, u8_of, Nat.pow_succ, Nat.mul_comm (256 ^ s) 256, Nat.mod_mul]
theorem leb_sevens (r : List UInt8) (k n : Nat) (h : n < 128 ^ (k + 1)) : sevens (leb k n ++ r) = some (leb k n) := by
  induction k generalizing n with
  | zero =>
    simp at h
    rw [leb, List.singleton_append, sevens, u8_of, if_pos (by omega)]
  | succ k ih =>
    by_cases hn : n < 128
    · rw [leb_small _ _ hn, List.singleton_append, sevens, u8_of, if_pos (by omega)]
    · rw [leb_big _ _ hn, List.cons_append, sevens, u8_of, if_neg (by omega), ih (n / 128) (by rw [Nat.pow_succ] at h; omega)]
      rfl
theorem leb_val (k n : Nat) (h : n < 128 ^ (k + 1)) : lebVal (low7 (leb k n)) = n := by
  induction k generalizing n with
  | zero =>
    simp at h
    rw [leb]
    simp only [low7, List.map_cons, List.map_nil, lebVal, u8_of]
    omega
  | succ k ih =>
    by_cases hn : n < 128
    · rw [leb_small _ _ hn]
      simp only [low7, List.map_cons, List.map_nil, lebVal, u8_of]
      omega
    · have := ih (n / 128) (by rw [Nat.pow_succ] at h; omega)
      rw [leb_big _ _ hn]
      simp only [low7, List.map_cons, lebVal, u8_of] at this ⊢
      rw [this]
      omega
theorem lebVal_digit (g : List Nat) (i : Nat) : (g[i]?.getD 0) * 128 ^ i ≤ lebVal g := by
  induction g generalizing i with
  | nil => simp
  | cons d g ih =>
    cases i with
    | zero => simp [lebVal]
    | succ i =>
      rw [List.getElem?_cons_succ, lebVal, Nat.pow_succ]
      have := ih i
      calc g[i]?.getD 0 * (128 ^ i * 128) = (g[i]?.getD 0 * 128 ^ i) * 128 := by rw [Nat.mul_assoc]
        _ ≤ lebVal g * 128 := Nat.mul_le_mul_right _ this
        _ ≤ _ := by omega
theorem read_leb (l r : List UInt8) (n : Nat) (hn : n < 18446744073709551616) : readLebR (l ++ leb 9 n ++ r) l.length = (n, (leb 9 n).length, 0) := by
  have hl : (leb 9 n).length ≤ 10 := by
    have : ∀ k n, (leb k n).length ≤ k + 1 := by
      intro k
      induction k with
      | zero => intro n; simp [leb]
      | succ k ih => intro n; rw [leb]; split <;> simp; exact ih _
    exact this 9 n
  have hs : sevenR (l ++ leb 9 n ++ r) l.length = (leb 9 n, 0) := by
    unfold sevenR
    rw [if_neg (by simp only [List.length_append]; omega), Int.toNat_natCast, List.append_assoc, List.drop_left, leb_sevens r 9 n (Nat.lt_trans hn (by decide))]
    simp only
    rw [if_neg (by omega)]
  have hv := leb_val 9 n (Nat.lt_trans hn (by decide))
  unfold readLebR
  rw [hs]
  simp only
  rw [if_neg (by simp), if_neg, hv]
  intro h
  have := lebVal_digit (low7 (leb 9 n)) 9
  rw [hv] at this
  have h2 := h.2
  have h3 : (128 : Nat) ^ 9 = 9223372036854775808 := by decide
  rw [h3] at this
  omega
theorem sleb_sevens (r : List UInt8) (k : Nat) (n : Int) (h1 : -(64 * 128 ^ k : Nat) ≤ n) (h2 : n < (64 * 128 ^ k : Nat)) : sevens (sleb k n ++ r) = some (sleb k n) := by
  induction k generalizing n with
  | zero => rw [sleb, List.singleton_append, sevens, u8_of, if_pos (by omega)]
  | succ k ih =>
    by_cases hn : -64 ≤ n ∧ n ≤ 63
    · rw [sleb_small _ _ hn, List.singleton_append, sevens, u8_of, if_pos (by omega)]
    · rw [sleb_big _ _ hn, List.cons_append, sevens, u8_of, if_neg (by omega), ih (n / 128) (by rw [Nat.pow_succ] at h1; omega) (by rw [Nat.pow_succ] at h2; omega)]
      rfl
theorem sleb_val (k : Nat) (n : Int) (h1 : -(64 * 128 ^ k : Nat) ≤ n) (h2 : n < (64 * 128 ^ k : Nat)) :
    1 ≤ (low7 (sleb k n)).length ∧ (lebVal (low7 (sleb k n)) : Int) - (if 64 ≤ (low7 (sleb k n))[(low7 (sleb k n)).length - 1]?.getD 0 then ((128 ^ (low7 (sleb k n)).length : Nat) : Int) else 0) = n := by
  have small : ∀ n : Int, -64 ≤ n → n ≤ 63 → 1 ≤ (low7 [UInt8.ofNat (n % 128).toNat]).length ∧ (lebVal (low7 [UInt8.ofNat (n % 128).toNat]) : Int) - (if 64 ≤ (low7 [UInt8.ofNat (n % 128).toNat])[(low7 [UInt8.ofNat (n % 128).toNat]).length - 1]?.getD 0 then ((128 ^ (low7 [UInt8.ofNat (n % 128).toNat]).length : Nat) : Int) else 0) = n := by
    intro n ha hb
    simp only [low7, List.map_cons, List.map_nil, lebVal, u8_of, List.length_cons, List.length_nil, Nat.zero_add, Nat.sub_self, List.getElem?_cons_zero, Option.getD_some, Nat.pow_one]
    refine ⟨Nat.le_refl _, ?_⟩
    split <;> omega
  induction k generalizing n with
  | zero =>
    simp at h1 h2
    rw [sleb]
    exact small n (by omega) (by omega)
  | succ k ih =>
    by_cases hn : -64 ≤ n ∧ n ≤ 63
    · rw [sleb_small _ _ hn]
      exact small n hn.1 hn.2
    · obtain ⟨i1, i2⟩ := ih (n / 128) (by rw [Nat.pow_succ] at h1; omega) (by rw [Nat.pow_succ] at h2; omega)
      rw [sleb_big _ _ hn]
      have e : low7 (UInt8.ofNat ((n % 128).toNat + 128) :: sleb k (n / 128)) = (n % 128).toNat :: low7 (sleb k (n / 128)) := by
        simp only [low7, List.map_cons, u8_of]
        congr 1
        omega
      rw [e]
      generalize low7 (sleb k (n / 128)) = q at *
      rw [List.length_cons, lebVal, Nat.add_sub_cancel]
      have e2 : ((n % 128).toNat :: q)[q.length]? = q[q.length - 1]? := by
        rw [show q.length = (q.length - 1) + 1 by omega, List.getElem?_cons_succ, Nat.add_sub_cancel]
      rw [e2, Nat.pow_succ]
      refine ⟨by omega, ?_⟩
      split at i2
      · next h64 => rw [if_pos h64]; omega
      · next h64 => rw [if_neg h64]; omega
theorem read_sleb (l r : List UInt8) (n : Int) (h1 : -9223372036854775808 ≤ n) (h2 : n < 9223372036854775808) : readSlebR (l ++ sleb 9 n ++ r) l.length = (n, (sleb 9 n).length, 0) := by
  have hl : (sleb 9 n).length ≤ 10 := by
    have : ∀ k n, (sleb k n).length ≤ k + 1 := by
      intro k
      induction k with
      | zero => intro n; simp [sleb]
      | succ k ih => intro n; rw [sleb]; split <;> simp; exact ih _
    exact this 9 n
  have e9 : (128 : Nat) ^ 9 = 9223372036854775808 := by decide
  have hs : sevenR (l ++ sleb 9 n ++ r) l.length = (sleb 9 n, 0) := by
    unfold sevenR
    rw [if_neg (by simp only [List.length_append]; omega), Int.toNat_natCast, List.append_assoc, List.drop_left, sleb_sevens r 9 n (by rw [e9]; omega) (by rw [e9]; omega)]
    simp only
    rw [if_neg (by omega)]
  obtain ⟨hv1, hv2⟩ := sleb_val 9 n (by rw [e9]; omega) (by rw [e9]; omega)
  have hlen : (low7 (sleb 9 n)).length = (sleb 9 n).length := by simp [low7]
  have hlt := low7_lt (sleb 9 n)
  unfold readSlebR
  rw [hs]
  simp only
  rw [if_neg (by simp), ← hlen]
  rw [← hlen] at hl
  generalize low7 (sleb 9 n) = q at *
  have hval : slebVal q = n := by
    unfold slebVal
    by_cases h64 : 64 ≤ q[q.length - 1]?.getD 0
    · rw [if_pos h64] at hv2
      by_cases h10 : q.length < 10
      · rw [if_pos ⟨h10, h64⟩, ← hv2]; simp
      · rw [if_neg (by omega), wrapEq, wrap64]
        have hq : q.length = 10 := by omega
        rw [hq] at hv2
        have e10 : (128 : Nat) ^ 10 = 1180591620717411303424 := by decide
        rw [e10] at hv2
        omega
    · rw [if_neg h64] at hv2
      rw [if_neg (fun h => h64 h.2), wrapEq, wrap64]
      omega
  rw [if_neg, hval]
  intro ⟨hq, hd0, hd127⟩
  have hd := lebVal_digit q 9
  have hdlt : q[9]?.getD 0 < 128 := hlt _ (by rw [List.getElem?_eq_getElem (by omega)]; exact List.getElem_mem _)
  have hsn := lebVal_snoc (q.take 9) (q[9]?.getD 0)
  have htk : q.take 9 ++ [q[9]?.getD 0] = q := by
    rw [← take_snoc' q 9 _ (by rw [List.getElem?_eq_getElem (by omega)]; rfl), List.take_of_length_le (by omega)]
  have htl : (q.take 9).length = 9 := by rw [List.length_take]; omega
  rw [htk, htl, e9] at hsn
  have hr := lebVal_lt (q.take 9) fun d hd => hlt d (List.mem_of_mem_take hd)
  rw [htl, e9] at hr
  have e10 : (128 : Nat) ^ 10 = 1180591620717411303424 := by decide
  rw [hq, e10] at hv2
  simp only [show 10 - 1 = 9 from rfl] at hv2
  split at hv2 <;> omega
end Go.Proofs.Ytmpmkjlkhlagfaa
namespace Go.Proofs.Ytmpmkjlkhlagfaa
open Go.RowKit Go.Fd
/-- A row, a run, an entry. -/
structure RowM where
  off : Int
  file : Int
  line : Int
structure RunM where
  at_ : Nat
  rows : List RowM
  end_ : Int
structure EntM where
  addr : Nat
  file : Int
  line : Int
  fin : Bool
/-- May a text not be a file's name? -/
def fileBad (s : List UInt8) : Bool := decide (s = []) || !mayS s
def rowOk (r : RowM) (off fin : Int) (n : Nat) : Bool := decide (1 ≤ r.file) && decide (r.file ≤ n) && decide (1 ≤ r.line) && decide (r.line ≤ 1048576) && decide (off ≤ r.off) && decide (r.off ≤ fin)
def rowsOk (n : Nat) (fin : Int) : Int → List RowM → Bool
  | _, [] => true
  | off, r :: rs => rowOk r off fin n && rowsOk n fin r.off rs
def runOk (n : Nat) (r : RunM) : Bool := decide (0 ≤ r.end_) && rowsOk n r.end_ 0 r.rows
def nrows (rs : List RunM) : Nat := (rs.map fun r => r.rows.length).sum
/-- Why a unit may not be; 0: it may. -/
def faultyL (fs : List (List UInt8)) (rs : List RunM) : Int :=
  if fs.any fileBad = true then 7 else if 100 < fs.length ∨ 64 < rs.length ∨ 16384 < nrows rs then 6 else if rs.all (runOk fs.length) = true then 0 else 1
def lastOff : Int → List RowM → Int
  | off, [] => off
  | _, r :: rs => lastOff r.off rs
def rowB (file line off : Int) (x : RowM) : List UInt8 :=
  (if x.file = file then [] else 4 :: leb 9 x.file.toNat) ++ (if x.line = line then [] else 3 :: sleb 9 (x.line - line)) ++ (if x.off = off then [] else 2 :: leb 9 (x.off - off).toNat) ++ [1]
def rowsB : Int → Int → Int → List RowM → List UInt8
  | _, _, _, [] => []
  | file, line, off, x :: xs => rowB file line off x ++ rowsB x.file x.line x.off xs
def endB (off fin : Int) : List UInt8 := (if off < fin then 2 :: leb 9 (fin - off).toNat else []) ++ [0, 1, 1]
/-- A run's program. -/
def runB (r : RunM) : List UInt8 := [0, 9, 2] ++ (fixed r.at_ 8 ++ (rowsB 1 1 0 r.rows ++ endB (lastOff 0 r.rows) r.end_))
def namesB (fs : List (List UInt8)) : List UInt8 := fs.flatMap fun s => s ++ [0]
def lnHeadB (fs : List (List UInt8)) : List UInt8 := [1, 1, 1, 251, 14, 13, 0, 1, 1, 1, 1, 0, 0, 0, 1, 0, 0, 1, 1, 1, 8, 1, 0, 1, 1, 8] ++ (leb 9 fs.length ++ namesB fs)
/-- What stands ahead of the runs, behind the length. -/
def lnFrontB (fs : List (List UInt8)) : List UInt8 := [5, 0, 8, 0] ++ (fixed (lnHeadB fs).length 4 ++ lnHeadB fs)
def runsB (rs : List RunM) : List UInt8 := rs.flatMap runB
def lnBodyB (fs : List (List UInt8)) (rs : List RunM) : List UInt8 := lnFrontB fs ++ runsB rs
/-- A unit's bytes. -/
def unitB (fs : List (List UInt8)) (rs : List RunM) : List UInt8 := fixed (lnBodyB fs rs).length 4 ++ lnBodyB fs rs
/-- The places of the runs' Ats. -/
def placesB (fs : List (List UInt8)) (rs : List RunM) : List Nat := (List.range rs.length).map fun i => 4 + (lnFrontB fs).length + (runsB (rs.take i)).length + 3
/-- What stands at a place. -/
def Stands (l : List UInt8) (a : Nat) (x : List UInt8) : Prop := ∃ p q, l = p ++ (x ++ q) ∧ p.length = a
theorem Stands.left {l x y : List UInt8} {a : Nat} (h : Stands l a (x ++ y)) : Stands l a x := by
  obtain ⟨p, q, h, e⟩ := h
  exact ⟨p, y ++ q, by rw [h, List.append_assoc], e⟩
theorem Stands.right {l x y : List UInt8} {a : Nat} (h : Stands l a (x ++ y)) : Stands l (a + x.length) y := by
  obtain ⟨p, q, h, e⟩ := h
  exact ⟨p ++ x, q, by rw [h]; simp, by simp [e]⟩
theorem Stands.cons {l y : List UInt8} {c : UInt8} {a : Nat} (h : Stands l a (c :: y)) : Stands l a [c] := Stands.left (x := [c]) h
theorem Stands.tail {l y : List UInt8} {c : UInt8} {a : Nat} (h : Stands l a (c :: y)) : Stands l (a + 1) y := Stands.right (x := [c]) h
theorem Stands.le {l x : List UInt8} {a : Nat} (h : Stands l a x) : a + x.length ≤ l.length := by
  obtain ⟨p, q, rfl, rfl⟩ := h
  simp only [List.length_append]
  omega
theorem Stands.cut {l x : List UInt8} {a : Nat} (h : Stands l a x) : (l.drop a).take x.length = x := by
  obtain ⟨p, q, rfl, rfl⟩ := h
  rw [List.drop_left, List.take_left]
theorem Stands.num {l x : List UInt8} {a s : Nat} (h : Stands l a x) (hx : x.length = s) (hs : Sized s) : gN l a s = numLE x ∧ okB l a s = true := by
  have hl := h.le
  subst s
  exact ⟨by rw [gN_in hs hl, h.cut], by rw [okB_iff hs, decide_eq_true hl]⟩
theorem Stands.byte {l : List UInt8} {a : Nat} {c : UInt8} (h : Stands l a [c]) : gN l a 1 = c.toNat ∧ okB l a 1 = true := by
  obtain ⟨h1, h2⟩ := h.num (s := 1) rfl sz1
  exact ⟨by rw [h1]; simp [numLE], h2⟩
theorem Stands.fix {l : List UInt8} {a n s : Nat} (h : Stands l a (fixed n s)) (hs : Sized s) (hn : n < 256 ^ s) : gN l a s = n ∧ okB l a s = true := by
  obtain ⟨h1, h2⟩ := h.num (length_fixed n s) hs
  exact ⟨by rw [h1, numLE_fixed, Nat.mod_eq_of_lt hn], h2⟩
theorem Stands.leb {l : List UInt8} {a n : Nat} (h : Stands l a (leb 9 n)) (hn : n < 18446744073709551616) : readLebR l a = (n, (Go.Proofs.Ytmpmkjlkhlagfaa.leb 9 n).length, 0) := by
  obtain ⟨p, q, rfl, rfl⟩ := h
  rw [← List.append_assoc]
  exact read_leb p q n hn
theorem Stands.sleb {l : List UInt8} {a : Nat} {n : Int} (h : Stands l a (sleb 9 n)) (h1 : -9223372036854775808 ≤ n) (h2 : n < 9223372036854775808) : readSlebR l a = (n, (Go.Proofs.Ytmpmkjlkhlagfaa.sleb 9 n).length, 0) := by
  obtain ⟨p, q, rfl, rfl⟩ := h
  rw [← List.append_assoc]
  exact read_sleb p q n h1 h2
theorem upto0_app {s r : List UInt8} (h : 0 ∉ s) : upto0 (s ++ 0 :: r) = some s := by
  induction s with
  | nil => rfl
  | cons c s ih =>
    rw [List.cons_append, upto0, if_neg (by intro e; subst e; exact h (by simp)), ih (fun hm => h (by simp [hm]))]
    rfl
theorem Stands.text {l s : List UInt8} {a : Nat} (h : Stands l a (s ++ [0])) (hs : 0 ∉ s) : textR l a = (s, 0) := by
  have hl := h.le
  obtain ⟨p, q, rfl, rfl⟩ := h
  unfold textR
  rw [if_neg (by simp only [List.length_append]; omega), Int.toNat_natCast, List.drop_left, List.append_assoc, List.singleton_append, upto0_app hs]
theorem Stands.whole (l : List UInt8) : Stands l 0 l := ⟨[], [], by simp, rfl⟩
/-- The machine: its header's numbers, its state. -/
structure HeadM where
  step : Nat
  base : Int
  span : Nat
  ops : Nat
  lens : List UInt8
structure StM where
  addr : Nat
  file : Nat
  line : Int
def st0 : StM := ⟨0, 1, 1⟩
def StM.tell (s : StM) (fin : Bool) : EntM := ⟨s.addr, wrap64 s.file, s.line, fin⟩
abbrev m64 (n : Nat) : Nat := n % 18446744073709551616
def HeadM.special (h : HeadM) (s : StM) (op : Nat) : StM := ⟨m64 (s.addr + m64 ((op - h.ops) / h.span * h.step)), s.file, wrap64 (s.line + wrap64 (h.base + ((op - h.ops) % h.span : Nat)))⟩
/-- One opcode: the state, the place, and what is told. -/
inductive OpAt (h : HeadM) (l : List UInt8) (a : Nat) (s : StM) : StM → List EntM → Nat → Prop
  | special (ok : okB l a 1 = true) (op : h.ops ≤ gN l a 1) : OpAt h l a s (h.special s (gN l a 1)) [(h.special s (gN l a 1)).tell false] (a + 1)
  | copy (ok : okB l a 1 = true) (op : gN l a 1 = 1) (lt : 1 < h.ops) : OpAt h l a s s [s.tell false] (a + 1)
  | pc (ok : okB l a 1 = true) (op : gN l a 1 = 2) (lt : 2 < h.ops) (n k : Nat) (r : readLebR l ((a : Int) + 1) = (n, k, 0)) : OpAt h l a s ⟨m64 (s.addr + m64 (n * h.step)), s.file, s.line⟩ [] (a + 1 + k)
  | line (ok : okB l a 1 = true) (op : gN l a 1 = 3) (lt : 3 < h.ops) (n : Int) (k : Nat) (r : readSlebR l ((a : Int) + 1) = (n, k, 0)) : OpAt h l a s ⟨s.addr, s.file, wrap64 (s.line + n)⟩ [] (a + 1 + k)
  | file (ok : okB l a 1 = true) (op : gN l a 1 = 4) (lt : 4 < h.ops) (n k : Nat) (r : readLebR l ((a : Int) + 1) = (n, k, 0)) : OpAt h l a s ⟨s.addr, n, s.line⟩ [] (a + 1 + k)
  | const (ok : okB l a 1 = true) (op : gN l a 1 = 8) (lt : 8 < h.ops) : OpAt h l a s ⟨m64 (s.addr + m64 ((255 - h.ops) / h.span * h.step)), s.file, s.line⟩ [] (a + 1)
  | fin (ok : okB l a 1 = true) (op : gN l a 1 = 0) (lt : 0 < h.ops) (r : readLebR l ((a : Int) + 1) = (1, 1, 0)) (ok2 : okB l (a + 2) 1 = true) (op2 : gN l (a + 2) 1 = 1) : OpAt h l a s st0 [s.tell true] (a + 3)
  | set (ok : okB l a 1 = true) (op : gN l a 1 = 0) (lt : 0 < h.ops) (r : readLebR l ((a : Int) + 1) = (9, 1, 0)) (ok2 : okB l (a + 2) 1 = true) (op2 : gN l (a + 2) 1 = 2) (ok3 : okB l (a + 3) 8 = true) : OpAt h l a s ⟨gN l (a + 3) 8, s.file, s.line⟩ [] (a + 11)
/-- A unit's program, from a place on. -/
inductive RunAt (h : HeadM) (l : List UInt8) : Nat → StM → List EntM → Prop
  | done (s : StM) : RunAt h l l.length s []
  | step {a a' : Nat} {s s' : StM} {t T : List EntM} (lt : a < l.length) (o : OpAt h l a s s' t a') (r : RunAt h l a' s' T) : RunAt h l a s (t ++ T)
inductive TextsAt (l : List UInt8) : Nat → Nat → Nat → Prop
  | done (a : Nat) : TextsAt l 0 a a
  | step {n a e : Nat} {s : List UInt8} (h : textR l a = (s, 0)) (r : TextsAt l n (a + s.length + 1) e) : TextsAt l (n + 1) a e
structure TabAt (l : List UInt8) (a e : Nat) : Prop where
  b0 : okB l a 1 = true ∧ gN l a 1 = 1
  b1 : okB l (a + 1) 1 = true ∧ gN l (a + 1) 1 = 1
  b2 : okB l (a + 2) 1 = true ∧ gN l (a + 2) 1 = 8
  rest : ∃ n k : Nat, readLebR l ((a : Int) + 3) = (n, k, 0) ∧ n ≤ 100 ∧ TextsAt l n (a + 3 + k) e
structure HeadAt (l : List UInt8) (a : Nat) (h : HeadM) (p : Nat) : Prop where
  v : okB l a 2 = true ∧ gN l a 2 = 5
  w8 : okB l (a + 2) 1 = true ∧ gN l (a + 2) 1 = 8
  z : okB l (a + 3) 1 = true ∧ gN l (a + 3) 1 = 0
  size : okB l (a + 4) 4 = true ∧ a + 8 + gN l (a + 4) 4 = p
  step : okB l (a + 8) 1 = true ∧ gN l (a + 8) 1 = h.step
  i1 : okB l (a + 9) 1 = true
  i2 : okB l (a + 10) 1 = true
  base : okB l (a + 11) 1 = true ∧ (if gN l (a + 11) 1 < 128 then (gN l (a + 11) 1 : Int) else (gN l (a + 11) 1 : Int) - 256) = h.base
  span : okB l (a + 12) 1 = true ∧ gN l (a + 12) 1 = h.span ∧ 0 < h.span
  ops : okB l (a + 13) 1 = true ∧ gN l (a + 13) 1 = h.ops ∧ 0 < h.ops
  lens : h.lens.length = h.ops - 1
  len : ∀ i, i < h.ops - 1 → okB l (a + 14 + i) 1 = true ∧ gN l (a + 14 + i) 1 = (h.lens[i]?.getD 0).toNat
  tabs : ∃ m, TabAt l (a + 14 + (h.ops - 1)) m ∧ TabAt l m p
inductive UnitsAt (l : List UInt8) : Nat → List EntM → Prop
  | done : UnitsAt l l.length []
  | unit {a p e : Nat} {h : HeadM} {t T : List EntM} (lt : a < l.length) (ok : okB l a 4 = true) (he : e = a + 4 + gN l a 4) (le : e ≤ l.length) (hd : HeadAt (l.take e) (a + 4) h p) (pr : RunAt h (l.take e) p st0 t) (r : UnitsAt l e T) : UnitsAt l a (t ++ T)
end Go.Proofs.Ytmpmkjlkhlagfaa
namespace Go.Proofs.Ytmpmkjlkhlagfaa
open Go.RowKit Go.Fd
theorem TD : SliceT Try.prog 52 5 1 1 := SliceT.mk' (z := .int .u8 0) (by kernel_rfl) (by kernel_rfl) rfl (by omega)
/-- A draft's bytes behind a pointer. -/
def DrAt (w : World) (base g : Nat) (l : List UInt8) : Prop := ∃ v, w.heap[g]? = some (.cells #[v] 52 (0, 0)) ∧ base ≤ g ∧ OB w base v l
theorem DrAt.mono {w w' : World} {base g : Nat} {l : List UInt8} (h : DrAt w base g l) (hb : Below w.heap.size w w') : DrAt w' base g l := by
  obtain ⟨v, h1, h2, h3⟩ := h
  exact ⟨v, heap_below hb h1, h2, h3.mono hb⟩
theorem wpList_catD {ops : Array Oper} {rest : List Oper} {Q : Exit → Act → World → Prop} {a : Act} {w : World} {d : Option Tmp} {ty : TypeId} {pos : String} {aft : Array Edge} {s x : Operand} {v u : Value} {base : Nat} {l m : List UInt8} (hown : OB w base v l) (hy : Bs w u m)
    (hs : a.eval s = v) (hx : a.eval x = u) (hn : l.length + m.length ≤ 140737488355328) (hb : base ≤ w.heap.size)
    (h : ∀ v' w', OB w' base v' (l ++ m) → w.grownBy w' v.ownBlock → wpList Try.prog ops Q rest (a.put d v') w') :
    wpList Try.prog ops Q (⟨d, .call { callee := .builtin .append, args := #[s, x], argTypes := #[52, 26] }, ty, pos, aft, none⟩ :: rest) a w := by
  obtain ⟨v', w', hrun, h6, h7⟩ := run_cat (ty := ty) TD hown hy hn hb
  obtain ⟨m0, ad, cap, hm, rfl, _, _⟩ := hown.shape
  refine wpList_val (v := v') (w' := w') rfl ?_ (h v' w' h6 h7)
  have hr2 := (append_types (P := Try.prog) (w := w) (ty := ty) (b := ad) (n := m0) (c := cap) (x := u) TD.ht TB.ht).trans hrun
  simp [execOp, resolve, invoke, builtin, hs, hx, hr2, Result.andThen]
theorem wpList_storeD {ops : Array Oper} {rest : List Oper} {Q : Exit → Act → World → Prop} {a : Act} {w : World} {d : Option Tmp} {ty : TypeId} {pos : String} {aft : Array Edge} {p x : Operand} {g base : Nat} {v u : Value} {l : List UInt8} (hg : w.heap[g]? = some (.cells #[u] 52 (0, 0))) (hb : base ≤ g) (ho : OB w base v l) (hp : a.eval p = .pointer (some ⟨g, 0, none⟩)) (hx : a.eval x = v) (hbw : base ≤ w.heap.size)
    (h : ∀ w1, DrAt w1 base g l → Below base w w1 → KeepF g w w1 → wpList Try.prog ops Q rest (a.put d undef) w1) :
    wpList Try.prog ops Q (⟨d, .store 52 p x, ty, pos, aft, none⟩ :: rest) a w := by
  have hc : w.cell? ⟨g, 0, none⟩ = some u := cell_rec hg 0
  have hfz := free_rec' hg 0
  have hst : Stirs (fun k => k = g) w (w.setCell ⟨g, 0, none⟩ v) := stirs_setCell (S := fun k => k = g) _ g 0 _ rfl
  obtain ⟨m, ad, cap, hm, rfl, _, _⟩ := ho.shape
  refine wpList_did (w' := w.setCell ⟨g, 0, none⟩ (.slice ad m cap)) rfl ?_ (h _ ⟨.slice ad m cap, ?_, hb, ?_⟩ ?_ ?_)
  · simp only [execOp, hp, hx]
    simp [go_sem, hc, hfz]
  · simp [World.setCell, Array.getElem?_modify, hg]
  · exact owns_stirs ho hst (ob_apart ho hg (by decide))
  · exact hst.below hbw (fun k hk => by rw [hk]; exact hb)
  · intro b cs e fr hbg he hh
    simp [World.setCell, Array.getElem?_modify, Ne.symm hbg, hh]
set_option maxRecDepth 100000 in
theorem putD_any (g base : Nat) (l m : List UInt8) (u : Value) (w : World) (hd : DrAt w base g l) (hu : Bs w u m) (hn : l.length + m.length ≤ 140737488355328) (hbase : base ≤ w.heap.size) :
    Calls Try.prog 18 #[.pointer (some ⟨g, 0, none⟩), u] w fun r w' => r = .returned (.tuple #[]) ∧ DrAt w' base g (l ++ m) ∧ Below base w w' ∧ KeepF g w w' := by
  obtain ⟨v, hg, hbg, hov⟩ := hd
  have HG := Lib.hid hg
  have HO := Lib.hid hov
  have HU := Lib.hid hu
  obtain ⟨m0, ad, cap, hm, rfl, _, _⟩ := hu.shape
  obtain ⟨m1, ad1, cap1, hm1, rfl, _, _⟩ := hov.shape
  have c0 := cell_rec hg 0
  simp only [List.getElem?_toArray, List.getElem?_cons_zero] at c0
  clear hg hov hu hm hm1
  go_enter Try.func18, Try.ntmps18
  go_wp2_with (first
    | (at_builtin; go_must (refine wpList_catD HO.out HU.out rfl rfl hn hbase ?_; intro v1 w1 hv1 hg1; have HB1 := Lib.hid (below_of_grown hg1 hbase (fun k hk => (World.ownsRow.lt HO.out k hk).1)); have HK1 := Lib.hid (KeepF.of (g := g) (keeps_own HO.out hg1)); have HG1 := Lib.hid (keeps_own HO.out hg1 _ _ _ _ (by decide) HG.out); have HV1 := Lib.hid hv1; clear hv1 hg1 c0))
    | ((with_reducible show wpList _ _ _ (⟨none, .store _ _ _, _, _, _, _⟩ :: _) _ _); go_must (refine wpList_storeD HG1.out hbg HV1.out rfl rfl (Nat.le_trans hbase HB1.out.size) ?_; intro w2 hd2 hb2 hk2; have HD2 := Lib.hid hd2; have HB2 := Lib.hid (HB1.out.trans hb2); have HK2 := Lib.hid (HK1.out.trans hk2); clear hd2 hb2 hk2)))
  go_end0
  exact ⟨rfl, HD2.out, HB2.out, HK2.out⟩
end Go.Proofs.Ytmpmkjlkhlagfaa
