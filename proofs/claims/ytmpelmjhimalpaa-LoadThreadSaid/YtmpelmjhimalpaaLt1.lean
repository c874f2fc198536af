/-
  Part 1 of 4: laws and walks for loadThread_holds; no condition of its own.
-/
import Derived.WalkKit
import Derived.WalkSpells
import Derived.WalkLawsBesides
import Derived.Lib.Hide
import Derived.Laws.AppendOwnNone
import Derived.Test.YtmpelmjhimalpaaProg
import Derived.BigQuiet
import Derived.Deep.QuietTactic
import Derived.Maps.RangeWalk
import Derived.Maps.OwnSet
import Derived.Maps.OwnOps
import Derived.Laws.BitsAllLaws
import Derived.Lib.AppendStr
import Derived.Orders
import Derived.Lib.BytesEntry
import Derived.Shelf.Strings.Search1
import Derived.Shelf.Strings.Search2
import Derived.Shelf.Strings.Search3
import Derived.Shelf.LaysM
import Derived.Shelf.Strings.Shaped
import Derived.Shelf.Bytes.SlIndexAt
import Derived.Shelf.Bytes.SlSearch0
import Derived.Shelf.Bytes.SlEqualAll
import Derived.Shelf.Bytes.Small
import Derived.Shelf.Bytes.IndexByte
import Derived.Lib.IndexAny
import Derived.Lib.IndexLaws
import Derived.Lib.IndexBytes
import Derived.Lib.ConvBytes
import Derived.ArgAppend
namespace Go.Fd
open Go.RowKit
/-- The slice value v has n elements of 'size' cells each, and its cells in w are xs. -/
def Reads (w : World) (size : Nat) (v : Value) (n : Nat) (xs : List Value) : Prop :=
  xs.length = n * size ∧ ∃ a cap, v = .slice a n cap ∧ n ≤ cap ∧ (a = none → cap = 0) ∧ ∀ j, j < xs.length → ∃ b off, a = some ⟨b, off, none⟩ ∧ w.cell? ⟨b, off + j, none⟩ = xs[j]?
/-- What is needed of a slice type. -/
structure SliceT (P : Program) (t e size bytes : Nat) : Prop where
  ht : P.underlying t = some (.slice e)
  pos : 0 < size
  info : ∃ i z, P.info? e = some i ∧ i.zero = some z ∧ i.size = size ∧ i.bytes = bytes ∧ z.cells.size = size
theorem SliceT.mk' {P : Program} {t e size bytes : Nat} {z : Value} (ht : P.underlying t = some (.slice e)) (hi : (P.info? e).map (fun i => (i.zero, i.size, i.bytes)) = some (some z, size, bytes))
    (hz : z.cells.size = size) (hp : 0 < size) : SliceT P t e size bytes := by
  obtain ⟨i, h1, h2, h3, h4⟩ := info_parts hi
  exact ⟨ht, hp, i, z, h1, h2, h3, h4, hz⟩
theorem block_lt {w : World} {b o : Nat} {v : Value} (h : w.cell? ⟨b, o, none⟩ = some v) : b < w.heap.size := World.block_lt_of_cell? w ⟨b, o, none⟩ h
theorem Reads.mono {w w' : World} {size n : Nat} {v : Value} {xs : List Value} (h : Reads w size v n xs) (hb : Below w.heap.size w w') : Reads w' size v n xs := by
  obtain ⟨h1, a, cap, h2, h3, h0, h4⟩ := h
  refine ⟨h1, a, cap, h2, h3, h0, fun j hj => ?_⟩
  obtain ⟨b, off, e1, e2⟩ := h4 j hj
  refine ⟨b, off, e1, ?_⟩
  rw [hb.cell (p := ⟨b, off + j, none⟩) (block_lt (e2.trans (List.getElem?_eq_getElem hj)))]
  exact e2
theorem Reads.shape {w : World} {size n : Nat} {v : Value} {xs : List Value} (h : Reads w size v n xs) : ∃ m a cap, Hid (m = n) ∧ v = .slice a m cap ∧ m ≤ cap ∧ (a = none → cap = 0) := by
  obtain ⟨h1, a, cap, h2, h3, h0, h4⟩ := h
  exact ⟨n, a, cap, rfl, h2, h3, h0⟩
theorem Reads.of_owns {w : World} {base e size n : Nat} {v : Value} {xs : List Value} (h : w.ownsRow base e size v n xs) : Reads w size v n xs := by
  refine ⟨h.1, ?_⟩
  rcases h.2 with ⟨rfl, rfl⟩ | ⟨g, cap, cur, rfl, hb, hg, hn, hc, hs, ht⟩
  · exact ⟨none, 0, rfl, Nat.le_refl _, fun _ => rfl, fun j hj => by rw [h.1] at hj; simp at hj⟩
  · refine ⟨_, cap, rfl, hn, (fun h => by cases h), fun j hj => ⟨g, 0, rfl, ?_⟩⟩
    have := h.cellAt (g := g) (cap := cap) j (by rw [← h.1]; exact hj)
    rw [Nat.zero_add]; exact this
theorem Reads.nil (w : World) (size : Nat) : Reads w size (.slice none 0 0) 0 [] := ⟨by simp, none, 0, rfl, Nat.le_refl _, fun _ => rfl, fun j hj => by simp at hj⟩
/-- What is owned stays owned where nothing that was there has turned. -/
theorem owns_mono {w w' : World} {base e size n : Nat} {v : Value} {xs : List Value} (h : w.ownsRow base e size v n xs) (hb : Below w.heap.size w w') : w'.ownsRow base e size v n xs := by
  refine ⟨h.1, ?_⟩
  rcases h.2 with h2 | ⟨g, cap, cur, hv, hg, hh, r⟩
  · exact .inl h2
  · exact .inr ⟨g, cap, cur, hv, hg, by rw [hb.block g (Array.getElem?_eq_some_iff.1 hh).1]; exact hh, r⟩
theorem owns_base {w : World} {base base' e size n : Nat} {v : Value} {xs : List Value} (h : w.ownsRow base e size v n xs) (hb : base' ≤ base) : w.ownsRow base' e size v n xs := by
  refine ⟨h.1, ?_⟩
  rcases h.2 with h2 | ⟨g, cap, cur, hv, hg, r⟩
  · exact .inl h2
  · exact .inr ⟨g, cap, cur, hv, Nat.le_trans hb hg, r⟩
/-- An owned slice's growth leaves all below its base alone. -/
theorem owns_below {w w' : World} {base e size n : Nat} {v : Value} {xs : List Value} (h : w.ownsRow base e size v n xs) (hg : w.grownBy w' v.ownBlock) (hb : base ≤ w.heap.size) : Below base w w' :=
  (Below.refl base w).grown hg hb fun k hk => (h.lt k hk).1
theorem below_alloc (w : World) (o : Obj) : Below w.heap.size w (w.alloc o) := (Below.refl _ _).alloc (Nat.le_refl _) o
theorem grown_of_alloc {w w' : World} {o : Obj} {row : Option Nat} (hg : (w.alloc o).grownBy w' row) : w.grownBy w' row :=
  ⟨hg.os, hg.tape, hg.output, Nat.le_trans (by simp) hg.size, fun k hk hr => (hg.block k (by simp; omega) hr).trans (Below.heap_alloc w o k hk)⟩
theorem maxLen_of {n : Nat} (h : n ≤ 140737488355328) : n ≤ maxLen := by unfold maxLen; omega
section
variable {P : Program} {ops : Array Oper} {rest : List Oper} {Q : Exit → Act → World → Prop} {a : Act} {w : World}
theorem oneCell_list {xs : List Value} (h : xs.all (·.oneCell') = true) : ∀ u ∈ xs, u.oneCell' = true := by simpa using h
/-- 'v = append(v, x)': one element, out of the new block that holds it. -/
theorem wpList_push {t e size bytes : Nat} (T : SliceT P t e size bytes) {d : Option Tmp} {ty : TypeId} {pos : String} {aft : Array Edge} {s x : Operand} {v : Value} {n base : Nat} {xs : List Value} (hown : w.ownsRow base e size v n xs)
    (hs : a.eval s = v) (hx : a.eval x = .slice (some ⟨w.heap.size, 0, none⟩) 1 1) {cs : Array Value} (hcs : cs.size = size) (h1 : cs.toList.all (·.oneCell') = true)
    (hn : (n + 1) * bytes ≤ 140737488355328) (hm : n + 1 ≤ 140737488355328) (hb : base ≤ w.heap.size)
    (h : ∀ v' w', w'.ownsRow base e size v' (n + 1) (xs ++ cs.toList) → w.grownBy w' v.ownBlock → Below base w w' → wpList P ops Q rest (a.put d v') w') :
    wpList P ops Q (⟨d, .call { callee := .builtin .append, args := #[s, x], argTypes := #[t, t] }, ty, pos, aft, none⟩ :: rest) a (w.alloc (.cells cs e)) := by
  obtain ⟨i, z, h1', h2, h3, h4, h5⟩ := T.info
  refine wpList_append_own _ rfl s x t rfl base e i z size bytes T.ht h1' h2 h3 h4 h5 T.pos v n xs hs (hown.alloc _) ⟨w.heap.size, 0, none⟩ 1 1 cs.toList hx (by simp [hcs]) ?_ (oneCell_list h1) (maxLen_of hm) hn (by simp; omega) ?_
  · intro j u hj
    have e1 : (⟨w.heap.size, 0, none⟩ : Addr).add j = ⟨w.heap.size, j, none⟩ := by unfold Addr.add; split <;> simp_all
    rw [e1]
    simp only [World.cell?]
    rw [show (w.alloc (.cells cs e)).heap[w.heap.size]? = some (.cells cs e) from heap_alloc_new w _]
    simpa using hj
  · intro v' w' ho hg _
    exact h v' w' ho (grown_of_alloc hg) (owns_below hown (grown_of_alloc hg) hb)
/-- 'v = append(v, x...)': whatever slice x is. -/
theorem wpList_cat {t e size bytes : Nat} (T : SliceT P t e size bytes) {d : Option Tmp} {ty : TypeId} {pos : String} {aft : Array Edge} {s x : Operand} {v : Value} {n base : Nat} {xs : List Value} (hown : w.ownsRow base e size v n xs)
    {u : Value} {m : Nat} {ys : List Value} (hy : Reads w size u m ys) (hs : a.eval s = v) (hx : a.eval x = u) (h1 : ys.all (·.oneCell') = true)
    (hn : (n + m) * bytes ≤ 140737488355328) (hm : n + m ≤ 140737488355328) (hb : base ≤ w.heap.size)
    (h : ∀ v' w', w'.ownsRow base e size v' (n + m) (xs ++ ys) → w.grownBy w' v.ownBlock → Below base w w' → wpList P ops Q rest (a.put d v') w') :
    wpList P ops Q (⟨d, .call { callee := .builtin .append, args := #[s, x], argTypes := #[t, t] }, ty, pos, aft, none⟩ :: rest) a w := by
  obtain ⟨i, z, h1', h2, h3, h4, h5⟩ := T.info
  obtain ⟨hl, au, cap, rfl, hcap, h00, hc⟩ := hy
  rcases au with _ | ad
  · have hm0 : m * size = 0 := by
      rcases Nat.eq_zero_or_pos (m * size) with h0 | h0
      · exact h0
      · obtain ⟨b, off, h', _⟩ := hc 0 (by omega); cases h'
    have hys : ys = [] := List.eq_nil_of_length_eq_zero (by omega)
    subst hys
    have hm0' : m = 0 := by
      have := T.pos
      rcases Nat.mul_eq_zero.1 hm0 with h | h <;> omega
    subst hm0'
    obtain rfl := h00 rfl
    refine wpList_append_own_none rfl s x t rfl base e i size T.ht h1' v n xs hs hown hx ?_
    simpa using h v w (by simpa using hown) (World.grownBy.refl _ _) (Below.refl _ _)
  · refine wpList_append_own _ rfl s x t rfl base e i z size bytes T.ht h1' h2 h3 h4 h5 T.pos v n xs hs hown ad m cap ys hx hl ?_ (oneCell_list h1) (maxLen_of hm) hn hb ?_
    · intro j y hj
      have hlt : j < ys.length := (List.getElem?_eq_some_iff.1 hj).1
      obtain ⟨b, off, e1, e2⟩ := hc j hlt
      cases e1
      have e3 : (⟨b, off, none⟩ : Addr).add j = ⟨b, off + j, none⟩ := by unfold Addr.add; split <;> simp_all
      rw [e3, e2, hj]
    · intro v' w' ho hg _
      exact h v' w' ho hg (owns_below hown hg hb)
theorem wpList_val {o : Oper} {v : Value} {w' : World} (hg : Region.wanted o (yielded ops a.tmps) = true) (hr : (execOp a.eval o).run P w = .ok (.value v) w') (h : wpList P ops Q rest (a.put o.dst v) w') :
    wpList P ops Q (o :: rest) a w := by
  unfold wpList
  rw [if_pos hg]
  refine .inl ?_
  unfold Oper.wp Oper.upon
  rw [hr]
  exact h
theorem wpList_did {o : Oper} {w' : World} (hg : Region.wanted o (yielded ops a.tmps) = true) (hr : (execOp a.eval o).run P w = .ok .skip w') (h : wpList P ops Q rest (a.put o.dst undef) w') :
    wpList P ops Q (o :: rest) a w := by
  unfold wpList
  rw [if_pos hg]
  refine .inl ?_
  unfold Oper.wp Oper.upon
  rw [hr]
  exact h
theorem run_sliceBound' (k : IntKind) (i : Int) (y : Nat) (code : BoundsCode) (h0 : 0 ≤ i) (h1 : i ≤ y) : (Instr.sliceBound (.int k i) y code).run P w = .ok i.toNat w := by
  simp [Instr.sliceBound, asIntOf, h0, h1]
/-- Where a slice's part begins. -/
def partAt (a : Option Addr) (size cap l : Nat) : Option Addr := if cap = l then a else a.map (·.add (l * size))
theorem Reads.part {size n : Nat} {a : Option Addr} {cap : Nat} {xs : List Value} (hl : xs.length = n * size) (hn : n ≤ cap) (h00 : a = none → cap = 0)
    (hc : ∀ j, j < xs.length → ∃ b off, a = some ⟨b, off, none⟩ ∧ w.cell? ⟨b, off + j, none⟩ = xs[j]?) (i j : Nat) (hij : i ≤ j) (hj : j ≤ n) :
    Reads w size (.slice (partAt a size cap i) (j - i) (cap - i)) (j - i) ((xs.drop (i * size)).take ((j - i) * size)) := by
  have hle : i * size + (j - i) * size ≤ n * size := by rw [← Nat.add_mul]; exact Nat.mul_le_mul_right _ (by omega)
  refine ⟨by rw [List.length_take, List.length_drop, hl]; omega, _, _, rfl, by omega, ?_, ?_⟩
  · intro h
    unfold partAt at h
    split at h
    · omega
    · cases a with
      | none => have := h00 rfl; omega
      | some x => simp at h
  · intro t ht
    rw [List.length_take, List.length_drop, hl] at ht
    obtain ⟨b, off, e1, e2⟩ := hc (i * size + t) (by omega)
    subst e1
    have hne : cap ≠ i := by
      intro e
      have : j - i = 0 := by omega
      rw [this] at ht
      omega
    refine ⟨b, off + i * size, ?_, ?_⟩
    · unfold partAt
      rw [if_neg hne]
      simp only [Option.map_some, Addr.add]
      split
      · next h => rw [h]; rfl
      · rfl
    · rw [Nat.add_assoc, e2, List.getElem?_take, if_pos (by omega), List.getElem?_drop]
/-- 'x[i:j]' of a slice. -/
theorem run_sliceAt {t e size bytes : Nat} (T : SliceT P t e size bytes) {v : Value} {n : Nat} {xs : List Value} (hv : Reads w size v n xs) {i j : Int} {k k' : IntKind} (h0 : 0 ≤ i) (h1 : i ≤ j) (h2 : j ≤ n) :
    ∃ v', (∀ w', (Instr.sliceAt t v (some (.int k i)) (some (.int k' j)) none).run P w' = .ok v' w') ∧ Reads w size v' (j - i).toNat ((xs.drop (i.toNat * size)).take ((j - i).toNat * size)) := by
  obtain ⟨hl, a, cap, rfl, hcap, h00, hc⟩ := hv
  obtain ⟨ti, z, e1, e2, e3, e4, e5⟩ := T.info
  refine ⟨.slice (partAt a size cap i.toNat) (j - i).toNat (cap - i.toNat), fun w' => ?_, ?_⟩
  · have r1 : (Instr.sliceBound (.int k' j) cap .sliceAcap).run P w' = .ok j.toNat w' := run_sliceBound' _ _ _ _ (by omega) (by omega)
    have r2 : (Instr.sliceBound (.int k i) j.toNat .sliceB).run P w' = .ok i.toNat w' := run_sliceBound' _ _ _ _ (by omega) (by omega)
    have e6 : j.toNat - i.toNat = (j - i).toNat := by omega
    simp [Instr.sliceAt, Instr.slice, run_underlying T.ht, Instr.sliceBounds, r1, r2, sizeOf, typeInfo, e1, e3, partAt, e6]
  · have := Reads.part hl hcap h00 hc i.toNat j.toNat (by omega) (by omega)
    rw [show j.toNat - i.toNat = (j - i).toNat by omega] at this
    exact this
theorem run_sliceFrom {t e size bytes : Nat} (T : SliceT P t e size bytes) {v : Value} {n : Nat} {xs : List Value} (hv : Reads w size v n xs) {i : Int} {k : IntKind} (h0 : 0 ≤ i) (h1 : i ≤ n) :
    ∃ v', (∀ w', (Instr.sliceAt t v (some (.int k i)) none none).run P w' = .ok v' w') ∧ Reads w size v' (n - i).toNat (xs.drop (i.toNat * size)) := by
  obtain ⟨hl, a, cap, rfl, hcap, h00, hc⟩ := hv
  obtain ⟨ti, z, e1, e2, e3, e4, e5⟩ := T.info
  refine ⟨.slice (partAt a size cap i.toNat) (n - i).toNat (cap - i.toNat), fun w' => ?_, ?_⟩
  · have r2 : (Instr.sliceBound (.int k i) n .sliceB).run P w' = .ok i.toNat w' := run_sliceBound' _ _ _ _ (by omega) (by omega)
    have e6 : n - i.toNat = ((n : Int) - i).toNat := by omega
    simp [Instr.sliceAt, Instr.slice, run_underlying T.ht, Instr.sliceBounds, r2, sizeOf, typeInfo, e1, e3, partAt, e6]
  · have h := Reads.part hl hcap h00 hc i.toNat n (by omega) (Nat.le_refl _)
    rw [show n - i.toNat = ((n : Int) - i).toNat by omega, List.take_of_length_le (by rw [List.length_drop, hl, ← Nat.sub_mul]; exact Nat.mul_le_mul_right _ (by omega))] at h
    exact h
theorem exec_slice2 {v v' i j : Value} {d : Option Tmp} {t ty : TypeId} {pos : String} {aft : Array Edge} {g : Option (Nat × Bool)} {x lo hi : Operand} (hr : ∀ w', (Instr.sliceAt t v (some i) (some j) none).run P w' = .ok v' w')
    (hx : a.eval x = v) (hlo : a.eval lo = i) (hhi : a.eval hi = j) : (execOp a.eval ⟨d, .slice t x (some lo) (some hi) none, ty, pos, aft, g⟩).run P w = .ok (.value v') w := by
  simp [execOp, hx, hlo, hhi, hr]
theorem exec_sliceFrom {v v' i : Value} {d : Option Tmp} {t ty : TypeId} {pos : String} {aft : Array Edge} {g : Option (Nat × Bool)} {x lo : Operand} (hr : ∀ w', (Instr.sliceAt t v (some i) none none).run P w' = .ok v' w')
    (hx : a.eval x = v) (hlo : a.eval lo = i) : (execOp a.eval ⟨d, .slice t x (some lo) none none, ty, pos, aft, g⟩).run P w = .ok (.value v') w := by
  simp [execOp, hx, hlo, hr]
theorem below_grown {w w' : World} (hg : w.grownBy w' none) : Below w.heap.size w w' := ⟨hg.os, hg.tape, hg.output, hg.size, fun k hk => hg.block k hk (by simp)⟩
/-- 'make([]T, n)'. -/
theorem wpList_makeN {t e size bytes : Nat} (T : SliceT P t e size bytes) {z : Value} (hz : ∀ i, P.info? e = some i → i.zero = some z) {d : Option Tmp} {ty : TypeId} {pos : String} {aft : Array Edge} {x y : Operand} (n : Nat) {k k' : IntKind} {l c : Int} (hl : a.eval x = .int k l) (hc : a.eval y = .int k' c) (hn' : l = n) (hn : c = n)
    (hb : bytes * n ≤ 281474976710656) (hm : n ≤ 140737488355328)
    (h : ∀ v' w', w'.ownsRow w.heap.size e size v' n (madeCells z.cells (n * size)).toList → Below w.heap.size w w' → wpList P ops Q rest (a.put d v') w') :
    wpList P ops Q (⟨d, .makeSlice t x y, ty, pos, aft, none⟩ :: rest) a w := by
  obtain ⟨i, z', h1, h2, h3, h4, h5⟩ := T.info
  obtain rfl : z' = z := by have := hz i h1; rw [h2] at this; exact Option.some.inj this
  exact wpList_make_full w rfl x y t rfl w.heap.size e i z' size T.ht h1 h2 h3 k k' l c n hl hc hn' hn (by rw [h4]; exact hb) (maxLen_of hm) (Nat.le_refl _) fun w' r1 r2 => h _ _ r1 (below_grown r2)
theorem below_of_grown {w w' : World} {row : Option Nat} {B : Nat} (h : w.grownBy w' row) (hB : B ≤ w.heap.size) (hr : ∀ k, row = some k → B ≤ k) : Below B w w' :=
  (Below.refl B w).grown h hB hr
end
end Go.Fd
namespace Go.Proofs.Ytmpelmjhimalpaa
open Go.RowKit Go.Fd
/-- A byte as the model holds it. -/
abbrev B (c : UInt8) : Value := .int .u8 (c.toNat : Int)
/-- v reads as the bytes l. -/
def Bs (w : World) (v : Value) (l : List UInt8) : Prop := Reads w 1 v l.length (l.map B)
/-- v owns the bytes l, in a block from 'base' on. -/
def OB (w : World) (base : Nat) (v : Value) (l : List UInt8) : Prop := w.ownsRow base 5 1 v l.length (l.map B)
theorem TB : SliceT Try.prog 22 5 1 1 := SliceT.mk' (z := .int .u8 0) (by kernel_rfl) (by kernel_rfl) rfl (by omega)
theorem OB.bs {w : World} {base : Nat} {v : Value} {l : List UInt8} (h : OB w base v l) : Bs w v l := Reads.of_owns h
theorem OB.nil (w : World) (base : Nat) : OB w base (.slice none 0 0) [] := World.ownsRow_nil _ _ _ _
theorem Bs.nil (w : World) : Bs w (.slice none 0 0) [] := Reads.nil w 1
theorem Bs.mono {w w' : World} {v : Value} {l : List UInt8} (h : Bs w v l) (hb : Below w.heap.size w w') : Bs w' v l := Reads.mono h hb
theorem OB.mono {w w' : World} {base : Nat} {v : Value} {l : List UInt8} (h : OB w base v l) (hb : Below w.heap.size w w') : OB w' base v l := owns_mono h hb
theorem OB.base {w : World} {base base' : Nat} {v : Value} {l : List UInt8} (h : OB w base v l) (hb : base' ≤ base) : OB w base' v l := owns_base h hb
/-- A byte slice, opened for a walk. -/
theorem Bs.open {w : World} {v : Value} {l : List UInt8} (h : Bs w v l) : ∃ a cap, v = .slice a l.length cap ∧ l.length ≤ cap ∧ (a = none → cap = 0) ∧
    ∀ i, i < l.length → ∃ b off, a = some ⟨b, off, none⟩ ∧ w.cell? ⟨b, off + i, none⟩ = some (.int .u8 (l[i]?.getD 0).toNat) := by
  obtain ⟨h1, a, cap, h2, h3, h0, h4⟩ := h
  refine ⟨a, cap, h2, h3, h0, fun i hi => ?_⟩
  obtain ⟨b, off, e1, e2⟩ := h4 i (by simpa using hi)
  refine ⟨b, off, e1, e2.trans ?_⟩
  simp [List.getElem?_map, List.getElem?_eq_getElem hi]
theorem OB.open {w : World} {base : Nat} {v : Value} {l : List UInt8} (h : OB w base v l) (hl : 0 < l.length) : ∃ g cap, v = .slice (some ⟨g, 0, none⟩) l.length cap ∧ base ≤ g ∧ g < w.heap.size ∧ l.length ≤ cap ∧
    (∀ i, i < l.length → w.cell? ⟨g, i, none⟩ = some (.int .u8 (l[i]?.getD 0).toNat)) ∧ (∀ i, w.frozen? ⟨g, i, none⟩ = false) := by
  obtain ⟨h1, h2⟩ := id h
  rcases h2 with ⟨rfl, h0⟩ | ⟨g, cap, cur, rfl, hb, hg, hn, hc, hs, ht⟩
  · omega
  · refine ⟨g, cap, rfl, hb, (Array.getElem?_eq_some_iff.1 hg).1, hn, fun i hi => ?_, fun i => ?_⟩
    · rw [World.ownsRow.cellAt h i (by simpa using hi)]
      simp [List.getElem?_map, List.getElem?_eq_getElem hi]
    · exact World.ownsRow.frozenAt h i
theorem OB.stored {w : World} {base g cap : Nat} {l : List UInt8} (h : OB w base (.slice (some ⟨g, 0, none⟩) l.length cap) l) (j : Nat) (c : UInt8) :
    OB (w.setCell ⟨g, j, none⟩ (.int .u8 c.toNat)) base (.slice (some ⟨g, 0, none⟩) l.length cap) (l.set j c) := by
  have := (World.ownsRow.stored h j (B c)).1
  unfold OB
  rw [List.length_set, List.map_set]
  exact this
theorem Bs.shape {w : World} {v : Value} {l : List UInt8} (h : Bs w v l) : ∃ m a cap, Hid (m = l.length) ∧ v = .slice a m cap ∧ m ≤ cap ∧ (a = none → cap = 0) := Reads.shape h
theorem OB.shape {w : World} {base : Nat} {v : Value} {l : List UInt8} (h : OB w base v l) : ∃ m a cap, Hid (m = l.length) ∧ v = .slice a m cap ∧ m ≤ cap ∧ (a = none → cap = 0) := h.bs.shape
/-- A string as the model holds it. -/
abbrev S (l : List UInt8) : Value := .string ⟨l.toArray⟩
theorem take_snoc' {α : Type} (g : List α) (i : Nat) (d : α) (h : g[i]? = some d) : g.take (i + 1) = g.take i ++ [d] := by
  obtain ⟨h1, h2⟩ := List.getElem?_eq_some_iff.1 h
  rw [List.take_succ_eq_append_getElem h1, h2]
theorem u8_of (x : Nat) : (UInt8.ofNat x).toNat = x % 256 := by simp
section
variable {ops : Array Oper} {rest : List Oper} {Q : Exit → Act → World → Prop} {a : Act} {w : World}
theorem wpList_pushB {d : Option Tmp} {ty : TypeId} {pos : String} {aft : Array Edge} {s x : Operand} {v : Value} {base : Nat} {l : List UInt8} (hown : OB w base v l)
    (hs : a.eval s = v) (hx : a.eval x = .slice (some ⟨w.heap.size, 0, none⟩) 1 1) {k : Int} (c : UInt8) (hc : k = c.toNat) (hn : l.length + 1 ≤ 140737488355328) (hb : base ≤ w.heap.size)
    (h : ∀ v' w', OB w' base v' (l ++ [c]) → w.grownBy w' v.ownBlock → Below base w w' → wpList Try.prog ops Q rest (a.put d v') w') :
    wpList Try.prog ops Q (⟨d, .call { callee := .builtin .append, args := #[s, x], argTypes := #[22, 22] }, ty, pos, aft, none⟩ :: rest) a (w.alloc (.cells #[.int .u8 k] 5)) := by
  refine wpList_push TB hown hs hx rfl rfl (by omega) hn hb fun v' w' h1 h2 h3 => h v' w' ?_ h2 h3
  unfold OB
  rw [List.length_append, List.map_append]
  subst hc
  exact h1
theorem allB (l : List UInt8) : (l.map B).all (·.oneCell') = true := by
  rw [List.all_eq_true]
  intro x hx
  obtain ⟨c, _, rfl⟩ := List.mem_map.1 hx
  rfl
theorem wpList_catB {d : Option Tmp} {ty : TypeId} {pos : String} {aft : Array Edge} {s x : Operand} {v u : Value} {base : Nat} {l m : List UInt8} (hown : OB w base v l) (hy : Bs w u m)
    (hs : a.eval s = v) (hx : a.eval x = u) (hn : l.length + m.length ≤ 140737488355328) (hb : base ≤ w.heap.size)
    (h : ∀ v' w', OB w' base v' (l ++ m) → w.grownBy w' v.ownBlock → Below base w w' → wpList Try.prog ops Q rest (a.put d v') w') :
    wpList Try.prog ops Q (⟨d, .call { callee := .builtin .append, args := #[s, x], argTypes := #[22, 22] }, ty, pos, aft, none⟩ :: rest) a w := by
  refine wpList_cat TB hown hy hs hx (allB _) (by omega) hn hb fun v' w' h1 h2 h3 => h v' w' ?_ h2 h3
  unfold OB
  rw [List.length_append, List.map_append]
  exact h1
theorem made_zeros (n : Nat) : (madeCells (Value.int .u8 0).cells (n * 1)).toList = (List.replicate n (0 : UInt8)).map B := by
  rw [Nat.mul_one]
  apply List.ext_getElem?
  intro i
  by_cases h : i < n
  · simp [madeCells, Value.cells, h, Nat.mod_one]
  · simp [madeCells, h]
/-- 'make([]byte, n)'. -/
theorem wpList_makeB {d : Option Tmp} {ty : TypeId} {pos : String} {aft : Array Edge} {x y : Operand} (n : Nat) {k k' : IntKind} {l c : Int} (hl : a.eval x = .int k l) (hc : a.eval y = .int k' c) (hn' : l = n) (hn : c = n) (hm : n ≤ 140737488355328)
    (h : ∀ v' w', OB w' w.heap.size v' (List.replicate n 0) → Below w.heap.size w w' → wpList Try.prog ops Q rest (a.put d v') w') :
    wpList Try.prog ops Q (⟨d, .makeSlice 22 x y, ty, pos, aft, none⟩ :: rest) a w := by
  refine wpList_makeN TB (z := .int .u8 0) (fun i hi => ?_) n hl hc hn' hn (by omega) hm fun v' w' h1 h2 => h v' w' ?_ h2
  · have := info_parts (P := Try.prog) (e := 5) (z := .int .u8 0) (size := 1) (bytes := 1) (by kernel_rfl)
    obtain ⟨i', h1, h2, _⟩ := this
    rw [hi] at h1
    cases h1
    exact h2
  · unfold OB
    rw [made_zeros] at h1
    rw [List.length_replicate]
    exact h1
theorem foldl_push (l : List UInt8) (s : ByteArray) : (l.map fun c => (c.toNat : Int)).foldl (fun (r : ByteArray) (n : Int) => r.push (UInt8.ofNat n.toNat)) s = ⟨s.data ++ l.toArray⟩ := by
  induction l generalizing s with
  | nil => simp
  | cons c l ih =>
    rw [List.map_cons, List.foldl_cons, ih]
    have : (s.push (UInt8.ofNat ((c.toNat : Int)).toNat)).data = s.data.push c := by simp [ByteArray.push]
    rw [this]
    simp [List.push_append_toArray]
/-- 'string(b)'. -/
theorem run_str {v : Value} {l : List UInt8} (hv : Bs w v l) : (convert 22 9 v).run Try.prog w = .ok (.string ⟨l.toArray⟩) w := by
  obtain ⟨h1, a, cap, rfl, h3, h0, h4⟩ := hv
  rw [run_convert_bytes_string w 22 9 5 a l.length cap (by kernel_rfl) (by kernel_rfl) (by kernel_rfl)]
  cases a with
  | none =>
    have hl : l = [] := by
      cases l with
      | nil => rfl
      | cons c l => obtain ⟨b, off, h, _⟩ := h4 0 (by simp); cases h
    subst hl
    rfl
  | some ad =>
    rw [run_bytesToString w ad l.length cap (l.map fun c => (c.toNat : Int))]
    · rw [foldl_push]; simp
    · have h := run_loadCells_list (P := Try.prog) (w := w) ad (l.map B) (fun j v hj => by
        obtain ⟨b, off, e1, e2⟩ := h4 j (List.getElem?_eq_some_iff.1 hj).1
        cases e1
        have e3 : (⟨b, off, none⟩ : Addr).add j = ⟨b, off + j, none⟩ := by unfold Addr.add; split <;> simp_all
        rw [e3, e2, hj])
      rw [List.length_map] at h
      rw [h]
      simp [B]
theorem run_sliceB {v : Value} {l : List UInt8} (hv : Bs w v l) {i j : Int} {k k' : IntKind} (h0 : 0 ≤ i) (h1 : i ≤ j) (h2 : j ≤ l.length) :
    ∃ v', (∀ w', (Instr.sliceAt 22 v (some (.int k i)) (some (.int k' j)) none).run Try.prog w' = .ok v' w') ∧ Bs w v' ((l.drop i.toNat).take (j - i).toNat) := by
  obtain ⟨v', h, hr⟩ := run_sliceAt TB hv h0 h1 h2 (k := k) (k' := k')
  refine ⟨v', h, ?_⟩
  unfold Bs
  rw [List.length_take, List.length_drop, List.map_take, List.map_drop, show min (j - i).toNat (l.length - i.toNat) = (j - i).toNat by omega]
  simpa using hr
theorem run_fromB {v : Value} {l : List UInt8} (hv : Bs w v l) {i : Int} {k : IntKind} (h0 : 0 ≤ i) (h1 : i ≤ l.length) :
    ∃ v', (∀ w', (Instr.sliceAt 22 v (some (.int k i)) none none).run Try.prog w' = .ok v' w') ∧ Bs w v' (l.drop i.toNat) := by
  obtain ⟨v', h, hr⟩ := run_sliceFrom TB hv h0 h1 (k := k)
  refine ⟨v', h, ?_⟩
  unfold Bs
  rw [List.length_drop, List.map_drop, show l.length - i.toNat = ((l.length : Int) - i).toNat by omega]
  simpa using hr
/-- .. owned. -/
theorem ob_lit (w : World) (l : List UInt8) (cs : Array Value) (n : Nat) (h : cs = (l.map B).toArray) (hn : n = l.length) (hm : n ≤ 1000000) : OB (w.alloc (.cells cs 5)) w.heap.size (.slice (some ⟨w.heap.size, 0, none⟩) n n) l := by
  subst h hn
  exact ⟨by simp, .inr ⟨w.heap.size, l.length, _, rfl, Nat.le_refl _, heap_alloc_new w _, Nat.le_refl _, by unfold maxLen; omega, by simp, by rw [Nat.mul_one, List.take_of_length_le (by simp)]⟩⟩
end
end Go.Proofs.Ytmpelmjhimalpaa
namespace Go.Fd
open Go.RowKit Go.MapKept
open Go.ChangeMaps (setBlock heap_setBlock_same heap_setBlock_other modify_eq_set)
open Go.Maps (Keyed)
section
variable {κ : Type}
/-- A map's type, and how its keys are written. -/
structure KeyT (P : Program) (t k e : TypeId) (mk : κ → Value) : Prop where
  ht : P.underlying t = some (.map k e)
  K : Keyed P k
  inj : ∀ a b, mk a = mk b → a = b
/-- Block b is a map with the entries E, in the order in which they came. -/
def MapIs (P : Program) (k : TypeId) (mk : κ → Value) (w : World) (b : Nat) (E : List (κ × Value)) : Prop :=
  ∃ es clock, w.heap[b]? = some (.map es clock) ∧ es.toList.map (fun x => (x.key, x.val)) = E.map (fun p => (mk p.1, p.2)) ∧ es.size ≤ maxLen ∧ Stamped es clock ∧ ∀ x ∈ es.toList, ∃ l, keyOf P k x.key = some l
/-- An entry put in: in its key's place, or behind. -/
def putE [DecidableEq κ] (E : List (κ × Value)) (x : κ) (v : Value) : List (κ × Value) :=
  if x ∈ E.map (·.1) then E.map (fun p => if p.1 = x then (x, v) else p) else E ++ [(x, v)]
theorem lookup_of_mem [DecidableEq κ] {E : List (κ × Value)} (hn : (E.map (·.1)).Nodup) {x : κ} {v : Value} (h : (x, v) ∈ E) : E.lookup x = some v := by
  induction E with
  | nil => cases h
  | cons p E ih =>
    obtain ⟨y, u⟩ := p
    simp only [List.map_cons, List.nodup_cons] at hn
    rw [List.lookup_cons]
    rcases List.mem_cons.1 h with h | h
    · cases h; simp
    · have hne : ¬ x = y := fun e => hn.1 (e ▸ List.mem_map.2 ⟨_, h, rfl⟩)
      rw [show (x == y) = false by simpa using hne]
      exact ih hn.2 h
theorem lookup_none_of [DecidableEq κ] {E : List (κ × Value)} {x : κ} (h : x ∉ E.map (·.1)) : E.lookup x = none := by
  induction E with
  | nil => rfl
  | cons p E ih =>
    obtain ⟨y, u⟩ := p
    simp only [List.map_cons, List.mem_cons, not_or] at h
    rw [List.lookup_cons, show (x == y) = false by simpa using h.1]
    exact ih h.2
theorem lookup_mem [DecidableEq κ] {E : List (κ × Value)} {x : κ} {v : Value} (h : E.lookup x = some v) : (x, v) ∈ E := by
  induction E with
  | nil => cases h
  | cons p E ih =>
    obtain ⟨y, u⟩ := p
    rw [List.lookup_cons] at h
    by_cases e : x = y
    · subst e; simp at h; subst h; simp
    · rw [show (x == y) = false by simpa using e] at h
      exact List.mem_cons_of_mem _ (ih h)
theorem lookup_key [DecidableEq κ] {E : List (κ × Value)} {x : κ} : (∃ v, E.lookup x = some v) ↔ x ∈ E.map (·.1) := by
  constructor
  · rintro ⟨v, h⟩
    exact List.mem_map.2 ⟨_, lookup_mem h, rfl⟩
  · intro h
    cases hl : E.lookup x with
    | some v => exact ⟨v, rfl⟩
    | none =>
      exfalso
      induction E with
      | nil => cases h
      | cons p E ih =>
        obtain ⟨y, u⟩ := p
        rw [List.lookup_cons] at hl
        by_cases e : x = y
        · subst e; simp at hl
        · rw [show (x == y) = false by simpa using e] at hl
          simp only [List.map_cons, List.mem_cons] at h
          rcases h with h | h
          · exact e h
          · exact ih h hl
variable {P : Program} {t k e : TypeId} {mk : κ → Value} {w : World} {b : Nat} {E : List (κ × Value)}
theorem MapIs.lt (h : MapIs P k mk w b E) : b < w.heap.size := by
  obtain ⟨es, clock, hb, _⟩ := h
  exact (Array.getElem?_eq_some_iff.1 hb).1
theorem MapIs.kept {w' : World} {row : Option Nat} (h : MapIs P k mk w b E) (hg : w.grownBy w' row) (hne : some b ≠ row) : MapIs P k mk w' b E := by
  have hlt := h.lt
  obtain ⟨es, clock, hb, r⟩ := h
  exact ⟨es, clock, (hg.block b hlt hne).trans hb, r⟩
theorem MapIs.mono {w' : World} (h : MapIs P k mk w b E) (hb : Below w.heap.size w w') : MapIs P k mk w' b E := by
  have hlt := h.lt
  obtain ⟨es, clock, hb', r⟩ := h
  exact ⟨es, clock, (hb.block b hlt).trans hb', r⟩
theorem MapIs.block {w' : World} (h : MapIs P k mk w b E) (hb : w'.heap[b]? = w.heap[b]?) : MapIs P k mk w' b E := by
  obtain ⟨es, clock, hb', r⟩ := h
  exact ⟨es, clock, hb.trans hb', r⟩
theorem MapIs.nodup (h : MapIs P k mk w b E) : (E.map (·.1)).Nodup := by
  obtain ⟨es, clock, _, he, _, hs, _⟩ := h
  have h2 : (es.toList.map (·.key)).Nodup := hs.2.2
  have e1 : es.toList.map (·.key) = (E.map (·.1)).map mk := by
    have := congrArg (List.map (·.1)) he
    simpa [List.map_map, Function.comp_def] using this
  rw [e1] at h2
  unfold List.Nodup at h2 ⊢
  rw [List.pairwise_map] at h2
  exact h2.imp (fun hne e => hne (by rw [e]))
theorem MapIs.made (w : World) : MapIs P k mk (w.alloc (.map #[] 0)) w.heap.size ([] : List (κ × Value)) :=
  ⟨#[], 0, (MapKept.heap_alloc w _).1, by simp, by simp, stamped_empty 0, by simp⟩
/-- What a look-up gives. -/
def lookV (c : Bool) (z : Value) : Option Value → Value
  | some v => if c then .tuple #[v, .bool true] else v
  | none => if c then .tuple #[z, .bool false] else z
theorem MapIs.look [DecidableEq κ] (c : Bool) (h : MapIs P k mk w b E) (T : KeyT P t k e mk) {z : Value} (hz : (zeroValue e).run P w = .ok z w) {x : κ} {l : Lit} (hkey : keyOf P k (mk x) = some l) :
    (Instr.lookup t (.map (some b)) (mk x) c).run P w = .ok (lookV c z (E.lookup x)) w := by
  have hn := h.nodup
  obtain ⟨es, clock, hb, he, hsz, hs, hk⟩ := h
  rcases T.K.find w hkey es.toList hk with ⟨h1, h2⟩ | ⟨j, e0, h1, h2, h3⟩
  · have : E.lookup x = none := lookup_none_of fun hm => by
      obtain ⟨p, hp, rfl⟩ := List.mem_map.1 hm
      have : (mk p.1, p.2) ∈ es.toList.map (fun x => (x.key, x.val)) := by rw [he]; exact List.mem_map.2 ⟨p, hp, rfl⟩
      obtain ⟨y, hy, e1⟩ := List.mem_map.1 this
      exact h2 y hy (congrArg Prod.fst e1)
    rw [this]
    simp [Instr.lookup, run_underlying T.ht, MapKept.run_getObj_map hb, T.K.check w _ hkey, h1, hz, Result.andThen, lookV]
  · have hE : (E.map (fun p => (mk p.1, p.2)))[j]? = some (e0.key, e0.val) := by rw [← he, List.getElem?_map, h2]; rfl
    rw [List.getElem?_map] at hE
    obtain ⟨p, hp, e1⟩ := Option.map_eq_some_iff.1 hE
    obtain ⟨y, v⟩ := p
    simp only [Prod.mk.injEq] at e1
    obtain ⟨e1, rfl⟩ := e1
    obtain rfl := T.inj _ _ (e1.trans h3)
    rw [lookup_of_mem hn (List.mem_of_getElem? hp)]
    simp [Instr.lookup, run_underlying T.ht, MapKept.run_getObj_map hb, T.K.check w _ hkey, h1, Result.andThen, lookV]
theorem set_eq_map [DecidableEq κ] {E : List (κ × Value)} (hn : (E.map (·.1)).Nodup) {j : Nat} {x : κ} {u v : Value} (h : E[j]? = some (x, u)) : E.set j (x, v) = E.map (fun p => if p.1 = x then (x, v) else p) := by
  apply List.ext_getElem?
  intro i
  rw [List.getElem?_set, List.getElem?_map]
  have hj := (List.getElem?_eq_some_iff.1 h).1
  by_cases hij : j = i
  · subst hij
    rw [if_pos rfl, if_pos hj, h]
    simp
  · rw [if_neg hij]
    cases hi : E[i]? with
    | none => rfl
    | some p =>
      have hne : p.1 ≠ x := by
        intro e
        have hi' := (List.getElem?_eq_some_iff.1 hi).1
        unfold List.Nodup at hn
        rw [List.pairwise_map, List.pairwise_iff_getElem] at hn
        have g1 : E[i] = p := (List.getElem?_eq_some_iff.1 hi).2
        have g2 : E[j] = (x, u) := (List.getElem?_eq_some_iff.1 h).2
        rcases Nat.lt_or_gt_of_ne hij with hlt | hlt
        · exact hn j i hj hi' hlt (by rw [g1, g2, e])
        · exact hn i j hi' hj hlt (by rw [g1, g2, e])
      simp [hne]
theorem MapIs.store [DecidableEq κ] (h : MapIs P k mk w b E) (T : KeyT P t k e mk) (hroom : E.length < maxLen) {x : κ} {l : Lit} (hkey : keyOf P k (mk x) = some l) (v : Value) :
    ∃ w', (Instr.mapUpdate t (.map (some b)) (mk x) v).run P w = .ok () w' ∧ MapIs P k mk w' b (putE E x v) ∧ w.grownBy w' (some b) ∧ w'.heap.size = w.heap.size := by
  have hn := h.nodup
  obtain ⟨es, clock, hb, he, hsz, hs, hk⟩ := h
  have hlen : es.size = E.length := by have := congrArg List.length he; simpa using this
  rcases T.K.find w hkey es.toList hk with ⟨h1, h2⟩ | ⟨j, e0, h1, h2, h3⟩
  · have hnot : x ∉ E.map (·.1) := fun hm => by
      obtain ⟨p, hp, rfl⟩ := List.mem_map.1 hm
      have : (mk p.1, p.2) ∈ es.toList.map (fun x => (x.key, x.val)) := by rw [he]; exact List.mem_map.2 ⟨p, hp, rfl⟩
      obtain ⟨y, hy, e1⟩ := List.mem_map.1 this
      exact h2 y hy (congrArg Prod.fst e1)
    refine ⟨setBlock w b (.map (es.push ⟨mk x, v, clock⟩) (clock + 1)), ?_, ⟨_, _, heap_setBlock_same hb _, ?_, by simp; omega, stamped_push hs h2, ?_⟩, ⟨rfl, rfl, rfl, by simp [setBlock], fun i _ hi => heap_setBlock_other hb _ (fun e => hi (by rw [e]))⟩, by simp [setBlock]⟩
    · simp [Instr.mapUpdate, run_underlying T.ht, MapKept.run_getObj_map hb, T.K.check w false hkey, h1, MapKept.run_setObj_map _ hb, Result.andThen, setBlock]
    · rw [putE, if_neg hnot, Array.toList_push, List.map_append, he]; simp
    · intro y hy
      simp only [Array.toList_push, List.mem_append, List.mem_singleton] at hy
      rcases hy with hy | rfl
      · exact hk y hy
      · exact ⟨l, hkey⟩
  · have hj : es[j]? = some e0 := by simpa using h2
    have hE : (E.map (fun p => (mk p.1, p.2)))[j]? = some (e0.key, e0.val) := by rw [← he, List.getElem?_map, h2]; rfl
    rw [List.getElem?_map] at hE
    obtain ⟨p, hp, e1⟩ := Option.map_eq_some_iff.1 hE
    obtain ⟨y, u⟩ := p
    simp only [Prod.mk.injEq] at e1
    obtain ⟨e1, rfl⟩ := e1
    obtain rfl := T.inj _ _ (e1.trans h3)
    have hin : y ∈ E.map (·.1) := List.mem_map.2 ⟨_, List.mem_of_getElem? hp, rfl⟩
    have hkeyf : ∀ e', es[j]? = some e' → ({ e' with key := mk y, val := v } : MapEntry).key = e'.key := fun e' he' => by rw [hj] at he'; cases he'; exact h3.symm
    have hlist : (es.modify j (fun e' => { e' with key := mk y, val := v })).toList = es.toList.set j { e0 with key := mk y, val := v } := by rw [Array.toList_modify, modify_eq_set _ _ _ _ h2]
    refine ⟨setBlock w b (.map (es.modify j (fun e' => { e' with key := mk y, val := v })) clock), ?_, ⟨_, _, heap_setBlock_same hb _, ?_, by simpa using hsz, stamped_modify hs _ _ (fun _ _ => rfl) (fun e' _ he' => hkeyf e' he'), ?_⟩, ⟨rfl, rfl, rfl, by simp [setBlock], fun i _ hi => heap_setBlock_other hb _ (fun e => hi (by rw [e]))⟩, by simp [setBlock]⟩
    · simp [Instr.mapUpdate, run_underlying T.ht, MapKept.run_getObj_map hb, T.K.check w false hkey, h1, hj, h3, T.K.stays w hkey, MapKept.run_setObj_map _ hb, Result.andThen, setBlock]
    · rw [putE, if_pos hin, hlist, List.map_set, he, ← set_eq_map hn hp, List.map_set]
    · intro z hz
      rw [hlist] at hz
      rcases List.mem_or_eq_of_mem_set hz with hz | rfl
      · exact hk z hz
      · exact ⟨l, hkey⟩
theorem MapIs.len (h : MapIs P k mk w b E) (ht : P.underlying t = some (.map k e)) (ty : TypeId) : (Builtin.len_ #[t] ty #[.map (some b)]).run P w = .ok (.int .i64 E.length) w := by
  obtain ⟨es, clock, hb, he, hsz, hs, hk⟩ := h
  have hlen : es.size = E.length := by have := congrArg List.length he; simpa using this
  simp [Builtin.len_, run_underlying ht, MapKept.run_getObj_map hb, Result.andThen, hlen, goInt]
theorem MapIs.size_le (h : MapIs P k mk w b E) : E.length ≤ maxLen := by
  obtain ⟨es, clock, hb, he, hsz, hs, hk⟩ := h
  have hlen : es.size = E.length := by have := congrArg List.length he; simpa using this
  omega
/-- A loop over a map under way: 'left' is still to come. -/
def RangeIs (P : Program) (k : TypeId) (mk : κ → Value) (w : World) (b r : Nat) (E left : List (κ × Value)) : Prop :=
  ∃ es clock since seen c0, w.heap[b]? = some (.map es clock) ∧ es.toList.map (fun x => (x.key, x.val)) = E.map (fun p => (mk p.1, p.2)) ∧ es.size ≤ maxLen ∧ Stamped es clock ∧ (∀ x ∈ es.toList, ∃ l, keyOf P k x.key = some l) ∧
    w.heap[r]? = some (.mapIter (some b) since seen c0) ∧ (∀ x ∈ es.toList, x.born < since) ∧ since ≤ c0 ∧ since ≤ clock ∧ (leftOf es seen).toList.map (fun x => (x.key, x.val)) = left.map (fun p => (mk p.1, p.2))
theorem RangeIs.ne {r : Nat} {left : List (κ × Value)} (h : RangeIs P k mk w b r E left) : r ≠ b := by
  obtain ⟨es, clock, since, seen, c0, hb, _, _, _, _, hr, _⟩ := h
  intro e
  rw [e, hb] at hr
  cases hr
theorem filter_related {α β γ : Type} {f : α → γ} {g : β → γ} {p : α → Bool} {q : β → Bool} : ∀ {l : List α} {m : List β}, l.map f = m.map g → (∀ a b, a ∈ l → b ∈ m → f a = g b → p a = q b) → (l.filter p).map f = (m.filter q).map g
  | [], [], _, _ => rfl
  | [], _ :: _, h, _ => by simp at h
  | _ :: _, [], h, _ => by simp at h
  | a :: l, b :: m, h, hpq => by
    simp only [List.map_cons, List.cons.injEq] at h
    have ih := filter_related h.2 (p := p) (q := q) fun a' b' ha hb => hpq a' b' (by simp [ha]) (by simp [hb])
    rw [List.filter_cons, List.filter_cons, hpq a b (by simp) (by simp) h.1]
    split
    · rw [List.map_cons, List.map_cons, h.1, ih]
    · exact ih
theorem RangeIs.left_eq {r : Nat} {left : List (κ × Value)} (h : RangeIs P k mk w b r E left) : w.rangeLeft b r = left.length := by
  obtain ⟨es, clock, since, seen, c0, hb, _, _, _, _, hr, _, _, _, hl⟩ := h
  have := congrArg List.length hl
  simp only [List.length_map] at this
  simp only [World.rangeLeft, hb, hr]
  simpa using this
theorem MapIs.range (h : MapIs P k mk w b E) (ht : P.underlying t = some (.map k e)) :
    ∃ w', (Instr.range t (.map (some b))).run P w = .ok (.pointer (some ⟨w.heap.size, 0, none⟩)) w' ∧ RangeIs P k mk w' b w.heap.size E E ∧ w.grownBy w' none ∧ w'.heap.size = w.heap.size + 1 := by
  have hlt := h.lt
  obtain ⟨es, clock, hb, he, hsz, hs, hk⟩ := h
  refine ⟨_, run_range_map w t k e b es clock ht hb, ⟨es, clock, clock, #[], clock, ((MapKept.heap_alloc w _).2 b hlt).trans hb, he, hsz, hs, hk, (MapKept.heap_alloc w _).1, hs.1, Nat.le_refl _, Nat.le_refl _, ?_⟩, World.grownBy_alloc w _ none, by simp⟩
  rw [← he]
  congr 1
  simp [leftOf]
theorem RangeIs.next [DecidableEq κ] {r : Nat} {left : List (κ × Value)} (h : RangeIs P k mk w b r E left) (T : KeyT P t k e mk) (ty : TypeId) :
    (left = [] ∧ (Instr.next (.pointer (some ⟨r, 0, none⟩)) false ty).run P w = .ok (.tuple #[.bool false]) w) ∨
    ∃ p w', p ∈ left ∧ (Instr.next (.pointer (some ⟨r, 0, none⟩)) false ty).run P w = .ok (.tuple #[.bool true, mk p.1, p.2]) w' ∧ RangeIs P k mk w' b r E (left.filter (fun q => q.1 ≠ p.1)) ∧ w.grownBy w' (some r) ∧ w'.heap.size = w.heap.size ∧
      (Instr.entry (.pointer (some ⟨r, 0, none⟩))).run P w' = .ok (.tuple #[mk p.1, p.2]) w' := by
  have hne := h.ne
  obtain ⟨es, clock, since, seen, c0, hb, he, hsz, hs, hk, hr, hold, hsc, hsk, hl⟩ := h
  rcases run_next_at (P := P) w ty r b since c0 seen es clock hr hb hold hsc with ⟨h0, hrun⟩ | ⟨x, hx, w1, hal, hrun⟩
  · refine Or.inl ⟨?_, hrun⟩
    have := congrArg List.length hl
    simp at this
    cases left with
    | nil => rfl
    | cons p l => simp at this; omega
  · obtain ⟨hem, hes⟩ := mem_left hx
    have hp : (x.key, x.val) ∈ left.map (fun p => (mk p.1, p.2)) := by rw [← hl]; exact List.mem_map.2 ⟨x, hx, rfl⟩
    obtain ⟨p, hp, e1⟩ := List.mem_map.1 hp
    simp only [Prod.mk.injEq] at e1
    obtain ⟨e1, e2⟩ := e1
    have hr1 : w1.heap[r]? = some (.mapIter (some b) since seen c0) := by rcases hal with rfl | rfl <;> exact hr
    have hb1 : w1.heap[b]? = some (.map es clock) := by rcases hal with rfl | rfl <;> exact hb
    have hset := heap_set (o' := .mapIter (some b) since (seen.push x.born) clock) hr1
    have hb' : (setBlock w1 r (.mapIter (some b) since (seen.push x.born) clock)).heap[b]? = some (.map es clock) := (hset.2 b (fun e1 => hne e1.symm)).trans hb1
    have hst := (stamped_iff es clock).1 hs
    rw [← e1, ← e2] at hrun
    refine Or.inr ⟨p, _, hp, hrun, ⟨es, clock, since, seen.push x.born, clock, hb', he, hsz, hs, hk, hset.1, hold, hsk, hsk, ?_⟩, ?_, ?_, ?_⟩
    · have e3 : (leftOf es (seen.push x.born)).toList = (leftOf es seen).toList.filter (fun y => y.born != x.born) := by
        unfold leftOf
        simp only [Array.toList_filter, List.filter_filter]
        refine List.filter_congr fun y _ => ?_
        rw [contains_push]
        cases seen.contains y.born <;> simp [bne]
      rw [e3]
      refine filter_related hl fun y q hy _ hyq => ?_
      simp only [Prod.mk.injEq] at hyq
      have hym := (mem_left hy).1
      by_cases h : q.1 = p.1
      · have : y = x := entry_eq_of_key hst.2.2 hym hem (by rw [hyq.1, h, e1])
        subst this
        simp [h]
      · have : y.born ≠ x.born := fun e => by
          have := born_inj hst.2.1 hym hem e
          subst this
          exact h (T.inj _ _ (hyq.1.symm.trans e1.symm))
        simp [h, this]
    · rcases hal with rfl | rfl <;> exact ⟨rfl, rfl, rfl, by simp [setBlock], fun i _ hi => hset.2 i (fun e1 => hi (by rw [e1]))⟩
    · rcases hal with rfl | rfl <;> simp [setBlock]
    · rw [e1, e2]
      exact run_entry_at _ r b since seen es clock x hset.1 hb' hem hst.2.1
section
variable {ops : Array Oper} {rest : List Oper} {Q : Exit → Act → World → Prop} {a : Act} {d : Option Tmp} {ty : TypeId} {pos : String} {aft : Array Edge} {m x : Operand}
/-- 'range m'. -/
theorem wpList_rangeM (ht : P.underlying t = some (.map k e)) (h : MapIs P k mk w b E) (hm : a.eval m = .map (some b))
    (hK : ∀ w', RangeIs P k mk w' b w.heap.size E E → w.grownBy w' none → w'.heap.size = w.heap.size + 1 → wpList P ops Q rest (a.put d (.pointer (some ⟨w.heap.size, 0, none⟩))) w') :
    wpList P ops Q (⟨d, .range t m, ty, pos, aft, none⟩ :: rest) a w := by
  obtain ⟨w', hrun, r1, r2, r3⟩ := h.range ht
  refine wpList_val rfl (v := .pointer (some ⟨w.heap.size, 0, none⟩)) (w' := w') ?_ (hK w' r1 r2 r3)
  simp [execOp, hm, hrun, Result.andThen]
/-- The loop's step. -/
theorem wpList_nextM [DecidableEq κ] {r : Nat} {left : List (κ × Value)} (T : KeyT P t k e mk) (h : RangeIs P k mk w b r E left) (hm : a.eval m = .pointer (some ⟨r, 0, none⟩))
    (hDone : left = [] → wpList P ops Q rest (a.put d (.tuple #[.bool false])) w)
    (hMore : ∀ p w', p ∈ left → RangeIs P k mk w' b r E (left.filter (fun q => q.1 ≠ p.1)) → w.grownBy w' (some r) → w'.heap.size = w.heap.size →
      (Instr.entry (.pointer (some ⟨r, 0, none⟩))).run P w' = .ok (.tuple #[mk p.1, p.2]) w' → wpList P ops Q rest (a.put d (.tuple #[.bool true, mk p.1, p.2])) w') :
    wpList P ops Q (⟨d, .next m false, ty, pos, aft, none⟩ :: rest) a w := by
  rcases h.next T ty with ⟨h0, hrun⟩ | ⟨p, w', h1, hrun, h2, h3, h4, h5⟩
  · refine wpList_val rfl (v := .tuple #[.bool false]) (w' := w) ?_ (hDone h0)
    simp [execOp, hm, hrun, Result.andThen]
  · refine wpList_val rfl (v := .tuple #[.bool true, mk p.1, p.2]) (w' := w') ?_ (hMore p w' h1 h2 h3 h4 h5)
    simp [execOp, hm, hrun, Result.andThen]
/-- 'm[k]', 'v, ok := m[k]'. -/
theorem wpList_lookM [DecidableEq κ] (T : KeyT P t k e mk) (h : MapIs P k mk w b E) {z : Value} (hz : (zeroValue e).run P w = .ok z w) {key : κ} {l : Lit} (hkey : keyOf P k (mk key) = some l) {c : Bool} {v : Value} (hv : lookV c z (E.lookup key) = v) (hm : a.eval m = .map (some b)) (hx : a.eval x = mk key)
    (hK : wpList P ops Q rest (a.put d v) w) : wpList P ops Q (⟨d, .lookup t m x c, ty, pos, aft, none⟩ :: rest) a w := by
  refine wpList_val rfl (v := v) (w' := w) ?_ hK
  have := h.look c T hz hkey
  rw [hv] at this
  simp [execOp, hm, hx, this, Result.andThen]
/-- A map literal's entry. -/
theorem wpList_insertM [DecidableEq κ] (T : KeyT P t k e mk) (h : MapIs P k mk w b E) (hroom : E.length < maxLen) {v : Operand} {key : κ} {l : Lit} {val : Value} (hkey : keyOf P k (mk key) = some l) (hm : a.eval m = .map (some b)) (hx : a.eval x = mk key) (hv : a.eval v = val)
    (hK : ∀ w', MapIs P k mk w' b (putE E key val) → w.grownBy w' (some b) → w'.heap.size = w.heap.size → wpList P ops Q rest (a.put d undef) w') :
    wpList P ops Q (⟨d, .insert t m x v, ty, pos, aft, none⟩ :: rest) a w := by
  obtain ⟨w', hrun, r1, r2, r3⟩ := h.store T hroom hkey val
  refine wpList_did rfl (w' := w') ?_ (hK w' r1 r2 r3)
  simp [execOp, hm, hx, hv, hrun, Result.andThen]
/-- 'm[k] = v'. -/
theorem wpList_storeM [DecidableEq κ] (T : KeyT P t k e mk) (h : MapIs P k mk w b E) (hroom : E.length < maxLen) {v : Operand} {key : κ} {l : Lit} {val : Value} (hkey : keyOf P k (mk key) = some l) (hm : a.eval m = .map (some b)) (hx : a.eval x = mk key) (hv : a.eval v = val)
    (hK : ∀ w', MapIs P k mk w' b (putE E key val) → w.grownBy w' (some b) → w'.heap.size = w.heap.size → wpList P ops Q rest (a.put d undef) w') :
    wpList P ops Q (⟨d, .mapUpdate t m x v, ty, pos, aft, none⟩ :: rest) a w := by
  obtain ⟨w', hrun, r1, r2, r3⟩ := h.store T hroom hkey val
  refine wpList_did rfl (w' := w') ?_ (hK w' r1 r2 r3)
  simp [execOp, hm, hx, hv, hrun, Result.andThen]
end
end
end Go.Fd
namespace Go.Fd
open Go.RowKit
/-- Of the blocks that were there those alone in S may have turned. -/
structure Stirs (S : Nat → Prop) (w w' : World) : Prop where
  os : w'.os = w.os
  tape : w'.tape = w.tape
  output : w'.output = w.output
  size : w.heap.size ≤ w'.heap.size
  block : ∀ k, k < w.heap.size → ¬ S k → w'.heap[k]? = w.heap[k]?
section
variable {S S' : Nat → Prop} {a w w' w'' : World}
theorem Stirs.refl (S : Nat → Prop) (w : World) : Stirs S w w := ⟨rfl, rfl, rfl, Nat.le_refl _, fun _ _ _ => rfl⟩
theorem Stirs.trans (h : Stirs S w w') (k : Stirs S' w' w'') (hs : ∀ i, i < w.heap.size → S' i → S i) : Stirs S w w'' :=
  ⟨k.os.trans h.os, k.tape.trans h.tape, k.output.trans h.output, Nat.le_trans h.size k.size, fun i hi hn => (k.block i (Nat.lt_of_lt_of_le hi h.size) fun e => hn (hs i hi e)).trans (h.block i hi hn)⟩
theorem Stirs.sub (h : Stirs S w w') (hs : ∀ i, i < w.heap.size → S i → S' i) : Stirs S' w w' := ⟨h.os, h.tape, h.output, h.size, fun i hi hn => h.block i hi fun e => hn (hs i hi e)⟩
theorem Stirs.of_below (h : Below w.heap.size w w') : Stirs S w w' := ⟨h.os, h.tape, h.output, h.size, fun k hk _ => h.block k hk⟩
theorem Stirs.below (h : Stirs S w w') {B : Nat} (hB : B ≤ w.heap.size) (hs : ∀ k, S k → B ≤ k) : Below B w w' := ⟨h.os, h.tape, h.output, h.size, fun k hk => h.block k (by omega) fun e => by have := hs k e; omega⟩
theorem Stirs.of_grown {row : Option Nat} (h : w.grownBy w' row) (hs : ∀ k, row = some k → S k) : Stirs S w w' := ⟨h.os, h.tape, h.output, h.size, fun k hk hn => h.block k hk fun e => hn (hs k e.symm)⟩
theorem Stirs.alloc (h : Stirs S a w) (o : Obj) : Stirs S a (w.alloc o) := h.trans (Stirs.of_below (S := S) (below_alloc w o)) fun _ _ h => h
theorem Stirs.thenBelow (h : Stirs S a w) (hb : Below w.heap.size w w') : Stirs S a w' := h.trans (Stirs.of_below (S := S) hb) fun _ _ h => h
theorem stirs_setCell (w : World) (b o : Nat) (v : Value) (hs : S b) : Stirs S w (w.setCell ⟨b, o, none⟩ v) :=
  ⟨rfl, rfl, rfl, by simp [World.setCell], fun k _ hn => Below.heap_setCell _ _ _ _ (fun e => hn (by subst e; exact hs))⟩
theorem Stirs.cell (h : Stirs S w w') {b o : Nat} {v : Value} (hc : w.cell? ⟨b, o, none⟩ = some v) (hn : ¬ S b) : w'.cell? ⟨b, o, none⟩ = some v := by
  rw [World.cell?_of_block (w := w) (h.block b (block_lt hc) hn)]; exact hc
theorem Stirs.kept (h : Stirs S w w') {b : Nat} {o : Obj} (hb : w.heap[b]? = some o) (hn : ¬ S b) : w'.heap[b]? = some o := (h.block b (Array.getElem?_eq_some_iff.1 hb).1 hn).trans hb
theorem Reads.stirs {size n : Nat} {v : Value} {xs : List Value} (h : Reads w size v n xs) (ht : Stirs S w w') (hn : ∀ k, v.ownBlock = some k → ¬ S k) : Reads w' size v n xs := by
  obtain ⟨h1, a, cap, h2, h3, h0, h4⟩ := h
  refine ⟨h1, a, cap, h2, h3, h0, fun j hj => ?_⟩
  obtain ⟨b, off, e1, e2⟩ := h4 j hj
  refine ⟨b, off, e1, ?_⟩
  rw [List.getElem?_eq_getElem hj] at e2 ⊢
  exact ht.cell e2 (hn b (by subst h2 e1; rfl))
theorem owns_stirs {base e size n : Nat} {v : Value} {xs : List Value} (h : w.ownsRow base e size v n xs) (ht : Stirs S w w') (hn : ∀ k, v.ownBlock = some k → ¬ S k) : w'.ownsRow base e size v n xs := by
  refine ⟨h.1, ?_⟩
  rcases h.2 with h2 | ⟨g, cap, cur, hv, hg, hh, r⟩
  · exact .inl h2
  · exact .inr ⟨g, cap, cur, hv, hg, ht.kept hh (hn g (by rw [hv]; rfl)), r⟩
end
theorem ret2 {a b c d : Value} (h1 : a = c) (h2 : b = d) : Ending.returned (.tuple #[a, b]) = .returned (.tuple #[c, d]) := by rw [h1, h2]
theorem nat_eq {k : IntKind} {a b : Nat} (h : a = b) : Value.int k (a : Int) = .int k (b : Int) := by rw [h]
theorem bool_eq {a b : Bool} (h : a = b) : Value.bool a = .bool b := by rw [h]
end Go.Fd
namespace Go.Proofs.Ytmpelmjhimalpaa
open Go.RowKit Go.Fd
/-- A page: its number, the block that holds it, its rights, its bytes. -/
structure Ent where
  n : Nat
  blk : Nat
  r : Nat
  c : List UInt8
def pgCells (r : Nat) (c : List UInt8) : Array Value := (Value.int .i64 (r : Int) :: c.map B).toArray
abbrev K64 (n : Nat) : Value := .int .u64 (n : Int)
abbrev ptr (b : Nat) : Value := .pointer (some ⟨b, 0, none⟩)
def keyE (e : Ent) : Nat × Value := (e.n, ptr e.blk)
/-- The memory behind a pointer to block bp. -/
structure PagesIs (w : World) (base bp bm : Nat) (L : List Ent) : Prop where
  hp : w.heap[bp]? = some (.cells #[.bool true, .map (some bm)] 86)
  hm : MapIs Try.prog 24 K64 w bm (L.map keyE)
  bp : base ≤ bp
  bm : base ≤ bm
  pg : ∀ e ∈ L, w.heap[e.blk]? = some (.cells (pgCells e.r e.c) 89) ∧ e.c.length = 4096 ∧ base ≤ e.blk ∧ e.n < 18446744073709551616 ∧ e.r < 8
  nd : (L.map (·.blk)).Nodup
theorem TM : KeyT Try.prog 84 24 83 K64 := ⟨by kernel_rfl, Maps.int_keyed (q := .u64) (by kernel_rfl), fun a b h => by simp [K64] at h; omega⟩
theorem zeroP (w : World) : (zeroValue 83).run Try.prog w = .ok (.pointer none) w := by kernel_rfl
theorem key64 (n : Nat) (h : n < 18446744073709551616) : keyOf Try.prog 24 (K64 n) = some (.int .u64 n) := Maps.keyOf_int_mk (by kernel_rfl) (by simp [Lit.wf, IntKind.min, IntKind.max, IntKind.signed, IntKind.bits]; omega)
theorem block_cell {w : World} {b : Nat} {cs : Array Value} {T : TypeId} (h : w.heap[b]? = some (.cells cs T)) (i : Nat) : w.cell? ⟨b, i, none⟩ = cs[i]? := by simp [World.cell?, h]
theorem block_free {w : World} {b : Nat} {cs : Array Value} {T : TypeId} (h : w.heap[b]? = some (.cells cs T)) (i : Nat) : w.frozen? ⟨b, i, none⟩ = false := by simp [World.frozen?, h]
theorem block_set {w : World} {b : Nat} {cs : Array Value} {T : TypeId} (h : w.heap[b]? = some (.cells cs T)) (i : Nat) (v : Value) : (w.setCell ⟨b, i, none⟩ v).heap[b]? = some (.cells (cs.setIfInBounds i v) T) := by
  have hb := (Array.getElem?_eq_some_iff.1 h).1
  have h2 := (Array.getElem?_eq_some_iff.1 h).2
  simp [World.setCell, Array.getElem?_modify, h]
/-- The page of a number. -/
def findE (L : List Ent) (k : Nat) : Option Ent := L.find? (·.n == k)
theorem lookup_keyE (L : List Ent) (k : Nat) : (L.map keyE).lookup k = (findE L k).map fun e => ptr e.blk := by
  induction L with
  | nil => rfl
  | cons e L ih =>
    rw [List.map_cons, keyE, List.lookup_cons, findE, List.find?_cons]
    by_cases h : k = e.n
    · subst h; simp
    · rw [show (k == e.n) = false by simpa using h, show (e.n == k) = false by simpa using Ne.symm h]
      exact ih
theorem findE_mem {L : List Ent} {k : Nat} {e : Ent} (h : findE L k = some e) : e ∈ L ∧ e.n = k := ⟨List.mem_of_find?_eq_some h, by have := List.find?_some h; simpa using this⟩
def ptrOf : Option Ent → Value
  | some e => ptr e.blk
  | none => .pointer none
section
variable {w : World} {base bp bm : Nat} {L : List Ent}
/-- 'p.pages[k]'. -/
theorem PagesIs.look (h : PagesIs w base bp bm L) (k : Nat) (hk : k < 18446744073709551616) : (Instr.lookup 84 (.map (some bm)) (.int .u64 (k : Int)) false).run Try.prog w = .ok (ptrOf (findE L k)) w := by
  have := h.hm.look false TM (zeroP w) (x := k) (key64 k hk)
  rw [lookup_keyE] at this
  rw [show (Value.int .u64 (k : Int)) = K64 k from rfl, this]
  cases findE L k <;> rfl
theorem PagesIs.lookSome (h : PagesIs w base bp bm L) (a : Nat) (ha : a < 18446744073709551616) {e : Ent} (he : findE L (a / 4096) = some e) : (Instr.lookup 84 (.map (some bm)) (.int .u64 ((a : Int) / 4096)) false).run Try.prog w = .ok (.pointer (some ⟨e.blk, 0, none⟩)) w := by
  have := h.look (a / 4096) (by omega)
  rw [Int.natCast_ediv, he] at this
  exact this
theorem PagesIs.cells (h : PagesIs w base bp bm L) : w.cell? ⟨bp, 0, none⟩ = some (.bool true) ∧ w.cell? ⟨bp, 1, none⟩ = some (.map (some bm)) := ⟨by rw [block_cell h.hp]; rfl, by rw [block_cell h.hp]; rfl⟩
theorem PagesIs.page (h : PagesIs w base bp bm L) {e : Ent} (he : e ∈ L) : w.cell? ⟨e.blk, 0, none⟩ = some (.int .i64 e.r) ∧ ∀ i, i < 4096 → w.cell? ⟨e.blk, 1 + i, none⟩ = some (.int .u8 (e.c[i]?.getD 0).toNat) := by
  obtain ⟨h1, h2, _⟩ := h.pg e he
  refine ⟨by rw [block_cell h1]; rfl, fun i hi => ?_⟩
  rw [block_cell h1, pgCells, Nat.add_comm 1 i]
  simp [List.getElem?_eq_getElem (show i < e.c.length by omega)]
theorem PagesIs.mono {w' : World} (h : PagesIs w base bp bm L) (hb : Below w.heap.size w w') : PagesIs w' base bp bm L := by
  refine ⟨(hb.block _ (Array.getElem?_eq_some_iff.1 h.hp).1).trans h.hp, h.hm.mono hb, h.bp, h.bm, fun e he => ?_, h.nd⟩
  obtain ⟨h1, h2⟩ := h.pg e he
  exact ⟨(hb.block _ (Array.getElem?_eq_some_iff.1 h1).1).trans h1, h2⟩
end
theorem none_nil (w : World) : Calls Try.prog 27 #[.pointer none] w fun e w' => e = .returned (.bool true) ∧ w = w' := by
  go_enter Try.func27, Try.ntmps27
  go_wp2
  go_ret
  exact ⟨rfl, rfl⟩
theorem none_is {base bp bm : Nat} {L : List Ent} (w : World) (h : PagesIs w base bp bm L) : Calls Try.prog 27 #[ptr bp] w fun e w' => e = .returned (.bool false) ∧ w = w' := by
  obtain ⟨h0, h1⟩ := h.cells
  go_enter Try.func27, Try.ntmps27
  go_wp2
  go_ret
  exact ⟨rfl, rfl⟩
def bothB (r : Nat) : Bool := r &&& 3 == 3
theorem both_fin : ∀ r : Fin 8, (bits .and .i64 ((r : Nat) : Int) 3 == 3) = bothB r := by decide +kernel
theorem and_fin : ∀ r q : Fin 8, bits .and .i64 ((r : Nat) : Int) ((q : Nat) : Int) = (((r : Nat) &&& (q : Nat) : Nat) : Int) := by decide +kernel
theorem or_fin : ∀ r q : Fin 8, bits .or .i64 ((r : Nat) : Int) ((q : Nat) : Int) = (((r : Nat) ||| (q : Nat) : Nat) : Int) := by decide +kernel
theorem or_lt8 {r q : Nat} (hr : r < 8) (hq : q < 8) : r ||| q < 8 := Nat.or_lt_two_pow (n := 3) hr hq
theorem and_i8 {r q : Nat} (hr : r < 8) (hq : q < 8) : bits .and .i64 (r : Int) (q : Int) = ((r &&& q : Nat) : Int) := and_fin ⟨r, hr⟩ ⟨q, hq⟩
theorem or_i8 {r q : Nat} (hr : r < 8) (hq : q < 8) : bits .or .i64 (r : Int) (q : Int) = ((r ||| q : Nat) : Int) := or_fin ⟨r, hr⟩ ⟨q, hq⟩
theorem both_any (r : Nat) (w : World) (hr : r < 8) : Calls Try.prog 75 #[.int .i64 r] w fun e w' => e = .returned (.bool (bothB r)) ∧ w = w' := by
  have hb := both_fin ⟨r, hr⟩
  simp only at hb
  go_enter Try.func75, Try.ntmps75
  go_wp2
  go_ret
  exact ⟨rfl, rfl⟩
def szB (n : Int) : Bool := decide (n = 1 ∨ n = 2 ∨ n = 4 ∨ n = 8)
theorem sized_any (n : Int) (w : World) : Calls Try.prog 30 #[.int .i64 n] w fun e w' => e = .returned (.bool (szB n)) ∧ w = w' := by
  by_cases h : n = 1 ∨ n = 2 ∨ n = 4 ∨ n = 8
  · have HR := Lib.hid (show szB n = true from decide_eq_true h)
    rcases h with rfl | rfl | rfl | rfl
    all_goals
      go_enter Try.func30, Try.ntmps30
      go_wp2
      go_ret
      exact ⟨by rw [HR.out]; rfl, rfl⟩
  · have HR := Lib.hid (show szB n = false from decide_eq_false h)
    obtain ⟨h1, h2, h4, h8⟩ : (n == 1) = false ∧ (n == 2) = false ∧ (n == 4) = false ∧ (n == 8) = false := by simp; omega
    clear h
    go_enter Try.func30, Try.ntmps30
    go_wp2
    go_ret
    exact ⟨by rw [HR.out]; rfl, rfl⟩
theorem last_in (a n : Nat) (w : World) (hn : 1 ≤ n) (h : a + n ≤ 18446744073709551616) : Calls Try.prog 59 #[.int .u64 a, .int .u64 n] w fun e w' =>
    e = .returned (.tuple #[.int .u64 ((a + n - 1 : Nat) : Int), .bool true]) ∧ w = w' := by
  have H1 := Lib.hid (show IntKind.u64.wrap (IntKind.u64.wrap ((a : Int) + n) - 1) = ((a + n - 1 : Nat) : Int) by simp only [IntKind.wrap_u64]; omega)
  have H2 := Lib.hid (show decide ((a : Int) ≤ ((a + n - 1 : Nat) : Int)) = true by simp; omega)
  go_enter Try.func59, Try.ntmps59
  go_wp2
  go_ret2
  refine ⟨?_, rfl⟩
  show Ending.returned (.tuple #[.int .u64 (IntKind.u64.wrap (IntKind.u64.wrap ((a : Int) + n) - 1)), .bool (decide ((a : Int) ≤ IntKind.u64.wrap (IntKind.u64.wrap ((a : Int) + n) - 1)))]) = _
  rw [H1.out, H2.out]
/-- The stretch passes the end of all addresses, or is empty at their beginning. -/
theorem last_out (a n : Nat) (w : World) (ha : a < 18446744073709551616) (hn : n < 18446744073709551616) (hn1 : 1 ≤ n) (h : 18446744073709551616 < a + n) : Calls Try.prog 59 #[.int .u64 a, .int .u64 n] w fun e w' =>
    (∃ x : Int, e = .returned (.tuple #[.int .u64 x, .bool false])) ∧ w = w' := by
  have H2 := Lib.hid (show decide ((a : Int) ≤ IntKind.u64.wrap (IntKind.u64.wrap ((a : Int) + n) - 1)) = false by simp only [IntKind.wrap_u64]; simp; omega)
  go_enter Try.func59, Try.ntmps59
  go_wp2
  go_ret2
  refine ⟨⟨IntKind.u64.wrap (IntKind.u64.wrap ((a : Int) + n) - 1), ?_⟩, rfl⟩
  show Ending.returned (.tuple #[.int .u64 (IntKind.u64.wrap (IntKind.u64.wrap ((a : Int) + n) - 1)), .bool (decide ((a : Int) ≤ IntKind.u64.wrap (IntKind.u64.wrap ((a : Int) + n) - 1)))]) = _
  rw [H2.out]
theorem last_zero (a : Nat) (w : World) (ha : a < 18446744073709551616) : Calls Try.prog 59 #[.int .u64 a, .int .u64 0] w fun e w' =>
    (∃ x b, e = .returned (.tuple #[.int .u64 x, .bool b])) ∧ w = w' := by
  go_enter Try.func59, Try.ntmps59
  go_wp2
  go_ret2
  exact ⟨⟨_, _, rfl⟩, rfl⟩
theorem get_is {base bp bm : Nat} {L : List Ent} (w : World) (h : PagesIs w base bp bm L) (a : Nat) (ha : a < 18446744073709551616) (e0 : Ent) (he : findE L (a / 4096) = some e0) :
    Calls Try.prog 29 #[ptr bp, .int .u64 a] w fun e w' => e = .returned (.int .u8 (e0.c[a % 4096]?.getD 0).toNat) ∧ w = w' := by
  obtain ⟨h0, h1⟩ := h.cells
  have hl := h.lookSome a ha he
  obtain ⟨hm, _⟩ := findE_mem he
  obtain ⟨_, hc⟩ := h.page hm
  have hcell := hc (a % 4096) (by omega)
  go_enter Try.func29, Try.ntmps29
  go_wp2
  go_ret
  exact ⟨rfl, rfl⟩
end Go.Proofs.Ytmpelmjhimalpaa
namespace Go.Proofs.Ytmpelmjhimalpaa
open Go.RowKit Go.Fd
/-- The page of number n made another one. -/
def setE (L : List Ent) (n r : Nat) (c : List UInt8) : List Ent := L.map fun e => if e.n = n then { e with r := r, c := c } else e
theorem setE_key (L : List Ent) (n r : Nat) (c : List UInt8) : (setE L n r c).map keyE = L.map keyE := by
  unfold setE
  rw [List.map_map]
  refine List.map_congr_left fun e _ => ?_
  simp only [Function.comp_apply]
  split <;> rfl
theorem setE_blk (L : List Ent) (n r : Nat) (c : List UInt8) : (setE L n r c).map (·.blk) = L.map (·.blk) := by
  unfold setE
  rw [List.map_map]
  refine List.map_congr_left fun e _ => ?_
  simp only [Function.comp_apply]
  split <;> rfl
/-- The blocks that hold a memory. -/
def foot (bp bm : Nat) (L : List Ent) (k : Nat) : Prop := k = bp ∨ k = bm ∨ k ∈ L.map (·.blk)
theorem nodup_inj {α β : Type} {f : α → β} {l : List α} (h : (l.map f).Nodup) {a b : α} (ha : a ∈ l) (hb : b ∈ l) (e : f a = f b) : a = b := by
  induction l with
  | nil => cases ha
  | cons x l ih =>
    simp only [List.map_cons, List.nodup_cons] at h
    rcases List.mem_cons.1 ha with e1 | ha
    · subst e1
      rcases List.mem_cons.1 hb with e2 | hb
      · exact e2.symm
      · exact absurd (List.mem_map.2 ⟨b, hb, e.symm⟩) h.1
    · rcases List.mem_cons.1 hb with e1 | hb
      · rw [e1] at e; exact absurd (List.mem_map.2 ⟨a, ha, e⟩) h.1
      · exact ih h.2 ha hb
section
variable {w : World} {base bp bm : Nat} {L : List Ent}
theorem PagesIs.nodup (h : PagesIs w base bp bm L) : (L.map (·.n)).Nodup := by
  have := h.hm.nodup
  rwa [List.map_map] at this
theorem PagesIs.ne (h : PagesIs w base bp bm L) {e : Ent} (he : e ∈ L) : e.blk ≠ bp ∧ e.blk ≠ bm := by
  obtain ⟨h1, _⟩ := h.pg e he
  constructor
  · intro e1
    rw [e1, h.hp] at h1
    simp at h1
  · intro e1
    obtain ⟨es, clock, h2, _⟩ := h.hm
    rw [e1, h2] at h1
    cases h1
theorem PagesIs.stirs {w' : World} {S : Nat → Prop} (h : PagesIs w base bp bm L) (ht : Stirs S w w') (hs : ∀ k, foot bp bm L k → ¬ S k) : PagesIs w' base bp bm L := by
  refine ⟨ht.kept h.hp (hs _ (.inl rfl)), h.hm.block (ht.block _ h.hm.lt (hs _ (.inr (.inl rfl)))), h.bp, h.bm, fun e he => ?_, h.nd⟩
  obtain ⟨h1, h2⟩ := h.pg e he
  exact ⟨ht.kept h1 (hs _ (.inr (.inr (List.mem_map.2 ⟨e, he, rfl⟩)))), h2⟩
/-- One page is written. -/
theorem PagesIs.upd {w' : World} (h : PagesIs w base bp bm L) {e0 : Ent} (he : e0 ∈ L) (ht : Stirs (· = e0.blk) w w') {r : Nat} {c : List UInt8} (hr : r < 8) (hc : c.length = 4096)
    (hb : w'.heap[e0.blk]? = some (.cells (pgCells r c) 89)) : PagesIs w' base bp bm (setE L e0.n r c) := by
  obtain ⟨n1, n2⟩ := h.ne he
  refine ⟨ht.kept h.hp (Ne.symm n1), ?_, h.bp, h.bm, fun e hm => ?_, by rw [setE_blk]; exact h.nd⟩
  · rw [setE_key]
    exact h.hm.block (ht.block _ h.hm.lt (Ne.symm n2))
  · obtain ⟨x, hx, rfl⟩ := List.mem_map.1 hm
    obtain ⟨h1, h2, h3, h4, h5⟩ := h.pg x hx
    by_cases hn : x.n = e0.n
    · obtain rfl := nodup_inj h.nodup hx he hn
      rw [if_pos rfl]
      exact ⟨hb, hc, h3, h4, hr⟩
    · rw [if_neg hn]
      refine ⟨ht.kept h1 fun e1 => hn ?_, h2, h3, h4, h5⟩
      rw [nodup_inj h.nd hx he e1]
end
theorem pgCells_set (r : Nat) (c : List UInt8) (i : Nat) (x : UInt8) : (pgCells r c).setIfInBounds (1 + i) (.int .u8 x.toNat) = pgCells r (c.set i x) := by
  unfold pgCells
  rw [Nat.add_comm 1 i]
  simp
theorem pgCells_rights (r r' : Nat) (c : List UInt8) : (pgCells r c).setIfInBounds 0 (.int .i64 r') = pgCells r' c := by
  unfold pgCells
  simp
theorem put_is {base bp bm : Nat} {L : List Ent} (w : World) (h : PagesIs w base bp bm L) (a : Nat) (ha : a < 18446744073709551616) (x : UInt8) (e0 : Ent) (he : findE L (a / 4096) = some e0) :
    Calls Try.prog 31 #[ptr bp, .int .u64 a, .int .u8 x.toNat] w fun e w' => e = .returned (.tuple #[]) ∧ PagesIs w' base bp bm (setE L e0.n e0.r (e0.c.set (a % 4096) x)) ∧ Stirs (· = e0.blk) w w' ∧ w'.heap.size = w.heap.size := by
  obtain ⟨h0, h1⟩ := h.cells
  have hl := h.lookSome a ha he
  obtain ⟨hm, _⟩ := findE_mem he
  obtain ⟨hb, hlen, _, _, hr⟩ := h.pg e0 hm
  have hcell := (h.page hm).2 (a % 4096) (by omega)
  have hfree := block_free hb (1 + a % 4096)
  have HB := Lib.hid hb
  have HLEN := Lib.hid hlen
  clear hb hlen
  go_enter Try.func31, Try.ntmps31
  go_wp2
  go_end0
  have ht : Stirs (· = e0.blk) w (w.setCell ⟨e0.blk, 1 + a % 4096, none⟩ (.int .u8 x.toNat)) := stirs_setCell _ _ _ _ rfl
  refine ⟨rfl, h.upd hm ht hr (by rw [List.length_set]; exact HLEN.out) ?_, ht, by simp⟩
  rw [block_set HB.out, pgCells_set]
/-- May the page be used so? -/
def okE (r : Nat) : Option Ent → Bool
  | some e => e.r &&& r == r
  | none => false
/-- May so many pages from k on? -/
def mayFrom (L : List Ent) (r : Nat) : Nat → Nat → Bool
  | _, 0 => true
  | k, n + 1 => okE r (findE L k) && mayFrom L r (k + 1) n
/-- May the bytes be used so? -/
def mayB (L : List Ent) (a n r : Nat) : Bool :=
  if n = 0 then true else if 18446744073709551616 < a + n then false else mayFrom L r (a / 4096) ((a + n - 1) / 4096 + 1 - a / 4096)
theorem PagesIs.lookK_some {w : World} {base bp bm : Nat} {L : List Ent} (h : PagesIs w base bp bm L) (k : Nat) (hk : k < 18446744073709551616) {e : Ent} (he : findE L k = some e) : (Instr.lookup 84 (.map (some bm)) (.int .u64 (k : Int)) false).run Try.prog w = .ok (.pointer (some ⟨e.blk, 0, none⟩)) w := by
  have := h.look k hk
  rw [he] at this
  exact this
theorem PagesIs.lookK_none {w : World} {base bp bm : Nat} {L : List Ent} (h : PagesIs w base bp bm L) (k : Nat) (hk : k < 18446744073709551616) (he : findE L k = none) : (Instr.lookup 84 (.map (some bm)) (.int .u64 (k : Int)) false).run Try.prog w = .ok (.pointer none) w := by
  have := h.look k hk
  rw [he] at this
  exact this
set_option maxRecDepth 100000 in
theorem may_is {base bp bm : Nat} {L : List Ent} (w : World) (h : PagesIs w base bp bm L) (a n r : Nat) (ha : a < 18446744073709551616) (hn : n ≤ 1000000000) (hr : r < 8) :
    Calls Try.prog 28 #[ptr bp, .int .u64 a, .int .i64 n, .int .i64 r] w fun e w' => e = .returned (.bool (mayB L a n r)) ∧ w = w' := by
  by_cases h0 : n = 0
  · subst h0
    have HR := Lib.hid (show mayB L a 0 r = true from rfl)
    go_enter Try.func28, Try.ntmps28
    go_wp2
    go_ret
    exact ⟨by rw [HR.out]; rfl, rfl⟩
  have hn0 : ((n : Int) == 0) = false := by simp; omega
  by_cases h1 : 18446744073709551616 < a + n
  · have HR := Lib.hid (show mayB L a n r = false by rw [mayB, if_neg h0, if_pos h1])
    go_enter Try.func28, Try.ntmps28
    go_wp2_with (go_at_call 59; go_must (refine (last_out a n _ ha (by omega) (by omega) h1).mono ?_; rintro e w1 ⟨⟨x, rfl⟩, rfl⟩))
    go_ret
    exact ⟨by rw [HR.out]; rfl, rfl⟩
  have HR := Lib.hid (show mayB L a n r = mayFrom L r (a / 4096) ((a + n - 1) / 4096 + 1 - a / 4096) by rw [mayB, if_neg h0, if_neg h1])
  obtain ⟨c0, c1⟩ := h.cells
  go_enter Try.func28, Try.ntmps28
  go_wp2_with (first
    | (go_at_call 59; go_must (refine (last_in a n _ (by omega) (by omega)).mono ?_; rintro e w1 ⟨rfl, rfl⟩))
    | (go_at_call 27; go_must (refine (none_is _ h).mono ?_; rintro e w1 ⟨rfl, rfl⟩)))
  go_loop [11, 12] (fun kv _ => ∃ k : Nat, kv = .int .u64 k ∧ k ≤ (a + n - 1) / 4096 + 1 ∧ Hid (mayB L a n r = mayFrom L r k ((a + n - 1) / 4096 + 1 - k))) (fun kv _ => ((a + n - 1) / 4096 + 1) - (intOf kv).toNat)
  case atStart => exact ⟨a / 4096, by rw [Int.natCast_ediv]; rfl, by omega, HR.out⟩
  case round =>
    obtain ⟨k, rfl, hk, HK⟩ := hrel
    by_cases hlt : k ≤ (a + n - 1) / 4096
    · have hs : mayFrom L r k ((a + n - 1) / 4096 + 1 - k) = (okE r (findE L k) && mayFrom L r (k + 1) ((a + n - 1) / 4096 + 1 - (k + 1))) := by
        rw [show (a + n - 1) / 4096 + 1 - k = ((a + n - 1) / 4096 + 1 - (k + 1)) + 1 by omega, mayFrom]
      have HS := Lib.hid (HK.out.trans hs)
      clear hs
      cases hf : findE L k with
      | none =>
        have hl := h.lookK_none k (by omega) hf
        have HF := Lib.hid (show mayB L a n r = false by rw [HS.out, hf]; rfl)
        clear hf
        go_wp2
        go_ret
        exact ⟨by rw [HF.out]; rfl, rfl⟩
      | some e0 =>
        have hl := h.lookK_some k (by omega) hf
        have hm := (findE_mem hf).1
        have hcell := (h.page hm).1
        have hr0 := (h.pg e0 hm).2.2.2.2
        have ha8 := and_i8 hr0 hr
        have HF := Lib.hid (show mayB L a n r = (decide (e0.r &&& r = r) && mayFrom L r (k + 1) ((a + n - 1) / 4096 + 1 - (k + 1))) by rw [HS.out, hf]; rfl)
        clear hf
        generalize e0.r &&& r = q at *
        by_cases hok : q = r
        · subst hok
          have HF2 := Lib.hid (show mayB L a n q = mayFrom L q (k + 1) ((a + n - 1) / 4096 + 1 - (k + 1)) by rw [HF.out]; simp)
          go_wp2
          go_round
          case rel => exact ⟨k + 1, by go_num, by omega, HF2.out⟩
          case measure => simp [intOf] <;> omega
        · have HF2 := Lib.hid (show mayB L a n r = false by rw [HF.out]; simp [hok])
          have hne : ((q : Int) != (r : Int)) = true := by simp; omega
          clear hok
          go_wp2
          go_ret
          exact ⟨by rw [HF2.out]; rfl, rfl⟩
    · have hk2 : k = (a + n - 1) / 4096 + 1 := by omega
      have HF := Lib.hid (show mayB L a n r = true by rw [HK.out, hk2, Nat.sub_self]; rfl)
      clear hk2
      go_wp2
      go_ret
      exact ⟨by rw [HF.out]; rfl, rfl⟩
end Go.Proofs.Ytmpelmjhimalpaa
namespace Go.Proofs.Ytmpelmjhimalpaa
open Go.RowKit Go.Fd
def inPg (f l : Nat) (e : Ent) : Bool := decide (f ≤ e.n) && decide (e.n ≤ l)
def badB (f l r : Nat) (e : Ent) : Bool := inPg f l e && bothB (e.r ||| r)
/-- How many of some pages are there. -/
def thereN (L : List Ent) (f l : Nat) : Nat := L.countP (inPg f l)
/-- Would one be writable and executable? -/
def clashB (L : List Ent) (f l r : Nat) : Bool := bothB r || L.any (badB f l r)
theorem count_split {L : List Ent} (p : Ent → Bool) (hn : (L.map (·.n)).Nodup) {e : Ent} (he : e ∈ L) : L.countP p = (L.filter (fun x => x.n ≠ e.n)).countP p + if p e then 1 else 0 := by
  induction L with
  | nil => cases he
  | cons x L ih =>
    simp only [List.map_cons, List.nodup_cons] at hn
    rcases List.mem_cons.1 he with e1 | he'
    · subst e1
      have : (e :: L).filter (fun x => x.n ≠ e.n) = L := by
        rw [List.filter_cons, if_neg (by simp)]
        refine List.filter_eq_self.2 fun y hy => ?_
        have : y.n ≠ e.n := fun h => hn.1 (List.mem_map.2 ⟨y, hy, h⟩)
        simp [this]
      rw [this, List.countP_cons]
    · have hne : x.n ≠ e.n := fun h => hn.1 (List.mem_map.2 ⟨e, he', h.symm⟩)
      rw [List.filter_cons, if_pos (by simp [hne]), List.countP_cons, List.countP_cons, ih hn.2 he']
      omega
theorem any_split {L : List Ent} (p : Ent → Bool) (hn : (L.map (·.n)).Nodup) {e : Ent} (he : e ∈ L) : L.any p = (p e || (L.filter (fun x => x.n ≠ e.n)).any p) := by
  rw [Bool.eq_iff_iff]
  simp only [List.any_eq_true, Bool.or_eq_true, List.mem_filter]
  constructor
  · rintro ⟨x, hx, hp⟩
    by_cases h : x.n = e.n
    · obtain rfl := nodup_inj hn hx he h
      exact .inl hp
    · exact .inr ⟨x, ⟨hx, by simp [h]⟩, hp⟩
  · rintro (hp | ⟨x, ⟨hx, _⟩, hp⟩)
    · exact ⟨e, he, hp⟩
    · exact ⟨x, hx, hp⟩
theorem filter_keyE (left : List Ent) (n : Nat) : (left.map keyE).filter (fun q => q.1 ≠ n) = (left.filter (fun x => x.n ≠ n)).map keyE := by
  rw [List.filter_map]
  rfl
theorem new_any (w : World) : Calls Try.prog 16 #[] w fun e w' => ∃ bp bm, e = .returned (ptr bp) ∧ PagesIs w' w.heap.size bp bm [] ∧ Below w.heap.size w w' := by
  have hmm := @run_makeMap Try.prog
  go_enter Try.func16, Try.ntmps16
  go_wp2
  go_ret
  refine ⟨w.heap.size + 1, w.heap.size, rfl, ⟨?_, ?_, by omega, by omega, by simp, by simp⟩, ((Below.refl _ _).alloc (Nat.le_refl _) _).alloc (by simp) _⟩
  · have := heap_alloc_new (w.alloc (.map #[] 0)) (.cells #[.bool true, .map (some w.heap.size)] 86)
    rw [World.size_alloc] at this
    exact this
  · exact (MapIs.made w).mono (by rw [World.size_alloc]; exact (Below.refl _ _).alloc (by simp) _)
theorem filter_shorter {left : List Ent} {e : Ent} (he : e ∈ left) : (left.filter (fun x => x.n ≠ e.n)).length < left.length :=
  List.length_filter_lt_length_iff_exists.2 ⟨e, he, by simp⟩
theorem there_in {left : List Ent} {e : Ent} (hn : (left.map (·.n)).Nodup) (he : e ∈ left) {f l r m N q : Nat} {b C : Bool} (h1 : f ≤ e.n) (h2 : e.n ≤ l) (hq : q = e.r ||| r) (hM : m + left.countP (inPg f l) = N) (hB : (b || left.any (badB f l r)) = C) :
    m + 1 + (left.filter (fun x => x.n ≠ e.n)).countP (inPg f l) = N ∧ (((b || bothB q) || (left.filter (fun x => x.n ≠ e.n)).any (badB f l r)) = C) := by
  have hin : inPg f l e = true := by simp [inPg, h1, h2]
  subst hq
  rw [count_split (inPg f l) hn he, if_pos hin] at hM
  rw [any_split (badB f l r) hn he, badB, hin, Bool.true_and] at hB
  exact ⟨by omega, by rw [← hB, Bool.or_assoc]⟩
theorem there_out {left : List Ent} {e : Ent} (hn : (left.map (·.n)).Nodup) (he : e ∈ left) {f l r m N : Nat} {b C : Bool} (h1 : e.n < f ∨ l < e.n) (hM : m + left.countP (inPg f l) = N) (hB : (b || left.any (badB f l r)) = C) :
    m + (left.filter (fun x => x.n ≠ e.n)).countP (inPg f l) = N ∧ ((b || (left.filter (fun x => x.n ≠ e.n)).any (badB f l r)) = C) := by
  have hin : inPg f l e = false := by simp [inPg]; omega
  rw [count_split (inPg f l) hn he, if_neg (by simp [hin])] at hM
  rw [any_split (badB f l r) hn he, badB, hin, Bool.false_and, Bool.false_or] at hB
  exact ⟨hM, hB⟩
set_option maxRecDepth 100000 in
theorem there_is {base bp bm : Nat} {L : List Ent} (w : World) (h : PagesIs w base bp bm L) (f l r : Nat) (hf : f < 18446744073709551616) (hl : l < 18446744073709551616) (hr : r < 8) :
    Calls Try.prog 60 #[ptr bp, .int .u64 f, .int .u64 l, .int .i64 r] w fun e w' => e = .returned (.tuple #[.int .i64 (thereN L f l), .bool (clashB L f l r)]) ∧ Below w.heap.size w w' := by
  obtain ⟨h0, h1⟩ := h.cells
  go_enter Try.func60, Try.ntmps60
  go_wp2_with (first
    | (go_at_call 75; go_must (refine (both_any r _ hr).mono ?_; rintro e w1 ⟨rfl, rfl⟩))
    | (with_reducible show wpList _ _ _ (⟨some 18, _, _, _, _, _⟩ :: _) _ _; go_must (refine wpList_rangeM TM.ht h.hm rfl ?_; intro w0 hr0 hg0 hs0)))
  go_frame
  have hp0 := h.mono (below_grown hg0)
  have hb0 := below_grown hg0
  have hlen : L.length ≤ 9223372036854775807 := by have := h.hm.size_le; unfold maxLen at this; simp at this; omega
  have hcn : thereN L f l ≤ L.length := List.countP_le_length
  have HRG := Lib.hid hr0
  have HIS := Lib.hid h
  clear hr0 hg0 hp0 h h0 h1
  go_loopw [8, 9] (fun n c wr => ∃ (left : List Ent) (m : Nat) (b : Bool), n = .int .i64 m ∧ c = .bool b ∧ RangeIs Try.prog 24 K64 wr bm w.heap.size (L.map keyE) (left.map keyE) ∧ (∀ e ∈ left, e ∈ L) ∧ (left.map (·.n)).Nodup ∧ Hid (m + left.countP (inPg f l) = thereN L f l) ∧ Hid ((b || left.any (badB f l r)) = clashB L f l r) ∧ Below w.heap.size w wr)
    (fun _ _ wr => wr.rangeLeft bm w.heap.size)
  case atStart => exact ⟨L, 0, bothB r, rfl, rfl, HRG.out, fun _ h => h, HIS.out.nodup, Nat.zero_add _, rfl, hb0⟩
  case round =>
    obtain ⟨left, m, b, rfl, rfl, hrg, hsub, hnd, HM, HB, hb⟩ := hrel
    have HRG2 := Lib.hid hrg
    have HSUB := Lib.hid hsub
    have HND := Lib.hid hnd
    clear hrg hsub hnd
    have HC : ∀ e ∈ left, ∀ wx, Below w.heap.size w wx → wx.cell? ⟨e.blk, 0, none⟩ = some (.int .i64 e.r) := fun e he wx hbx => ((HIS.out.mono hbx).page (HSUB.out e he)).1
    have HHC := Lib.hid HC
    clear HC
    have HR8 := Lib.hid (fun e he => (HIS.out.pg e (HSUB.out e he)).2.2.2.2)
    go_wp2_with (first
      | (at_next; go_must (refine wpList_nextM TM HRG2.out rfl ?_ ?_); intro hl0; rotate_left; intro p w1 hp hr1 hg1 hs1 hen; obtain ⟨e, he, rfl⟩ := List.mem_map.1 hp; rw [filter_keyE] at hr1; simp only [keyE] at hen hr1 ⊢; have hb1 := hb.trans (below_of_grown hg1 hb.size (fun k hk => by cases hk; exact Nat.le_refl _)); have hc := HHC.out e he w1 hb1; clear hp; have HR1 := Lib.hid hr1; clear hr1; obtain ⟨q, hq, hq8, hor⟩ : ∃ q, Hid (q = e.r ||| r) ∧ q < 8 ∧ bits .or .i64 (e.r : Int) (r : Int) = (q : Int) := ⟨_, rfl, or_lt8 (HR8.out e he) hr, or_i8 (HR8.out e he) hr⟩; rcases (by omega : e.n < f ∨ l < e.n ∨ (f ≤ e.n ∧ e.n ≤ l)) with hin | hin | hin; all_goals cases b; all_goals rotate_right)
      | (go_at_call 75; go_must (refine (both_any q _ hq8).mono ?_; rintro e1 w2 ⟨rfl, rfl⟩)))
    all_goals first
      | (go_roundw
         case rel => exact ⟨left.filter (fun x => x.n ≠ e.n), m, _, rfl, rfl, HR1.out, fun x hx => HSUB.out x (List.mem_filter.1 hx).1, (List.filter_sublist.map _).nodup HND.out, (there_out HND.out he (by omega) HM.out HB.out).1, (there_out HND.out he (by omega) HM.out HB.out).2, hb1⟩
         case measure => rw [HR1.out.left_eq, HRG2.out.left_eq, List.length_map, List.length_map]; exact filter_shorter he)
      | (have ht := there_in HND.out he hin.1 hin.2 hq.out HM.out HB.out
         have hm1 : m + 1 ≤ 9223372036854775807 := by omega
         have hw : wrap64 ((m : Int) + 1) = ((m + 1 : Nat) : Int) := by rw [wrap64]; omega
         rw [hw]
         go_roundw
         case rel => exact ⟨left.filter (fun x => x.n ≠ e.n), m + 1, _, rfl, rfl, HR1.out, fun x hx => HSUB.out x (List.mem_filter.1 hx).1, (List.filter_sublist.map _).nodup HND.out, ht.1, by simpa [Hid] using ht.2, hb1⟩
         case measure => rw [HR1.out.left_eq, HRG2.out.left_eq, List.length_map, List.length_map]; exact filter_shorter he)
      | (go_ret2
         obtain rfl : left = [] := List.map_eq_nil_iff.1 hl0
         have e1 := HM.out
         have e2 := HB.out
         simp at e1 e2
         exact ⟨ret2 (nat_eq e1) (bool_eq (by first | exact e2 | exact e2.symm)), hb⟩)
end Go.Proofs.Ytmpelmjhimalpaa
namespace Go.Proofs.Ytmpelmjhimalpaa
open Go.RowKit Go.Fd
def zs : List UInt8 := List.replicate 4096 0
theorem zs_len : zs.length = 4096 := List.length_replicate
theorem build_page (w : World) : (Instr.build 89 #[]).run Try.prog w = .ok (.agg (pgCells 0 zs)) w := by kernel_rfl
theorem box_page (r : Nat) (c : List UInt8) (w : World) : (Instr.box 89 (.agg (pgCells r c))).run Try.prog w = .ok (.pointer (some ⟨w.heap.size, 0, none⟩)) (w.alloc (.cells (pgCells r c) 89)) := by
  rfl
/-- What is told of pages: number, rights, bytes. -/
def vw (L : List Ent) : List (Nat × Nat × List UInt8) := L.map fun e => (e.n, e.r, e.c)
/-- One page gets rights. -/
def addP (V : List (Nat × Nat × List UInt8)) (k r : Nat) : List (Nat × Nat × List UInt8) :=
  if k ∈ V.map (·.1) then V.map (fun x => if x.1 = k then (x.1, x.2.1 ||| r, x.2.2) else x) else V ++ [(k, r, zs)]
/-- So many pages from k on get rights. -/
def mapV (r : Nat) : List (Nat × Nat × List UInt8) → Nat → Nat → List (Nat × Nat × List UInt8)
  | V, _, 0 => V
  | V, k, n + 1 => mapV r (addP V k r) (k + 1) n
theorem vw_key (L : List Ent) : (vw L).map (·.1) = L.map (·.n) := by simp [vw, List.map_map, Function.comp_def]
theorem findE_none {L : List Ent} {k : Nat} (h : findE L k = none) : k ∉ L.map (·.n) := by
  intro hm
  obtain ⟨e, he, rfl⟩ := List.mem_map.1 hm
  have := List.find?_eq_none.1 h e he
  simp at this
theorem vw_set {L : List Ent} {e0 : Ent} (hn : (L.map (·.n)).Nodup) (he : e0 ∈ L) (r : Nat) : vw (setE L e0.n (e0.r ||| r) e0.c) = addP (vw L) e0.n r := by
  rw [addP, if_pos (by rw [vw_key]; exact List.mem_map.2 ⟨e0, he, rfl⟩)]
  unfold vw setE
  rw [List.map_map, List.map_map]
  refine List.map_congr_left fun e hm => ?_
  simp only [Function.comp_apply]
  by_cases h : e.n = e0.n
  · obtain rfl := nodup_inj hn hm he h
    simp
  · simp [h]
theorem vw_new {L : List Ent} {k b r : Nat} (hk : k ∉ L.map (·.n)) : vw (setE (L ++ [⟨k, b, 0, zs⟩]) k r zs) = addP (vw L) k r := by
  rw [addP, if_neg (by rw [vw_key]; exact hk)]
  unfold vw setE
  rw [List.map_append, List.map_append]
  congr 1
  · rw [List.map_map]
    refine List.map_congr_left fun e hm => ?_
    have : e.n ≠ k := fun h => hk (List.mem_map.2 ⟨e, hm, h⟩)
    simp [this]
  · simp
theorem foot_set (bp bm : Nat) (L : List Ent) (n r : Nat) (c : List UInt8) (k : Nat) : foot bp bm (setE L n r c) k ↔ foot bp bm L k := by unfold foot; rw [setE_blk]
theorem len_set (L : List Ent) (n r : Nat) (c : List UInt8) : (setE L n r c).length = L.length := List.length_map _
/-- A new page is put into the map. -/
theorem PagesIs.new {w w1 w2 : World} {base bp bm : Nat} {L : List Ent} (h : PagesIs w base bp bm L) (hw1 : w1 = w.alloc (.cells (pgCells 0 zs) 89)) (hbase : base ≤ w.heap.size) {k : Nat} (hk : k < 18446744073709551616) (hn : k ∉ L.map (·.n))
    (hm : MapIs Try.prog 24 K64 w2 bm (putE (L.map keyE) k (ptr w.heap.size))) (hg : w1.grownBy w2 (some bm)) : PagesIs w2 base bp bm (L ++ [⟨k, w.heap.size, 0, zs⟩]) := by
  subst hw1
  have hne : bp ≠ bm := by
    intro e
    obtain ⟨es, clock, h2, _⟩ := h.hm
    have := h.hp
    rw [e, h2] at this
    cases this
  have hlt : ∀ {b : Nat} {o : Obj}, w.heap[b]? = some o → b ≠ bm → w2.heap[b]? = some o := by
    intro b o hb hbm
    have hl := (Array.getElem?_eq_some_iff.1 hb).1
    rw [hg.block b (by simp; omega) (by simpa using hbm), Below.heap_alloc _ _ _ hl]
    exact hb
  refine ⟨hlt h.hp hne, ?_, h.bp, h.bm, fun e he => ?_, ?_⟩
  · have : putE (L.map keyE) k (ptr w.heap.size) = (L ++ [(⟨k, w.heap.size, 0, zs⟩ : Ent)]).map keyE := by
      rw [putE, if_neg (by rw [List.map_map]; exact hn), List.map_append]
      rfl
    rw [← this]
    exact hm
  · rcases List.mem_append.1 he with he | he
    · obtain ⟨h1, h2⟩ := h.pg e he
      exact ⟨hlt h1 (h.ne he).2, h2⟩
    · obtain rfl := List.mem_singleton.1 he
      refine ⟨?_, zs_len, hbase, hk, (by decide : (0 : Nat) < 8)⟩
      rw [hg.block _ (by simp) (by have := h.hm.lt; simp; omega)]
      exact heap_alloc_new w _
  · rw [List.map_append]
    refine List.nodup_append.2 ⟨h.nd, by simp, fun x hx y hy => ?_⟩
    simp at hy
    subst hy
    obtain ⟨e, he, rfl⟩ := List.mem_map.1 hx
    have := (Array.getElem?_eq_some_iff.1 (h.pg e he).1).1
    omega
set_option maxRecDepth 100000 in
theorem map_arg (v : Value) (w : World) (a n : Nat) (r : Int) (ha : a < 18446744073709551616) (hn : n < 18446744073709551616) (h : r < 1 ∨ 7 < r ∨ n = 0 ∨ 18446744073709551616 < a + n) :
    Calls Try.prog 32 #[v, .int .u64 a, .int .u64 n, .int .i64 r] w fun e w' => e = .returned (.int .i64 1) ∧ w = w' := by
  by_cases hn0 : n = 0
  · subst hn0
    clear h
    have hz : (((0 : Nat) : Int) == 0) = true := rfl
    by_cases h1 : r < 1
    · go_enter Try.func32, Try.ntmps32
      go_wp2_with (go_at_call 59; go_must (refine (last_zero a _ ha).mono ?_; rintro e w1 ⟨⟨x, b, rfl⟩, rfl⟩; cases b))
      all_goals (go_ret; exact ⟨rfl, rfl⟩)
    · by_cases h2 : 7 < r
      all_goals
        go_enter Try.func32, Try.ntmps32
        go_wp2_with (go_at_call 59; go_must (refine (last_zero a _ ha).mono ?_; rintro e w1 ⟨⟨x, b, rfl⟩, rfl⟩; cases b))
        all_goals (go_ret; exact ⟨rfl, rfl⟩)
  · have hz : (((n : Nat) : Int) == 0) = false := by simp; omega
    by_cases ho : 18446744073709551616 < a + n
    · by_cases h1 : r < 1
      · go_enter Try.func32, Try.ntmps32
        go_wp2_with (go_at_call 59; go_must (refine (last_out a n _ ha hn (by omega) ho).mono ?_; rintro e w1 ⟨⟨x, rfl⟩, rfl⟩))
        all_goals (go_ret; exact ⟨rfl, rfl⟩)
      · by_cases h2 : 7 < r
        all_goals
          go_enter Try.func32, Try.ntmps32
          go_wp2_with (go_at_call 59; go_must (refine (last_out a n _ ha hn (by omega) ho).mono ?_; rintro e w1 ⟨⟨x, rfl⟩, rfl⟩))
          all_goals (go_ret; exact ⟨rfl, rfl⟩)
    · by_cases h1 : r < 1
      · go_enter Try.func32, Try.ntmps32
        go_wp2_with (go_at_call 59; go_must (refine (last_in a n _ (by omega) (by omega)).mono ?_; rintro e w1 ⟨rfl, rfl⟩))
        all_goals (go_ret; exact ⟨rfl, rfl⟩)
      · have h2 : 7 < r := by omega
        go_enter Try.func32, Try.ntmps32
        go_wp2_with (go_at_call 59; go_must (refine (last_in a n _ (by omega) (by omega)).mono ?_; rintro e w1 ⟨rfl, rfl⟩))
        all_goals (go_ret; exact ⟨rfl, rfl⟩)
theorem map_nil (w : World) (a n r : Nat) (h : 1 ≤ r) (h7 : r ≤ 7) (hn : 1 ≤ n) (ho : a + n ≤ 18446744073709551616) :
    Calls Try.prog 32 #[.pointer none, .int .u64 a, .int .u64 n, .int .i64 r] w fun e w' => e = .returned (.int .i64 21) ∧ w = w' := by
  have hz : (((n : Nat) : Int) == 0) = false := by simp; omega
  go_enter Try.func32, Try.ntmps32
  go_wp2_with (first
    | (go_at_call 59; go_must (refine (last_in a n _ (by omega) (by omega)).mono ?_; rintro e w1 ⟨rfl, rfl⟩))
    | (go_at_call 27; go_must (refine (none_nil _).mono ?_; rintro e w1 ⟨rfl, rfl⟩)))
  go_ret
  exact ⟨rfl, rfl⟩
set_option maxRecDepth 100000 in
theorem map_clash {base bp bm : Nat} {L : List Ent} (w : World) (hp : PagesIs w base bp bm L) (a n r : Nat) (h : 1 ≤ r) (h7 : r ≤ 7) (hn : 1 ≤ n) (ho : a + n ≤ 18446744073709551616) (hc : clashB L (a / 4096) ((a + n - 1) / 4096) r = true) :
    Calls Try.prog 32 #[ptr bp, .int .u64 a, .int .u64 n, .int .i64 r] w fun e w' => e = .returned (.int .i64 21) ∧ Below w.heap.size w w' := by
  have hz : (((n : Nat) : Int) == 0) = false := by simp; omega
  have HT := Lib.hid (there_is w hp (a / 4096) ((a + n - 1) / 4096) r (by omega) (by omega) (by omega))
  rw [hc, Int.natCast_ediv, Int.natCast_ediv] at HT
  clear hc
  go_enter Try.func32, Try.ntmps32
  go_wp2_with (first
    | (go_at_call 59; go_must (refine (last_in a n _ (by omega) (by omega)).mono ?_; rintro e w1 ⟨rfl, rfl⟩))
    | (go_at_call 27; go_must (refine (none_is _ hp).mono ?_; rintro e w1 ⟨rfl, rfl⟩))
    | (go_at_call 60; go_must (refine HT.out.mono ?_; rintro e w1 ⟨rfl, hb1⟩)))
  go_ret
  exact ⟨rfl, hb1⟩
/-- Would there be too many? -/
def longB (L : List Ent) (f l : Nat) : Bool := decide (4096 ≤ l - f) || decide (4096 < L.length - thereN L f l + (l - f + 1))
theorem thereN_le (L : List Ent) (f l : Nat) : thereN L f l ≤ L.length := List.countP_le_length
set_option maxRecDepth 100000 in
theorem map_long {base bp bm : Nat} {L : List Ent} (w : World) (hp : PagesIs w base bp bm L) (hL : L.length ≤ 1000000) (a n r : Nat) (h : 1 ≤ r) (h7 : r ≤ 7) (hn : 1 ≤ n) (ho : a + n ≤ 18446744073709551616)
    (hc : clashB L (a / 4096) ((a + n - 1) / 4096) r = false) (hg : longB L (a / 4096) ((a + n - 1) / 4096) = true) :
    Calls Try.prog 32 #[ptr bp, .int .u64 a, .int .u64 n, .int .i64 r] w fun e w' => e = .returned (.int .i64 6) ∧ Below w.heap.size w w' := by
  have hz : (((n : Nat) : Int) == 0) = false := by simp; omega
  have HT := Lib.hid (there_is w hp (a / 4096) ((a + n - 1) / 4096) r (by omega) (by omega) (by omega))
  rw [hc, Int.natCast_ediv, Int.natCast_ediv] at HT
  have hle := thereN_le L (a / 4096) ((a + n - 1) / 4096)
  have hg' : 4096 ≤ (a + n - 1) / 4096 - a / 4096 ∨ (a + n - 1) / 4096 - a / 4096 < 4096 ∧ 4096 < L.length - thereN L (a / 4096) ((a + n - 1) / 4096) + ((a + n - 1) / 4096 - a / 4096 + 1) := by
    unfold longB at hg; simp at hg; omega
  have hfl : a / 4096 ≤ (a + n - 1) / 4096 := Nat.div_le_div_right (by omega)
  clear hc hg
  generalize thereN L (a / 4096) ((a + n - 1) / 4096) = q at *
  have HP := Lib.hid hp
  clear hp
  rcases hg' with hg | ⟨hg1, hg2⟩
  · go_enter Try.func32, Try.ntmps32
    go_wp2_with (first
      | (go_at_call 59; go_must (refine (last_in a n _ (by omega) (by omega)).mono ?_; rintro e w1 ⟨rfl, rfl⟩))
      | (go_at_call 27; go_must (refine (none_is _ HP.out).mono ?_; rintro e w1 ⟨rfl, rfl⟩))
      | (go_at_call 60; go_must (refine HT.out.mono ?_; rintro e w1 ⟨rfl, hb1⟩)))
    go_ret
    exact ⟨rfl, hb1⟩
  · go_enter Try.func32, Try.ntmps32
    go_wp2_with (first
      | (go_at_call 59; go_must (refine (last_in a n _ (by omega) (by omega)).mono ?_; rintro e w1 ⟨rfl, rfl⟩))
      | (go_at_call 27; go_must (refine (none_is _ HP.out).mono ?_; rintro e w1 ⟨rfl, rfl⟩))
      | (go_at_call 60; go_must (refine HT.out.mono ?_; rintro e w1 ⟨rfl, hb1⟩; obtain ⟨c0, c1⟩ := (HP.out.mono hb1).cells; have hlen := (HP.out.mono hb1).hm.len (t := 84) (e := 83) TM.ht 3; rw [List.length_map] at hlen)))
    go_ret
    exact ⟨rfl, hb1⟩
end Go.Proofs.Ytmpelmjhimalpaa
namespace Go.Proofs.Ytmpelmjhimalpaa
open Go.RowKit Go.Fd
theorem find_app {L : List Ent} {k : Nat} (h : findE L k = none) (e : Ent) (he : e.n = k) : findE (L ++ [e]) k = some e := by
  unfold findE at *
  rw [List.find?_append, h]
  simp [he]
theorem or_zero8 {r : Nat} (hr : r < 8) : bits .or .i64 0 (r : Int) = (r : Int) := by
  have := or_i8 (r := 0) (q := r) (by omega) hr
  rw [Nat.zero_or] at this
  exact this
theorem foot_app {bp bm : Nat} {L : List Ent} {e : Ent} {k : Nat} (h : foot bp bm (L ++ [e]) k) : foot bp bm L k ∨ k = e.blk := by
  unfold foot at *
  rw [List.map_append, List.mem_append] at h
  rcases h with h | h | h | h
  · exact .inl (.inl h)
  · exact .inl (.inr (.inl h))
  · exact .inl (.inr (.inr h))
  · right; simpa using h
/-- What a round of Map has: the pages that are there, in this world. -/
structure Mapped (w : World) (base bp bm : Nat) (L : List Ent) (wr : World) (L1 : List Ent) (k : Nat) : Prop where
  is : PagesIs wr base bp bm L1
  st : Stirs (foot bp bm L) w wr
  ft : ∀ j, foot bp bm L1 j → foot bp bm L j ∨ w.heap.size ≤ j
  len : L1.length ≤ L.length + k
theorem Mapped.set {w wr : World} {base bp bm : Nat} {L L1 : List Ent} {k : Nat} (h : Mapped w base bp bm L wr L1 k) {e0 : Ent} (he : e0 ∈ L1) {r : Nat} (hr : r < 8) :
    Mapped w base bp bm L (wr.setCell ⟨e0.blk, 0, none⟩ (.int .i64 (r : Int))) (setE L1 e0.n r e0.c) k := by
  obtain ⟨hb, hlen, _, _, _⟩ := h.is.pg e0 he
  have ht : Stirs (· = e0.blk) wr (wr.setCell ⟨e0.blk, 0, none⟩ (.int .i64 (r : Int))) := stirs_setCell _ _ _ _ rfl
  refine ⟨h.is.upd he ht hr hlen ?_, h.st.trans ht ?_, fun j hj => h.ft j ((foot_set ..).1 hj), by rw [len_set]; exact h.len⟩
  · rw [block_set hb, pgCells_rights]
  · intro i hi e
    have := h.ft i (.inr (.inr (e ▸ List.mem_map.2 ⟨e0, he, rfl⟩)))
    rcases this with h | h
    · exact h
    · omega
theorem Mapped.new {w wr w2 : World} {base bp bm : Nat} {L L1 : List Ent} {k : Nat} (h : Mapped w base bp bm L wr L1 k) (hbase : base ≤ w.heap.size) {n : Nat} (hn : n < 18446744073709551616) (hf : findE L1 n = none)
    (hm : MapIs Try.prog 24 K64 w2 bm (putE (L1.map keyE) n (ptr wr.heap.size))) (hg : (wr.alloc (.cells (pgCells 0 zs) 89)).grownBy w2 (some bm)) :
    Mapped w base bp bm L w2 (L1 ++ [⟨n, wr.heap.size, 0, zs⟩]) (k + 1) := by
  refine ⟨h.is.new rfl (Nat.le_trans hbase h.st.size) hn (findE_none hf) hm hg, (h.st.alloc _).trans (Stirs.of_grown (S := (· = bm)) hg (fun k hk => by cases hk; rfl)) (fun i _ e => .inr (.inl e)), fun j hj => ?_, by have := h.len; simp; omega⟩
  rcases foot_app hj with h1 | h1
  · exact h.ft j h1
  · right
    have := h.st.size
    simp at h1
    omega
theorem exec_buildp {e : Operand → Value} {w : World} {d : Option Tmp} {ty : TypeId} {pos : String} {aft : Array Edge} {g : Option (Nat × Bool)} : (execOp e ⟨d, .build 89 #[], ty, pos, aft, g⟩).run Try.prog w = .ok (.value (.agg (pgCells 0 zs))) w := by
  simp [execOp, build_page]
theorem exec_boxp {e : Operand → Value} {w : World} {d : Option Tmp} {x : Operand} {ty : TypeId} {pos : String} {aft : Array Edge} {g : Option (Nat × Bool)} (hx : e x = .agg (pgCells 0 zs)) :
    (execOp e ⟨d, .box 89 x, ty, pos, aft, g⟩).run Try.prog w = .ok (.value (.pointer (some ⟨w.heap.size, 0, none⟩))) (w.alloc (.cells (pgCells 0 zs) 89)) := by
  simp [execOp, hx, box_page]
set_option maxRecDepth 100000 in
set_option maxHeartbeats 400000 in
theorem map_ok {base bp bm : Nat} {L : List Ent} (w : World) (hp : PagesIs w base bp bm L) (hbase : base ≤ w.heap.size) (hL : L.length ≤ 1000000) (a n r : Nat) (h : 1 ≤ r) (h7 : r ≤ 7) (hn : 1 ≤ n) (ho : a + n ≤ 18446744073709551616)
    (hc : clashB L (a / 4096) ((a + n - 1) / 4096) r = false) (hg : longB L (a / 4096) ((a + n - 1) / 4096) = false) :
    Calls Try.prog 32 #[ptr bp, .int .u64 a, .int .u64 n, .int .i64 r] w fun e w' => e = .returned (.int .i64 0) ∧ ∃ L', vw L' = mapV r (vw L) (a / 4096) ((a + n - 1) / 4096 + 1 - a / 4096) ∧ Mapped w base bp bm L w' L' 4096 := by
  have hz : (((n : Nat) : Int) == 0) = false := by simp; omega
  have HT := Lib.hid (there_is w hp (a / 4096) ((a + n - 1) / 4096) r (by omega) (by omega) (by omega))
  rw [hc] at HT
  have hle := thereN_le L (a / 4096) ((a + n - 1) / 4096)
  have hg' : (a + n - 1) / 4096 - a / 4096 < 4096 ∧ L.length - thereN L (a / 4096) ((a + n - 1) / 4096) + ((a + n - 1) / 4096 - a / 4096 + 1) ≤ 4096 := by
    unfold longB at hg; simp at hg; omega
  have hfl : a / 4096 ≤ (a + n - 1) / 4096 := Nat.div_le_div_right (by omega)
  obtain ⟨hg1, hg2⟩ := hg'
  clear hc hg
  generalize thereN L (a / 4096) ((a + n - 1) / 4096) = q at *
  have HP := Lib.hid hp
  clear hp
  have e1 : (((a / 4096 : Nat)) : Int) = (a : Int) / 4096 := Int.natCast_ediv ..
  have e2 : ((((a + n - 1) / 4096 : Nat)) : Int) = ((a + n - 1 : Nat) : Int) / 4096 := Int.natCast_ediv ..
  have hlim : (a + n - 1) / 4096 < 4503599627370496 := by omega
  generalize hF : a / 4096 = F at *
  generalize hG : (a + n - 1) / 4096 = G at *
  have E1 := Lib.hid e1
  have E2 := Lib.hid e2
  clear hF hG
  rw [e1, e2] at HT
  clear e1 e2
  go_enter Try.func32, Try.ntmps32
  go_wp2_with (first
    | (go_at_call 59; go_must (refine (last_in a n _ (by omega) (by omega)).mono ?_; rintro e w1 ⟨rfl, rfl⟩))
    | (go_at_call 27; go_must (refine (none_is _ HP.out).mono ?_; rintro e w1 ⟨rfl, rfl⟩))
    | (go_at_call 60; go_must (refine HT.out.mono ?_; rintro e w1 ⟨rfl, hb1⟩; obtain ⟨c0, c1⟩ := (HP.out.mono hb1).cells; have hlen := (HP.out.mono hb1).hm.len (t := 84) (e := 83) TM.ht 3; rw [List.length_map] at hlen; have e1 := E1.out.symm; have e2 := E2.out.symm)))
  have HM0 := Lib.hid (show Mapped w base bp bm L w1 L 0 from ⟨HP.out.mono hb1, Stirs.of_below hb1, fun _ h => .inl h, by omega⟩)
  have hr8 : r < 8 := by omega
  clear e1 e2 c0 c1 hlen
  go_loopw [15] (fun kv wr => ∃ (k : Nat) (L1 : List Ent), kv = .int .u64 k ∧ F ≤ k ∧ k ≤ G + 1 ∧ Hid (mapV r (vw L1) k (G + 1 - k) = mapV r (vw L) F (G + 1 - F)) ∧ Hid (Mapped w base bp bm L wr L1 (k - F))) (fun kv _ => G + 1 - (intOf kv).toNat)
  case atStart => exact ⟨F, L, rfl, Nat.le_refl _, by omega, rfl, by rw [Nat.sub_self]; exact HM0.out⟩
  case round =>
    obtain ⟨k, L1, rfl, hk1, hk2, HV, HMM⟩ := hrel
    by_cases hlt : k ≤ G
    · have HS := Lib.hid (show mapV r (vw L1) k (G + 1 - k) = mapV r (addP (vw L1) k r) (k + 1) (G + 1 - (k + 1)) by rw [show G + 1 - k = (G + 1 - (k + 1)) + 1 by omega, mapV])
      have HSz := Lib.hid (Nat.le_trans hbase HMM.out.st.size)
      obtain ⟨c0, c1⟩ := HMM.out.is.cells
      cases hf : findE L1 k with
      | some e0 =>
        have hl := HMM.out.is.lookK_some k (by omega) hf
        have HFM := Lib.hid (findE_mem hf)
        have hc := (HMM.out.is.page HFM.out.1).1
        have hr0 := (HMM.out.is.pg e0 HFM.out.1).2.2.2.2
        obtain ⟨q2, HQ, hq2, hor⟩ : ∃ q2, Hid (q2 = e0.r ||| r) ∧ q2 < 8 ∧ bits .or .i64 (e0.r : Int) (r : Int) = (q2 : Int) := ⟨_, rfl, or_lt8 hr0 hr8, or_i8 hr0 hr8⟩
        have hfr := block_free (HMM.out.is.pg e0 HFM.out.1).1 0
        clear hf
        have HV2 := Lib.hid (show mapV r (vw (setE L1 e0.n q2 e0.c)) (k + 1) (G + 1 - (k + 1)) = mapV r (vw L) F (G + 1 - F) by
          rw [HQ.out, vw_set HMM.out.is.nodup HFM.out.1, HFM.out.2, ← HS.out]; exact HV.out)
        have HN := Lib.hid (show Mapped w base bp bm L (wr.setCell ⟨e0.blk, 0, none⟩ (.int .i64 (q2 : Int))) (setE L1 e0.n q2 e0.c) (k + 1 - F) from
          let m := HMM.out.set HFM.out.1 hq2; ⟨m.is, m.st, m.ft, by have := m.len; omega⟩)
        go_wp2
        go_roundw
        case rel => exact ⟨k + 1, _, by go_num, by omega, by omega, HV2.out, HN.out⟩
        case measure => simp [intOf] <;> omega
      | none =>
        have hl := HMM.out.is.lookK_none k (by omega) hf
        have HF := Lib.hid hf
        have hroom : (L1.map keyE).length < maxLen := by have := HMM.out.len; unfold maxLen; rw [List.length_map]; omega
        have HRO := Lib.hid hroom
        have hor := or_zero8 hr8
        clear hf hroom
        go_wp2_with (first
          | (with_reducible show wpList _ _ _ (⟨some 93, _, _, _, _, _⟩ :: _) _ _; go_must (refine wpList_val rfl exec_buildp ?_))
          | (with_reducible show wpList _ _ _ (⟨some 94, _, _, _, _, _⟩ :: _) _ _; go_must (refine wpList_val rfl (exec_boxp rfl) ?_))
          | (at_mapUpdate; go_must (refine wpList_storeM TM (HMM.out.is.hm.mono (below_alloc _ _)) HRO.out (key := k) (key64 k (by omega)) rfl rfl rfl ?_; intro w2 hm2 hg2 hs2; have HNEW := Lib.hid (HMM.out.new hbase (by omega) HF.out hm2 hg2); have HFND := Lib.hid (find_app HF.out ⟨k, wr.heap.size, 0, zs⟩ rfl); clear hm2 hg2 hs2 hl c0 c1; obtain ⟨c0, c1⟩ := HNEW.out.is.cells; have hl := HNEW.out.is.lookK_some k (by omega) HFND.out; have HMEM := Lib.hid (findE_mem HFND.out).1; have hc := (HNEW.out.is.page HMEM.out).1; have hfr := block_free (HNEW.out.is.pg _ HMEM.out).1 0)))
        have hne : k ∉ L1.map (·.n) := findE_none HF.out
        go_roundw
        case rel =>
          have m := HNEW.out.set HMEM.out hr8
          exact ⟨k + 1, _, by go_num, by omega, by omega, by rw [vw_new hne, ← HS.out]; exact HV.out, ⟨m.is, m.st, m.ft, by have := m.len; omega⟩⟩
        case measure => simp [intOf] <;> omega
    · obtain rfl : k = G + 1 := by omega
      go_wp2
      go_ret
      have hv := HV.out
      rw [Nat.sub_self, mapV] at hv
      have m := HMM.out
      exact ⟨rfl, L1, hv, m.is, m.st, m.ft, by have := m.len; omega⟩
end Go.Proofs.Ytmpelmjhimalpaa
namespace Go.Proofs.Ytmpelmjhimalpaa
open Go.RowKit Go.Fd
/-- Pages as they are told: number, rights, bytes. -/
abbrev Vw := List (Nat × Nat × List UInt8)
def findV (V : Vw) (k : Nat) : Option (Nat × Nat × List UInt8) := V.find? (·.1 == k)
theorem findV_vw (L : List Ent) (k : Nat) : findV (vw L) k = (findE L k).map fun e => (e.n, e.r, e.c) := by
  unfold findV findE vw
  rw [List.find?_map]
  rfl
/-- The memory at block bp, in blocks F, all from base on. -/
def Mem (w : World) (base bp : Nat) (F : Nat → Prop) (V : Vw) : Prop := ∃ bm L, PagesIs w base bp bm L ∧ vw L = V ∧ (∀ k, foot bp bm L k → F k)
/-- What a call may add to the blocks. -/
def more (F : Nat → Prop) (w : World) (k : Nat) : Prop := F k ∨ w.heap.size ≤ k
theorem Mem.stirs {w w' : World} {base bp : Nat} {F S : Nat → Prop} {V : Vw} (h : Mem w base bp F V) (ht : Stirs S w w') (hs : ∀ k, F k → ¬ S k) : Mem w' base bp F V := by
  obtain ⟨bm, L, h1, h2, h3⟩ := h
  exact ⟨bm, L, h1.stirs ht fun k hk => hs k (h3 k hk), h2, h3⟩
theorem Mem.mono {w w' : World} {base bp : Nat} {F : Nat → Prop} {V : Vw} (h : Mem w base bp F V) (hb : Below w.heap.size w w') : Mem w' base bp F V := by
  obtain ⟨bm, L, h1, h2, h3⟩ := h
  exact ⟨bm, L, h1.mono hb, h2, h3⟩
theorem Mem.weak {w : World} {base bp : Nat} {F F' : Nat → Prop} {V : Vw} (h : Mem w base bp F V) (hf : ∀ k, F k → F' k) : Mem w base bp F' V := by
  obtain ⟨bm, L, h1, h2, h3⟩ := h
  exact ⟨bm, L, h1, h2, fun k hk => hf k (h3 k hk)⟩
theorem foot_base {w : World} {base bp bm : Nat} {L : List Ent} (h : PagesIs w base bp bm L) (k : Nat) (hk : foot bp bm L k) : base ≤ k ∧ k < w.heap.size := by
  rcases hk with rfl | rfl | hk
  · exact ⟨h.bp, (Array.getElem?_eq_some_iff.1 h.hp).1⟩
  · exact ⟨h.bm, h.hm.lt⟩
  · obtain ⟨e, he, rfl⟩ := List.mem_map.1 hk
    exact ⟨(h.pg e he).2.2.1, (Array.getElem?_eq_some_iff.1 (h.pg e he).1).1⟩
/-- Well formed: what every memory's telling is. -/
structure OkV (V : Vw) : Prop where
  nd : (V.map (·.1)).Nodup
  pg : ∀ x ∈ V, x.1 < 18446744073709551616 ∧ x.2.1 < 8 ∧ x.2.2.length = 4096
def inV (f l : Nat) (x : Nat × Nat × List UInt8) : Bool := decide (f ≤ x.1) && decide (x.1 ≤ l)
def thereV (V : Vw) (f l : Nat) : Nat := V.countP (inV f l)
def clashV (V : Vw) (f l r : Nat) : Bool := bothB r || V.any fun x => inV f l x && bothB (x.2.1 ||| r)
def longV (V : Vw) (f l : Nat) : Bool := decide (4096 ≤ l - f) || decide (4096 < V.length - thereV V f l + (l - f + 1))
theorem there_vw (L : List Ent) (f l : Nat) : thereN L f l = thereV (vw L) f l := by
  unfold thereN thereV vw
  rw [List.countP_map]
  rfl
theorem clash_vw (L : List Ent) (f l r : Nat) : clashB L f l r = clashV (vw L) f l r := by
  unfold clashB clashV vw
  rw [List.any_map]
  rfl
theorem long_vw (L : List Ent) (f l : Nat) : longB L f l = longV (vw L) f l := by
  unfold longB longV
  rw [there_vw, show (vw L).length = L.length from List.length_map _]
/-- Map: what there is behind it, and its error. -/
def mapR (V : Vw) (a n : Nat) (r : Int) : Vw × Int :=
  if r < 1 ∨ 7 < r ∨ n = 0 ∨ 18446744073709551616 < a + n then (V, 1)
  else if clashV V (a / 4096) ((a + n - 1) / 4096) r.toNat = true then (V, 21)
  else if longV V (a / 4096) ((a + n - 1) / 4096) = true then (V, 6)
  else (mapV r.toNat V (a / 4096) ((a + n - 1) / 4096 + 1 - a / 4096), 0)
theorem map_mem {base bp : Nat} {F : Nat → Prop} {V : Vw} (w : World) (h : Mem w base bp F V) (hbase : base ≤ w.heap.size) (hL : V.length ≤ 1000000) (a n : Nat) (r : Int) (ha : a < 18446744073709551616) (hn : n < 18446744073709551616) :
    Calls Try.prog 32 #[ptr bp, .int .u64 a, .int .u64 n, .int .i64 r] w fun e w' => e = .returned (.int .i64 (mapR V a n r).2) ∧ Mem w' base bp (more F w) (mapR V a n r).1 ∧ Stirs F w w' := by
  have h0 := h
  obtain ⟨bm, L, h1, hV, h3⟩ := h
  have hlen : V.length = L.length := by rw [← hV]; exact List.length_map _
  by_cases c1 : r < 1 ∨ 7 < r ∨ n = 0 ∨ 18446744073709551616 < a + n
  · have hr : mapR V a n r = (V, 1) := by unfold mapR; rw [if_pos c1]
    rw [hr]
    exact (map_arg (ptr bp) w a n r ha hn c1).mono fun e w' ⟨he, hw⟩ => ⟨he, hw ▸ h0.weak fun k hk => .inl hk, hw ▸ Stirs.refl _ _⟩
  obtain ⟨r, rfl⟩ := Int.eq_ofNat_of_zero_le (by omega : 0 ≤ r)
  by_cases c2 : clashV V (a / 4096) ((a + n - 1) / 4096) r = true
  · have hr : mapR V a n r = (V, 21) := by unfold mapR; rw [if_neg c1, Int.toNat_natCast, if_pos c2]
    rw [hr]
    exact (map_clash w h1 a n r (by omega) (by omega) (by omega) (by omega) (by rw [clash_vw, hV]; exact c2)).mono fun e w' ⟨he, hb⟩ => ⟨he, (h0.mono hb).weak fun k hk => .inl hk, Stirs.of_below hb⟩
  have c2' : clashB L (a / 4096) ((a + n - 1) / 4096) r = false := by rw [clash_vw, hV]; simpa using c2
  by_cases c3 : longV V (a / 4096) ((a + n - 1) / 4096) = true
  · have hr : mapR V a n r = (V, 6) := by unfold mapR; rw [if_neg c1, Int.toNat_natCast, if_neg c2, if_pos c3]
    rw [hr]
    exact (map_long w h1 (by omega) a n r (by omega) (by omega) (by omega) (by omega) c2' (by rw [long_vw, hV]; exact c3)).mono fun e w' ⟨he, hb⟩ => ⟨he, (h0.mono hb).weak fun k hk => .inl hk, Stirs.of_below hb⟩
  have hr : mapR V a n r = (mapV r V (a / 4096) ((a + n - 1) / 4096 + 1 - a / 4096), 0) := by unfold mapR; rw [if_neg c1, Int.toNat_natCast, if_neg c2, if_neg c3]
  rw [hr]
  refine (map_ok w h1 hbase (by omega) a n r (by omega) (by omega) (by omega) (by omega) c2' (by rw [long_vw, hV]; simpa using c3)).mono ?_
  rintro e w' ⟨he, L', hv, hm⟩
  refine ⟨he, ⟨bm, L', hm.is, by rw [hv, hV], fun k hk => ?_⟩, hm.st.sub fun k _ hk => h3 k hk⟩
  rcases hm.ft k hk with h | h
  · exact .inl (h3 k h)
  · exact .inr h
def rightsV (V : Vw) (k : Nat) : Nat := match findV V k with
  | some x => x.2.1
  | none => 0
theorem new_mem (w : World) : Calls Try.prog 16 #[] w fun e w' => ∃ bp, e = .returned (ptr bp) ∧ Mem w' w.heap.size bp (fun k => w.heap.size ≤ k) [] ∧ Below w.heap.size w w' := by
  refine (new_any w).mono ?_
  rintro e w' ⟨bp, bm, he, hp, hb⟩
  exact ⟨bp, he, ⟨bm, [], hp, rfl, fun k hk => (foot_base hp k hk).1⟩, hb⟩
end Go.Proofs.Ytmpelmjhimalpaa
namespace Go.Proofs.Ytmpelmjhimalpaa
open Go.RowKit Go.Fd
def fixed : Nat → Nat → List UInt8
  | _, 0 => []
  | n, k + 1 => UInt8.ofNat n :: fixed (n / 256) k
theorem length_fixed (n s : Nat) : (fixed n s).length = s := by
  induction s generalizing n with
  | zero => rfl
  | succ s ih => simp [fixed, ih]
theorem fixed_snoc (n s : Nat) : fixed n (s + 1) = fixed n s ++ [UInt8.ofNat (n / 256 ^ s)] := by
  induction s generalizing n with
  | zero => simp [fixed]
  | succ s ih => rw [fixed, ih (n / 256), fixed, List.cons_append, Nat.div_div_eq_div_mul]; congr 4; rw [Nat.pow_succ, Nat.mul_comm]
end Go.Proofs.Ytmpelmjhimalpaa
namespace Go.Proofs.Ytmpelmjhimalpaa
open Go.RowKit Go.Fd
def numLE : List UInt8 → Nat
  | [] => 0
  | c :: r => c.toNat + 256 * numLE r
theorem numLE_lt (l : List UInt8) : numLE l < 256 ^ l.length := by
  induction l with
  | nil => simp [numLE]
  | cons c r ih =>
    have := c.toNat_lt
    rw [numLE, List.length_cons, Nat.pow_succ]
    omega
theorem numLE_drop (l : List UInt8) (k : Nat) (h : k < l.length) : numLE (l.drop k) = (l[k]?.getD 0).toNat + 256 * numLE (l.drop (k + 1)) := by
  rw [List.drop_eq_getElem_cons h, numLE, List.getElem?_eq_getElem h]; rfl
theorem numLE_lt' (l : List UInt8) (m : Nat) (h : l.length ≤ m) : numLE l < 256 ^ m := Nat.lt_of_lt_of_le (numLE_lt l) (Nat.pow_le_pow_right (by omega) h)
theorem or_byte (n : Nat) (c : UInt8) (hn : n < 72057594037927936) : bits .or .u64 ((n : Int) * 256) (c.toNat : Int) = ((c.toNat + 256 * n : Nat) : Int) := by
  have hc := c.toNat_lt
  rw [show (n : Int) * 256 = ((n * 256 : Nat) : Int) by omega, u64_or_nat _ _ (by omega) (by omega), nat_join 8 _ _ (by omega) (by omega)]
  congr 1; omega
end Go.Proofs.Ytmpelmjhimalpaa
namespace Go.Proofs.Ytmpelmjhimalpaa
open Go.RowKit Go.Fd
def okV (r : Nat) : Option (Nat × Nat × List UInt8) → Bool
  | some x => x.2.1 &&& r == r
  | none => false
def mayFromV (V : Vw) (r : Nat) : Nat → Nat → Bool
  | _, 0 => true
  | k, n + 1 => okV r (findV V k) && mayFromV V r (k + 1) n
/-- May the bytes be used so? -/
def mayV (V : Vw) (a n r : Nat) : Bool :=
  if n = 0 then true else if 18446744073709551616 < a + n then false else mayFromV V r (a / 4096) ((a + n - 1) / 4096 + 1 - a / 4096)
theorem may_vw (L : List Ent) (a n r : Nat) : mayB L a n r = mayV (vw L) a n r := by
  unfold mayB mayV
  have : ∀ k m, mayFrom L r k m = mayFromV (vw L) r k m := by
    intro k m
    induction m generalizing k with
    | zero => rfl
    | succ m ih =>
      rw [mayFrom, mayFromV, ih, findV_vw]
      cases findE L k <;> rfl
  rw [this]
theorem mayFromV_get {V : Vw} {r : Nat} : ∀ {m k : Nat}, mayFromV V r k m = true → ∀ j, k ≤ j → j < k + m → okV r (findV V j) = true
  | 0, k, _, j, h1, h2 => by omega
  | m + 1, k, h, j, h1, h2 => by
    rw [mayFromV, Bool.and_eq_true] at h
    by_cases e : j = k
    · subst e; exact h.1
    · exact mayFromV_get h.2 j (by omega) (by omega)
theorem mayFromV_mk {V : Vw} {r : Nat} : ∀ {m k : Nat}, (∀ j, k ≤ j → j < k + m → okV r (findV V j) = true) → mayFromV V r k m = true
  | 0, k, _ => rfl
  | m + 1, k, h => by
    rw [mayFromV, h k (Nat.le_refl _) (by omega), Bool.true_and]
    exact mayFromV_mk fun j h1 h2 => h j (by omega) (by omega)
/-- Each byte lies in a page that may be used so. -/
theorem mayV_iff (V : Vw) (a n r : Nat) : mayV V a n r = true ↔ n = 0 ∨ (a + n ≤ 18446744073709551616 ∧ ∀ i, i < n → okV r (findV V ((a + i) / 4096)) = true) := by
  unfold mayV
  by_cases h0 : n = 0
  · simp [h0]
  rw [if_neg h0]
  by_cases h1 : 18446744073709551616 < a + n
  · rw [if_pos h1]
    simp; omega
  rw [if_neg h1]
  constructor
  · intro h
    refine .inr ⟨by omega, fun i hi => mayFromV_get h _ (Nat.div_le_div_right (by omega)) ?_⟩
    have : (a + i) / 4096 ≤ (a + n - 1) / 4096 := Nat.div_le_div_right (by omega)
    omega
  · rintro (h | ⟨_, h⟩)
    · exact absurd h h0
    · refine mayFromV_mk fun j h2 h3 => ?_
      have hj : j ≤ (a + n - 1) / 4096 := by omega
      by_cases e : j = a / 4096
      · have := h 0 (by omega)
        rw [Nat.add_zero, ← e] at this
        exact this
      · have := h (j * 4096 - a) (by omega)
        rw [show (a + (j * 4096 - a)) / 4096 = j by omega] at this
        exact this
/-- A byte is set. -/
def setBV (V : Vw) (a : Nat) (x : UInt8) : Vw := V.map fun p => if p.1 = a / 4096 then (p.1, p.2.1, p.2.2.set (a % 4096) x) else p
def setV : Vw → Nat → List UInt8 → Vw
  | V, _, [] => V
  | V, a, x :: l => setV (setBV V a x) (a + 1) l
theorem setV_snoc (V : Vw) (a : Nat) (l : List UInt8) (x : UInt8) : setV V a (l ++ [x]) = setBV (setV V a l) (a + l.length) x := by
  induction l generalizing V a with
  | nil => rfl
  | cons y l ih => rw [List.cons_append, setV, ih, setV, List.length_cons, Nat.add_assoc, Nat.add_comm 1]
theorem findV_set (V : Vw) (a : Nat) (x : UInt8) (k : Nat) : findV (setBV V a x) k = (findV V k).map fun p => if k = a / 4096 then (p.1, p.2.1, p.2.2.set (a % 4096) x) else p := by
  unfold findV setBV
  induction V with
  | nil => rfl
  | cons p V ih =>
    rw [List.map_cons, List.find?_cons, List.find?_cons]
    by_cases h1 : p.1 = k
    · rw [show ((if p.1 = a / 4096 then (p.1, p.2.1, p.2.2.set (a % 4096) x) else p).1 == k) = true by split <;> simpa using h1, show (p.1 == k) = true by simpa using h1]
      simp [h1]
    · rw [show ((if p.1 = a / 4096 then (p.1, p.2.1, p.2.2.set (a % 4096) x) else p).1 == k) = false by split <;> simpa using h1, show (p.1 == k) = false by simpa using h1]
      exact ih
theorem findV_setV_some (l : List UInt8) : ∀ (V : Vw) (a k : Nat), (findV (setV V a l) k).isSome = (findV V k).isSome := by
  induction l with
  | nil => intro V a k; rfl
  | cons x l ih => intro V a k; rw [setV, ih, findV_set]; simp
theorem vw_setB {L : List Ent} {a : Nat} {e0 : Ent} (hn : (L.map (·.n)).Nodup) (he : findE L (a / 4096) = some e0) (x : UInt8) : vw (setE L e0.n e0.r (e0.c.set (a % 4096) x)) = setBV (vw L) a x := by
  obtain ⟨hm, hk⟩ := findE_mem he
  unfold vw setE setBV
  rw [List.map_map, List.map_map]
  refine List.map_congr_left fun e hme => ?_
  simp only [Function.comp_apply]
  by_cases h : e.n = e0.n
  · obtain rfl := nodup_inj hn hme hm h
    simp [hk]
  · rw [if_neg h, if_neg (by rw [← hk]; exact h)]
theorem put_mem {base bp : Nat} {F : Nat → Prop} {V : Vw} (w : World) (h : Mem w base bp F V) (a : Nat) (ha : a < 18446744073709551616) (x : UInt8) (he : (findV V (a / 4096)).isSome = true) :
    Calls Try.prog 31 #[ptr bp, .int .u64 a, .int .u8 x.toNat] w fun e w' => e = .returned (.tuple #[]) ∧ Mem w' base bp F (setBV V a x) ∧ Stirs F w w' := by
  obtain ⟨bm, L, h1, rfl, h3⟩ := h
  rw [findV_vw] at he
  cases hf : findE L (a / 4096) with
  | none => rw [hf] at he; cases he
  | some e0 =>
    refine (put_is w h1 a ha x e0 hf).mono ?_
    rintro e w' ⟨h4, h5, h6, _⟩
    refine ⟨h4, ⟨bm, _, h5, vw_setB h1.nodup hf x, fun k hk => h3 k ((foot_set ..).1 hk)⟩, h6.sub fun k _ hk => ?_⟩
    subst hk
    exact h3 _ (.inr (.inr (List.mem_map.2 ⟨e0, (findE_mem hf).1, rfl⟩)))
theorem may_mem {base bp : Nat} {F : Nat → Prop} {V : Vw} (w : World) (h : Mem w base bp F V) (a n r : Nat) (ha : a < 18446744073709551616) (hn : n ≤ 1000000000) (hr : r < 8) :
    Calls Try.prog 28 #[ptr bp, .int .u64 a, .int .i64 n, .int .i64 r] w fun e w' => e = .returned (.bool (mayV V a n r)) ∧ w = w' := by
  obtain ⟨bm, L, h1, rfl, h3⟩ := h
  rw [← may_vw]
  exact may_is w h1 a n r ha hn hr
theorem none_mem {base bp : Nat} {F : Nat → Prop} {V : Vw} (w : World) (h : Mem w base bp F V) : Calls Try.prog 27 #[ptr bp] w fun e w' => e = .returned (.bool false) ∧ w = w' := by
  obtain ⟨bm, L, h1, rfl, h3⟩ := h
  exact none_is w h1
/-- Set: what there is behind it, and its error. -/
def setR (V : Vw) (a : Nat) (l : List UInt8) : Vw × Int := if mayV V a l.length 0 = true then (setV V a l, 0) else (V, 21)
set_option maxRecDepth 100000 in
theorem set_mem {base bp : Nat} {F : Nat → Prop} {V : Vw} (w : World) (h : Mem w base bp F V) (v : Value) (l : List UInt8) (hv : Bs w v l) (hl : l.length ≤ 1000000000) (hF : ∀ k, v.ownBlock = some k → ¬ F k) (a : Nat) (ha : a < 18446744073709551616) :
    Calls Try.prog 35 #[ptr bp, .int .u64 a, v] w fun e w' => e = .returned (.int .i64 (setR V a l).2) ∧ Mem w' base bp F (setR V a l).1 ∧ Stirs F w w' := by
  have HO := Lib.hid hv.open
  have HV := Lib.hid hv
  have HF := Lib.hid hF
  have HM := Lib.hid h
  obtain ⟨ad, cap, rfl, hcap, _, _⟩ := hv.open
  clear hF hv h
  cases hm : mayV V a l.length 0 with
  | false =>
    have HR := Lib.hid (show setR V a l = (V, 21) by unfold setR; rw [hm]; rfl)
    go_enter Try.func35, Try.ntmps35
    go_wp2_with (first
      | (go_at_call 27; go_must (refine (none_mem _ HM.out).mono ?_; rintro e w1 ⟨rfl, rfl⟩))
      | (go_at_call 28; go_must (refine (may_mem _ HM.out a l.length 0 ha hl (by omega)).mono ?_; rintro e w1 ⟨rfl, rfl⟩)))
    go_ret
    rw [HR.out]
    exact ⟨rfl, HM.out, Stirs.refl _ _⟩
  | true =>
    have HR := Lib.hid (show setR V a l = (setV V a l, 0) by unfold setR; rw [hm]; rfl)
    have hi := (mayV_iff V a l.length 0).1 hm
    have HI := Lib.hid hi
    clear hi
    go_enter Try.func35, Try.ntmps35
    go_wp2_with (first
      | (go_at_call 27; go_must (refine (none_mem _ HM.out).mono ?_; rintro e w1 ⟨rfl, rfl⟩))
      | (go_at_call 28; go_must (refine (may_mem _ HM.out a l.length 0 ha hl (by omega)).mono ?_; rintro e w1 ⟨rfl, rfl⟩)))
    clear hm
    go_loopw [21] (fun i wr => ∃ k : Nat, i = .int .i64 k ∧ k ≤ l.length ∧ Hid (Mem wr base bp F (setV V a (l.take k))) ∧ Hid (Stirs F w wr)) (fun i _ => l.length - (intOf i).toNat)
    case atStart => exact ⟨0, rfl, Nat.zero_le _, HM.out, Stirs.refl _ _⟩
    case round =>
      obtain ⟨k, rfl, hk, HK, HS⟩ := hrel
      by_cases hlt : k < l.length
      · obtain ⟨ad', cap', e1, _, _, hc⟩ := HO.out
        cases e1
        obtain ⟨b, off, rfl, hcell⟩ := hc k hlt
        have hc1 := HS.out.cell hcell (HF.out b rfl)
        have hak : a + k < 18446744073709551616 := by rcases HI.out with h | h <;> omega
        have HSM := Lib.hid (show (findV (setV V a (l.take k)) ((a + k) / 4096)).isSome = true by
          rw [findV_setV_some]
          rcases HI.out with h | h
          · omega
          · have := h.2 k hlt
            cases hf : findV V ((a + k) / 4096) with
            | none => rw [hf] at this; cases this
            | some x => rfl)
        have HT := Lib.hid (take_snoc' l k (l[k]?.getD 0) (by rw [List.getElem?_eq_getElem hlt]; rfl))
        have HTL := Lib.hid (show (l.take k).length = k by rw [List.length_take]; omega)
        clear hcell hc
        generalize l[k]?.getD 0 = x at *
        go_wp2_with (go_at_call 31; go_must (refine (put_mem _ HK.out (a + k) hak x HSM.out).mono ?_; rintro e w1 ⟨rfl, hm1, hs1⟩))
        go_roundw
        case rel => exact ⟨k + 1, by go_num, by omega, by rw [HT.out, setV_snoc, HTL.out]; exact hm1, HS.out.trans hs1 fun _ _ h => h⟩
        case measure => simp [intOf] <;> omega
      · obtain rfl : k = l.length := by omega
        go_wp2
        go_ret
        have := HK.out
        rw [List.take_length] at this
        rw [HR.out]
        exact ⟨rfl, this, HS.out⟩
end Go.Proofs.Ytmpelmjhimalpaa
namespace Go.Proofs.Ytmpelmjhimalpaa
open Go.RowKit Go.Fd
theorem szB_iff (n : Int) : szB n = true ↔ n = 1 ∨ n = 2 ∨ n = 4 ∨ n = 8 := by unfold szB; rw [decide_eq_true_iff]
/-- Store: what there is behind it, and its error. -/
def storeR (V : Vw) (a : Nat) (n : Int) (x : Nat) : Vw × Int := if szB n = true then (if mayV V a n.toNat 2 = true then (setV V a (fixed x n.toNat), 0) else (V, 21)) else (V, 1)
theorem store_bad (v : Value) (w : World) (a : Nat) (n : Int) (x : Nat) (h : szB n = false) : Calls Try.prog 11 #[v, .int .u64 a, .int .i64 n, .int .u64 x] w fun e w' => e = .returned (.int .i64 1) ∧ w = w' := by
  go_enter Try.func11, Try.ntmps11
  go_wp2_with (go_at_call 30; go_must (refine (sized_any n _).mono ?_; rintro e w1 ⟨rfl, rfl⟩))
  go_ret
  exact ⟨rfl, rfl⟩
theorem load_bad (v : Value) (w : World) (a : Nat) (n : Int) (h : szB n = false) : Calls Try.prog 10 #[v, .int .u64 a, .int .i64 n] w fun e w' => e = .returned (.tuple #[.int .u64 0, .int .i64 1]) ∧ w = w' := by
  go_enter Try.func10, Try.ntmps10
  go_wp2_with (go_at_call 30; go_must (refine (sized_any n _).mono ?_; rintro e w1 ⟨rfl, rfl⟩))
  go_ret2
  exact ⟨rfl, rfl⟩
theorem bytes_bad (v : Value) (w : World) (a : Nat) (n : Int) (h : n < 0 ∨ 1048576 < n) : Calls Try.prog 9 #[v, .int .u64 a, .int .i64 n] w fun e w' => e = .returned (.tuple #[.slice none 0 0, .int .i64 1]) ∧ w = w' := by
  by_cases h1 : n < 0
  all_goals
    go_enter Try.func9, Try.ntmps9
    go_wp2
    go_ret2
    exact ⟨rfl, rfl⟩
theorem byte_of (x k : Nat) : (((UInt8.ofNat (x / 256 ^ k)).toNat : Nat) : Int) = (x : Int) / 2 ^ (8 * k) % 256 := by
  rw [u8_of, show (2 : Int) ^ (8 * k) = ((256 ^ k : Nat) : Int) by rw [show (256 : Nat) = 2 ^ 8 from rfl, ← Nat.pow_mul]; simp]
  omega
set_option maxRecDepth 100000 in
theorem store_mem {base bp : Nat} {F : Nat → Prop} {V : Vw} (w : World) (h : Mem w base bp F V) (a : Nat) (ha : a < 18446744073709551616) (n : Int) (x : Nat) :
    Calls Try.prog 11 #[ptr bp, .int .u64 a, .int .i64 n, .int .u64 x] w fun e w' => e = .returned (.int .i64 (storeR V a n x).2) ∧ Mem w' base bp F (storeR V a n x).1 ∧ Stirs F w w' := by
  cases hs : szB n with
  | false =>
    have hr : storeR V a n x = (V, 1) := by unfold storeR; rw [hs]; rfl
    rw [hr]
    exact (store_bad _ w a n x hs).mono fun e w' ⟨he, hw⟩ => ⟨he, hw ▸ h, hw ▸ Stirs.refl _ _⟩
  | true =>
  have hn := (szB_iff n).1 hs
  obtain ⟨n, rfl⟩ := Int.eq_ofNat_of_zero_le (by omega : 0 ≤ n)
  have hn8 : n ≤ 8 := by omega
  clear hn
  have HM := Lib.hid h
  have HSZ := Lib.hid (sized_any n w)
  rw [hs] at HSZ
  clear h
  cases hm : mayV V a n 2 with
  | false =>
    have HR := Lib.hid (show storeR V a n x = (V, 21) by unfold storeR; rw [if_pos hs, Int.toNat_natCast, hm]; rfl)
    clear hs
    go_enter Try.func11, Try.ntmps11
    go_wp2_with (first
      | (go_at_call 30; go_must (refine HSZ.out.mono ?_; rintro e w1 ⟨rfl, rfl⟩))
      | (go_at_call 27; go_must (refine (none_mem _ HM.out).mono ?_; rintro e w1 ⟨rfl, rfl⟩))
      | (go_at_call 28; go_must (refine (may_mem _ HM.out a n 2 ha (by omega) (by omega)).mono ?_; rintro e w1 ⟨rfl, rfl⟩)))
    go_ret
    rw [HR.out]
    exact ⟨rfl, HM.out, Stirs.refl _ _⟩
  | true =>
    have HR := Lib.hid (show storeR V a n x = (setV V a (fixed x n), 0) by unfold storeR; rw [if_pos hs, Int.toNat_natCast, if_pos hm])
    have HI := Lib.hid ((mayV_iff V a n 2).1 hm)
    clear hs
    go_enter Try.func11, Try.ntmps11
    go_wp2_with (first
      | (go_at_call 30; go_must (refine HSZ.out.mono ?_; rintro e w1 ⟨rfl, rfl⟩))
      | (go_at_call 27; go_must (refine (none_mem _ HM.out).mono ?_; rintro e w1 ⟨rfl, rfl⟩))
      | (go_at_call 28; go_must (refine (may_mem _ HM.out a n 2 ha (by omega) (by omega)).mono ?_; rintro e w1 ⟨rfl, rfl⟩)))
    clear hm
    go_loopw [25] (fun i wr => ∃ k : Nat, i = .int .i64 k ∧ k ≤ n ∧ Hid (Mem wr base bp F (setV V a (fixed x k))) ∧ Hid (Stirs F w wr)) (fun i _ => n - (intOf i).toNat)
    case atStart => exact ⟨0, rfl, Nat.zero_le _, HM.out, Stirs.refl _ _⟩
    case round =>
      obtain ⟨k, rfl, hk, HK, HS⟩ := hrel
      by_cases hlt : k < n
      · have hak : a + k < 18446744073709551616 := by rcases HI.out with h | h <;> omega
        have HSM := Lib.hid (show (findV (setV V a (fixed x k)) ((a + k) / 4096)).isSome = true by
          rw [findV_setV_some]
          rcases HI.out with h | h
          · omega
          · have := h.2 k hlt
            cases hf : findV V ((a + k) / 4096) with
            | none => rw [hf] at this; cases this
            | some x => rfl)
        have HP := Lib.hid (put_mem wr HK.out (a + k) hak (UInt8.ofNat (x / 256 ^ k)) HSM.out)
        rw [byte_of] at HP
        have HFX := Lib.hid (fixed_snoc x k)
        have HL := Lib.hid (length_fixed x k)
        go_wp2_with (go_at_call 31; go_must (refine HP.out.mono ?_; rintro e w1 ⟨rfl, hm1, hs1⟩))
        go_roundw
        case rel => exact ⟨k + 1, by go_num, by omega, by rw [HFX.out, setV_snoc, HL.out]; exact hm1, HS.out.trans hs1 fun _ _ h => h⟩
        case measure => simp [intOf] <;> omega
      · obtain rfl : k = n := by omega
        go_wp2
        go_ret
        rw [HR.out]
        exact ⟨rfl, HK.out, HS.out⟩
/-- A byte of the memory. -/
def getV (V : Vw) (a : Nat) : UInt8 := match findV V (a / 4096) with
  | some x => x.2.2[a % 4096]?.getD 0
  | none => 0
def bytesV (V : Vw) (a n : Nat) : List UInt8 := (List.range n).map fun i => getV V (a + i)
theorem bytesV_len (V : Vw) (a n : Nat) : (bytesV V a n).length = n := by simp [bytesV]
theorem bytesV_succ (V : Vw) (a n : Nat) : bytesV V a (n + 1) = bytesV V a n ++ [getV V (a + n)] := by simp [bytesV, List.range_succ]
theorem bytesV_get (V : Vw) (a n k : Nat) (h : k < n) : (bytesV V a n)[k]?.getD 0 = getV V (a + k) := by simp [bytesV, h]
theorem get_mem {base bp : Nat} {F : Nat → Prop} {V : Vw} (w : World) (h : Mem w base bp F V) (a : Nat) (ha : a < 18446744073709551616) (he : (findV V (a / 4096)).isSome = true) :
    Calls Try.prog 29 #[ptr bp, .int .u64 a] w fun e w' => e = .returned (.int .u8 (getV V a).toNat) ∧ w = w' := by
  obtain ⟨bm, L, h1, rfl, h3⟩ := h
  have hg : getV (vw L) a = match findE L (a / 4096) with | some e => e.c[a % 4096]?.getD 0 | none => 0 := by
    unfold getV
    rw [findV_vw]
    cases findE L (a / 4096) <;> rfl
  rw [findV_vw] at he
  cases hf : findE L (a / 4096) with
  | none => rw [hf] at he; cases he
  | some e0 =>
    rw [hg, hf]
    exact get_is w h1 a ha e0 hf
theorem may_some {V : Vw} {a n r : Nat} (h : mayV V a n r = true) {k : Nat} (hk : k < n) : a + n ≤ 18446744073709551616 ∧ (findV V ((a + k) / 4096)).isSome = true := by
  rcases (mayV_iff V a n r).1 h with h | ⟨h1, h2⟩
  · omega
  · refine ⟨h1, ?_⟩
    have := h2 k hk
    cases hf : findV V ((a + k) / 4096) with
    | none => rw [hf] at this; cases this
    | some x => rfl
def loadR (V : Vw) (a : Nat) (n : Int) : Nat × Int := if szB n = true then (if mayV V a n.toNat 4 = true then (numLE (bytesV V a n.toNat), 0) else (0, 21)) else (0, 1)
set_option maxRecDepth 100000 in
theorem load_mem {base bp : Nat} {F : Nat → Prop} {V : Vw} (w : World) (h : Mem w base bp F V) (a : Nat) (ha : a < 18446744073709551616) (n : Int) :
    Calls Try.prog 10 #[ptr bp, .int .u64 a, .int .i64 n] w fun e w' => e = .returned (.tuple #[.int .u64 (loadR V a n).1, .int .i64 (loadR V a n).2]) ∧ w = w' := by
  cases hs : szB n with
  | false =>
    have hr : loadR V a n = (0, 1) := by unfold loadR; rw [hs]; rfl
    rw [hr]
    exact load_bad _ w a n hs
  | true =>
  have hn := (szB_iff n).1 hs
  obtain ⟨n, rfl⟩ := Int.eq_ofNat_of_zero_le (by omega : 0 ≤ n)
  have hn8 : n ≤ 8 := by omega
  clear hn
  have HM := Lib.hid h
  have HSZ := Lib.hid (sized_any n w)
  rw [hs] at HSZ
  clear h
  cases hm : mayV V a n 4 with
  | false =>
    have HR := Lib.hid (show loadR V a n = (0, 21) by unfold loadR; rw [if_pos hs, Int.toNat_natCast, hm]; rfl)
    clear hs
    go_enter Try.func10, Try.ntmps10
    go_wp2_with (first
      | (go_at_call 30; go_must (refine HSZ.out.mono ?_; rintro e w1 ⟨rfl, rfl⟩))
      | (go_at_call 27; go_must (refine (none_mem _ HM.out).mono ?_; rintro e w1 ⟨rfl, rfl⟩))
      | (go_at_call 28; go_must (refine (may_mem _ HM.out a n 4 ha (by omega) (by omega)).mono ?_; rintro e w1 ⟨rfl, rfl⟩)))
    go_ret2
    rw [HR.out]
    exact ⟨rfl, rfl⟩
  | true =>
    have HR := Lib.hid (show loadR V a n = (numLE (bytesV V a n), 0) by unfold loadR; rw [if_pos hs, Int.toNat_natCast, if_pos hm])
    have HI := Lib.hid (fun (k : Nat) (hk : k < n) => may_some hm hk)
    clear hs
    go_enter Try.func10, Try.ntmps10
    go_wp2_with (first
      | (go_at_call 30; go_must (refine HSZ.out.mono ?_; rintro e w1 ⟨rfl, rfl⟩))
      | (go_at_call 27; go_must (refine (none_mem _ HM.out).mono ?_; rintro e w1 ⟨rfl, rfl⟩))
      | (go_at_call 28; go_must (refine (may_mem _ HM.out a n 4 ha (by omega) (by omega)).mono ?_; rintro e w1 ⟨rfl, rfl⟩)))
    clear hm
    go_loop [8, 9] (fun x i => ∃ k : Nat, k ≤ n ∧ i = .int .i64 ((k : Int) - 1) ∧ x = .int .u64 (numLE ((bytesV V a n).drop k))) (fun _ i => (intOf i + 1).toNat)
    case atStart => exact ⟨n, Nat.le_refl _, rfl, by rw [List.drop_of_length_le (by rw [bytesV_len]; exact Nat.le_refl _)]; rfl⟩
    case round =>
      obtain ⟨k, hk, rfl, rfl⟩ := hrel
      by_cases h : 0 < k
      · obtain ⟨k, rfl⟩ : ∃ j, k = j + 1 := ⟨k - 1, by omega⟩
        have hi := HI.out k (by omega)
        have hak : a + k < 18446744073709551616 := by omega
        have HG := Lib.hid (get_mem w HM.out (a + k) hak hi.2)
        have hb : numLE ((bytesV V a n).drop (k + 1)) < 256 ^ 7 := numLE_lt' _ 7 (by rw [List.length_drop, bytesV_len]; omega)
        have HB := Lib.hid (numLE_drop (bytesV V a n) k (by rw [bytesV_len]; omega))
        rw [bytesV_get V a n k (by omega)] at HB
        have HO := Lib.hid (or_byte (numLE ((bytesV V a n).drop (k + 1))) (getV V (a + k)) hb)
        have hb' : (numLE ((bytesV V a n).drop (k + 1)) : Int) < 72057594037927936 := by omega
        have hu := (getV V (a + k)).toNat_lt
        clear hi hb
        generalize numLE ((bytesV V a n).drop (k + 1)) = m at *
        generalize getV V (a + k) = c at *
        go_wp2_with (go_at_call 29; go_must (refine HG.out.mono ?_; rintro e w1 ⟨rfl, rfl⟩))
        go_round
        case rel => exact ⟨k, by omega, by go_num, by rw [HB.out, ← HO.out]⟩
        case measure => simp [intOf] <;> omega
      · obtain rfl : k = 0 := by omega
        go_wp2
        go_ret2
        rw [HR.out]
        exact ⟨rfl, rfl⟩
def bytesR (V : Vw) (a : Nat) (n : Int) : List UInt8 × Int := if n < 0 ∨ 1048576 < n then ([], 1) else if mayV V a n.toNat 4 = true then (bytesV V a n.toNat, 0) else ([], 21)
theorem set_fill (A : List UInt8) (k n : Nat) (h : k < n) (hA : A.length = k) (x : UInt8) : (A ++ List.replicate (n - k) 0).set k x = A ++ [x] ++ List.replicate (n - (k + 1)) 0 := by
  subst hA
  rw [List.set_append_right _ _ (Nat.le_refl _), Nat.sub_self, show n - A.length = (n - (A.length + 1)) + 1 by omega, List.replicate_succ, List.set_cons_zero, List.append_assoc]
  rfl
set_option maxRecDepth 100000 in
theorem bytes_mem {base bp : Nat} {F : Nat → Prop} {V : Vw} (w : World) (h : Mem w base bp F V) (a : Nat) (ha : a < 18446744073709551616) (n : Int) :
    Calls Try.prog 9 #[ptr bp, .int .u64 a, .int .i64 n] w fun e w' => ∃ v, e = .returned (.tuple #[v, .int .i64 (bytesR V a n).2]) ∧ OB w' w.heap.size v (bytesR V a n).1 ∧ Below w.heap.size w w' := by
  by_cases hbad : n < 0 ∨ 1048576 < n
  · have hr : bytesR V a n = ([], 1) := by unfold bytesR; rw [if_pos hbad]
    rw [hr]
    exact (bytes_bad _ w a n hbad).mono fun e w' ⟨he, hw⟩ => ⟨_, he, OB.nil _ _, hw ▸ Below.refl _ _⟩
  obtain ⟨n, rfl⟩ := Int.eq_ofNat_of_zero_le (by omega : 0 ≤ n)
  have hn : n ≤ 1048576 := by omega
  have HM := Lib.hid h
  clear h
  cases hm : mayV V a n 4 with
  | false =>
    have HR := Lib.hid (show bytesR V a n = ([], 21) by unfold bytesR; rw [if_neg hbad, Int.toNat_natCast, hm]; rfl)
    clear hbad
    go_enter Try.func9, Try.ntmps9
    go_wp2_with (first
      | (go_at_call 27; go_must (refine (none_mem _ HM.out).mono ?_; rintro e w1 ⟨rfl, rfl⟩))
      | (go_at_call 28; go_must (refine (may_mem _ HM.out a n 4 ha (by omega) (by omega)).mono ?_; rintro e w1 ⟨rfl, rfl⟩)))
    go_ret2
    rw [HR.out]
    exact ⟨_, rfl, OB.nil _ _, Below.refl _ _⟩
  | true =>
    have HR := Lib.hid (show bytesR V a n = (bytesV V a n, 0) by unfold bytesR; rw [if_neg hbad, Int.toNat_natCast, if_pos hm])
    have HI := Lib.hid (fun (k : Nat) (hk : k < n) => may_some hm hk)
    clear hbad
    go_enter Try.func9, Try.ntmps9
    go_wp2_with (first
      | (go_at_call 27; go_must (refine (none_mem _ HM.out).mono ?_; rintro e w1 ⟨rfl, rfl⟩))
      | (go_at_call 28; go_must (refine (may_mem _ HM.out a n 4 ha (by omega) (by omega)).mono ?_; rintro e w1 ⟨rfl, rfl⟩))
      | (with_reducible show wpList _ _ _ (⟨some 28, _, _, _, _, _⟩ :: _) _ _; go_must (refine wpList_makeB n rfl rfl rfl rfl (by omega) ?_; intro v1 w1 hv1 hb1; obtain ⟨m, ad, cap, hmn, rfl, _, _⟩ := hv1.shape)))
    have hmn' : m = n := by have := hmn.out; rw [List.length_replicate] at this; exact this
    subst hmn'
    clear hm
    have HV1 := Lib.hid hv1
    clear hv1
    go_loopw [31] (fun i wr => ∃ k : Nat, i = .int .i64 k ∧ k ≤ m ∧ Hid (OB wr w.heap.size (.slice ad m cap) (bytesV V a k ++ List.replicate (m - k) 0)) ∧ Below w.heap.size w wr) (fun i _ => m - (intOf i).toNat)
    case atStart => exact ⟨0, rfl, Nat.zero_le _, by simpa [bytesV, Hid] using HV1.out, hb1⟩
    case round =>
      obtain ⟨k, rfl, hk, HK, hb⟩ := hrel
      by_cases hlt : k < m
      · have hi := HI.out k hlt
        have hak : a + k < 18446744073709551616 := by omega
        have HG := Lib.hid (get_mem wr (HM.out.mono hb) (a + k) hak hi.2)
        have HBS := Lib.hid (bytesV_succ V a k)
        have hlen : (bytesV V a k ++ List.replicate (m - k) 0).length = m := by rw [List.length_append, bytesV_len, List.length_replicate]; omega
        obtain ⟨g, cap', e1, hg0, hg1, _, _, hfz⟩ := HK.out.open (by omega)
        rw [hlen] at e1
        simp only [Value.slice.injEq, true_and] at e1
        obtain ⟨rfl, rfl⟩ := e1
        have hk1 := HK.out
        obtain ⟨v0, hc0⟩ : ∃ v0, wr.cell? ⟨g, k, none⟩ = some v0 := by
          have := HK.out.open (by omega)
          rw [hlen] at this
          obtain ⟨g', cap'', e2, _, _, _, hc, _⟩ := this
          simp only [Value.slice.injEq, true_and, Option.some.injEq, Addr.mk.injEq, and_true] at e2
          obtain ⟨rfl, rfl⟩ := e2
          exact ⟨_, hc k hlt⟩
        have hf0 := hfz k
        have HLEN := Lib.hid hlen
        clear hlen hfz hk1 hi
        generalize hc : getV V (a + k) = c at *
        clear hc
        go_wp2_with (go_at_call 29; go_must (refine HG.out.mono ?_; rintro e w1 ⟨rfl, rfl⟩))
        go_roundw
        case rel =>
          refine ⟨k + 1, by go_num, by omega, ?_, hb.setCell hg0 _⟩
          have h2 := OB.stored (l := bytesV V a k ++ List.replicate (m - k) 0) (w := wr) (base := w.heap.size) (g := g) (cap := cap) (by rw [HLEN.out]; exact HK.out) k c
          rw [HLEN.out, set_fill _ _ _ hlt (bytesV_len V a k), ← HBS.out] at h2
          exact h2
        case measure => simp [intOf] <;> omega
      · obtain rfl : k = m := by omega
        go_wp2
        go_ret2
        rw [HR.out]
        have := HK.out
        rw [Nat.sub_self, List.replicate_zero, List.append_nil] at this
        exact ⟨_, rfl, this, hb⟩
end Go.Proofs.Ytmpelmjhimalpaa
namespace Go.Proofs.Ytmpelmjhimalpaa
open Go.RowKit Go.Fd
theorem findV_key {V : Vw} {k : Nat} {x : Nat × Nat × List UInt8} (h : findV V k = some x) : x ∈ V ∧ x.1 = k := ⟨List.mem_of_find?_eq_some h, by have := List.find?_some h; simpa using this⟩
theorem findV_none {V : Vw} {k : Nat} : findV V k = none ↔ k ∉ V.map (·.1) := by
  unfold findV
  rw [List.find?_eq_none]
  constructor
  · intro h hm
    obtain ⟨x, hx, rfl⟩ := List.mem_map.1 hm
    have := h x hx
    simp at this
  · intro h x hx e
    exact h (List.mem_map.2 ⟨x, hx, by simpa using e⟩)
theorem findV_add (V : Vw) (k r j : Nat) : findV (addP V k r) j = if j = k then some (match findV V k with | some x => (x.1, x.2.1 ||| r, x.2.2) | none => (k, r, zs)) else findV V j := by
  unfold addP
  by_cases hk : k ∈ V.map (·.1)
  · rw [if_pos hk]
    have hf : ∀ j, findV (V.map fun x => if x.1 = k then (x.1, x.2.1 ||| r, x.2.2) else x) j = (findV V j).map fun x => if x.1 = k then (x.1, x.2.1 ||| r, x.2.2) else x := by
      intro j
      unfold findV
      clear hk
      induction V with
      | nil => rfl
      | cons p V ih =>
        rw [List.map_cons, List.find?_cons, List.find?_cons]
        by_cases h1 : p.1 = j
        · rw [show ((if p.1 = k then (p.1, p.2.1 ||| r, p.2.2) else p).1 == j) = true by split <;> simpa using h1, show (p.1 == j) = true by simpa using h1]
          rfl
        · rw [show ((if p.1 = k then (p.1, p.2.1 ||| r, p.2.2) else p).1 == j) = false by split <;> simpa using h1, show (p.1 == j) = false by simpa using h1]
          exact ih
    rw [hf]
    by_cases hj : j = k
    · subst hj
      rw [if_pos rfl]
      cases h : findV V j with
      | none => exact absurd hk (findV_none.1 h)
      | some x =>
        have := (findV_key h).2
        simp [this]
    · rw [if_neg hj]
      cases h : findV V j with
      | none => rfl
      | some x =>
        have := (findV_key h).2
        simp [this, hj]
  · rw [if_neg hk]
    have h0 := findV_none.2 hk
    by_cases hj : j = k
    · subst hj
      rw [if_pos rfl, h0]
      unfold findV at *
      rw [List.find?_append, h0]
      simp
    · rw [if_neg hj]
      unfold findV
      rw [List.find?_append]
      have : List.find? (fun x => x.1 == j) [(k, r, zs)] = none := by simp; exact fun e => hj e.symm
      rw [this, Option.or_none]
theorem rights_add (V : Vw) (k r j : Nat) : rightsV (addP V k r) j = if j = k then rightsV V j ||| r else rightsV V j := by
  unfold rightsV
  rw [findV_add]
  by_cases hj : j = k
  · subst hj
    rw [if_pos rfl, if_pos rfl]
    cases findV V j <;> simp
  · rw [if_neg hj, if_neg hj]
theorem rights_map (r : Nat) : ∀ (n : Nat) (V : Vw) (k j : Nat), rightsV (mapV r V k n) j = if k ≤ j ∧ j < k + n then rightsV V j ||| r else rightsV V j
  | 0, V, k, j => by rw [mapV, if_neg (by omega)]
  | n + 1, V, k, j => by
    rw [mapV, rights_map r n, rights_add]
    by_cases h : j = k
    · subst h
      rw [if_neg (by omega), if_pos rfl, if_pos (by omega)]
    · rw [if_neg h]
      by_cases h2 : k + 1 ≤ j ∧ j < k + 1 + n
      · rw [if_pos h2, if_pos (by omega)]
      · rw [if_neg h2, if_neg (by omega)]
theorem length_add {V : Vw} {k : Nat} (r : Nat) (h : k ∉ V.map (·.1)) : (addP V k r).length = V.length + 1 := by unfold addP; rw [if_neg h, List.length_append]; rfl
theorem key_add {V : Vw} {k r j : Nat} : j ∈ (addP V k r).map (·.1) ↔ j ∈ V.map (·.1) ∨ j = k := by
  have h1 : ∀ (W : Vw) (i : Nat), i ∈ W.map (·.1) ↔ (findV W i).isSome = true := fun W i => by
    cases h : findV W i with
    | none => simp [findV_none.1 h]
    | some x =>
      have := findV_key h
      simp only [Option.isSome_some, iff_true]
      exact List.mem_map.2 ⟨x, this⟩
  rw [h1, h1, findV_add]
  by_cases hj : j = k
  · simp [hj]
  · simp [hj]
theorem length_map (r : Nat) : ∀ (n : Nat) (V : Vw) (k : Nat), (∀ j, k ≤ j → j < k + n → j ∉ V.map (·.1)) → (mapV r V k n).length = V.length + n
  | 0, V, k, _ => rfl
  | n + 1, V, k, h => by
    rw [mapV, length_map r n, length_add r (h k (Nat.le_refl _) (by omega))]
    · omega
    · intro j h1 h2 hm
      rcases key_add.1 hm with hm | hm
      · exact h j (by omega) (by omega) hm
      · omega
theorem key_map {r : Nat} : ∀ {n : Nat} {V : Vw} {k j : Nat}, j ∈ (mapV r V k n).map (·.1) ↔ j ∈ V.map (·.1) ∨ (k ≤ j ∧ j < k + n)
  | 0, V, k, j => by rw [mapV]; constructor; exact .inl; rintro (h | h); exact h; omega
  | n + 1, V, k, j => by
    rw [mapV, key_map, key_add]
    constructor
    · rintro ((h | h) | h)
      · exact .inl h
      · exact .inr (by omega)
      · exact .inr (by omega)
    · rintro (h | h)
      · exact .inl (.inl h)
      · by_cases e : j = k
        · exact .inl (.inr e)
        · exact .inr (by omega)
end Go.Proofs.Ytmpelmjhimalpaa
namespace Go.Proofs.Ytmpelmjhimalpaa
open Go.RowKit Go.Fd
theorem numLE_fixP (n s : Nat) : numLE (fixed n s) = n % 256 ^ s := by
  induction s generalizing n with
  | zero => simp [fixed, numLE, Nat.mod_one]
  | succ s ih =>
    rw [fixed, numLE, ih, u8_of, Nat.pow_succ, Nat.mul_comm (256 ^ s) 256, Nat.mod_mul]
theorem ok_set {V : Vw} (h : OkV V) (a : Nat) (x : UInt8) : OkV (setBV V a x) := by
  have hk : (setBV V a x).map (·.1) = V.map (·.1) := by
    unfold setBV
    rw [List.map_map]
    refine List.map_congr_left fun p _ => ?_
    simp only [Function.comp_apply]
    split <;> rfl
  refine ⟨by rw [hk]; exact h.nd, fun p hp => ?_⟩
  obtain ⟨q, hq, rfl⟩ := List.mem_map.1 hp
  obtain ⟨h1, h2, h3⟩ := h.pg q hq
  split
  · exact ⟨h1, h2, by simp only; rw [List.length_set]; exact h3⟩
  · exact ⟨h1, h2, h3⟩
theorem getV_set {V : Vw} (h : OkV V) (a : Nat) (x : UInt8) (he : (findV V (a / 4096)).isSome = true) (j : Nat) : getV (setBV V a x) j = if j = a then x else getV V j := by
  unfold getV
  rw [findV_set]
  cases hf : findV V (j / 4096) with
  | none =>
    have : j ≠ a := fun e => by subst e; rw [hf] at he; cases he
    simp [this]
  | some p =>
    have hl := (h.pg p (findV_key hf).1).2.2
    simp only [Option.map_some]
    by_cases hj : j = a
    · subst hj
      rw [if_pos rfl, if_pos rfl]
      rw [List.getElem?_set_self (by rw [hl]; exact Nat.mod_lt _ (by omega))]
      rfl
    · rw [if_neg hj]
      by_cases hk : j / 4096 = a / 4096
      · rw [if_pos hk]
        simp only [List.getElem?_set]
        rw [if_neg (fun e => hj (by omega))]
      · rw [if_neg hk]
theorem getV_setV : ∀ (l : List UInt8) {V : Vw} (_ : OkV V) (a : Nat) (_ : ∀ i, i < l.length → (findV V ((a + i) / 4096)).isSome = true) (j : Nat),
    getV (setV V a l) j = if a ≤ j ∧ j < a + l.length then l[j - a]?.getD 0 else getV V j
  | [], V, _, a, _, j => by rw [setV, if_neg (by rw [List.length_nil]; omega)]
  | x :: l, V, h, a, he, j => by
    rw [setV, getV_setV l (ok_set h a x) (a + 1) (fun i hi => by
      have := he (i + 1) (by simp; omega)
      rw [show a + (i + 1) = a + 1 + i by omega] at this
      rw [findV_set]; simpa using this), getV_set h a x (he 0 (by simp))]
    by_cases h1 : a + 1 ≤ j ∧ j < a + 1 + l.length
    · rw [if_pos h1, if_pos (by simp; omega), show j - a = (j - (a + 1)) + 1 by omega, List.getElem?_cons_succ]
    · rw [if_neg h1]
      by_cases h2 : j = a
      · subst h2
        rw [if_pos rfl, if_pos (by simp), Nat.sub_self]
        rfl
      · rw [if_neg h2, if_neg (by simp at h1 ⊢; omega)]
end Go.Proofs.Ytmpelmjhimalpaa
namespace Go.Fd
open Go.RowKit
/-- v reads as the list l. -/
def Rd {α : Type} (mk : α → Value) (w : World) (v : Value) (l : List α) : Prop := Reads w 1 v l.length (l.map mk)
/-- v owns the list l, in a block from 'base' on. -/
def Ow {α : Type} (mk : α → Value) (e : TypeId) (w : World) (base : Nat) (v : Value) (l : List α) : Prop := w.ownsRow base e 1 v l.length (l.map mk)
section
variable {α : Type} {mk : α → Value} {e : TypeId} {w w' : World} {base : Nat} {v : Value} {l : List α}
theorem Ow.rd (h : Ow mk e w base v l) : Rd mk w v l := Reads.of_owns h
theorem Ow.nil (mk : α → Value) (e : TypeId) (w : World) (base : Nat) : Ow mk e w base (.slice none 0 0) [] := World.ownsRow_nil _ _ _ _
theorem Rd.mono (h : Rd mk w v l) (hb : Below w.heap.size w w') : Rd mk w' v l := Reads.mono h hb
theorem Ow.mono (h : Ow mk e w base v l) (hb : Below w.heap.size w w') : Ow mk e w' base v l := owns_mono h hb
theorem Rd.open (d : α) (h : Rd mk w v l) : ∃ a cap, v = .slice a l.length cap ∧ l.length ≤ cap ∧ (a = none → cap = 0) ∧
    ∀ i, i < l.length → ∃ b off, a = some ⟨b, off, none⟩ ∧ w.cell? ⟨b, off + i, none⟩ = some (mk (l[i]?.getD d)) := by
  obtain ⟨h1, a, cap, h2, h3, h0, h4⟩ := h
  refine ⟨a, cap, h2, h3, h0, fun i hi => ?_⟩
  obtain ⟨b, off, e1, e2⟩ := h4 i (by simpa using hi)
  refine ⟨b, off, e1, e2.trans ?_⟩
  simp [List.getElem?_map, List.getElem?_eq_getElem hi]
theorem Rd.shape (h : Rd mk w v l) : ∃ m a cap, Hid (m = l.length) ∧ v = .slice a m cap ∧ m ≤ cap ∧ (a = none → cap = 0) := Reads.shape h
end
section
variable {P : Program} {ops : Array Oper} {rest : List Oper} {Q : Exit → Act → World → Prop} {a : Act} {w : World} {α : Type} {mk : α → Value} {e : TypeId}
/-- 'v = append(v, x)'. -/
theorem wpList_pushE {t bytes : Nat} (T : SliceT P t e 1 bytes) {d : Option Tmp} {ty : TypeId} {pos : String} {aft : Array Edge} {s x : Operand} {v : Value} {base : Nat} {l : List α} (hown : Ow mk e w base v l)
    (hs : a.eval s = v) (hx : a.eval x = .slice (some ⟨w.heap.size, 0, none⟩) 1 1) {u : Value} (c : α) (hc : u = mk c) (h1 : (mk c).oneCell' = true) (hn : (l.length + 1) * bytes ≤ 140737488355328) (hb8 : 1 ≤ bytes) (hb : base ≤ w.heap.size)
    (h : ∀ v' w', Ow mk e w' base v' (l ++ [c]) → w.grownBy w' v.ownBlock → Below base w w' → wpList P ops Q rest (a.put d v') w') :
    wpList P ops Q (⟨d, .call { callee := .builtin .append, args := #[s, x], argTypes := #[t, t] }, ty, pos, aft, none⟩ :: rest) a (w.alloc (.cells #[u] e)) := by
  subst hc
  refine wpList_push T hown hs hx rfl (by simp [h1]) hn (by have := Nat.le_mul_of_pos_right (l.length + 1) hb8; omega) hb fun v' w' h1 h2 h3 => h v' w' ?_ h2 h3
  unfold Ow
  rw [List.length_append, List.map_append]
  exact h1
end
/-- Rows of unlike elements lie in unlike blocks. -/
theorem own_apart {w : World} {b1 b2 e1 e2 s1 s2 n1 n2 : Nat} {v1 v2 : Value} {xs1 xs2 : List Value} (h1 : w.ownsRow b1 e1 s1 v1 n1 xs1) (h2 : w.ownsRow b2 e2 s2 v2 n2 xs2) (hne : e1 ≠ e2) {k : Nat} (hk : v1.ownBlock = some k) : v2.ownBlock ≠ some k := by
  intro hk2
  rcases h1.2 with ⟨rfl, _⟩ | ⟨g1, c1, u1, rfl, _, hg1, _⟩
  · cases hk
  rcases h2.2 with ⟨rfl, _⟩ | ⟨g2, c2, u2, rfl, _, hg2, _⟩
  · cases hk2
  simp only [Value.ownBlock, Option.some.injEq] at hk hk2
  subst hk hk2
  rw [hg1] at hg2
  simp at hg2
  exact hne hg2.2
theorem owns_grown {w w' : World} {base e size n : Nat} {v : Value} {xs : List Value} {row : Option Nat} (h : w.ownsRow base e size v n xs) (hg : w.grownBy w' row) (hne : ∀ k, v.ownBlock = some k → row ≠ some k) : w'.ownsRow base e size v n xs :=
  owns_stirs (S := fun k => row = some k) h (Stirs.of_grown hg fun _ h => h) hne
/-- A row lies in no map's block. -/
theorem own_noMap {w : World} {base e size n : Nat} {v : Value} {xs : List Value} (h : w.ownsRow base e size v n xs) {b : Nat} {es : Array MapEntry} {c : Nat} (hb : w.heap[b]? = some (.map es c)) : v.ownBlock ≠ some b := by
  intro hk
  rcases h.2 with ⟨rfl, _⟩ | ⟨g1, c1, u1, rfl, _, hg1, _⟩
  · cases hk
  simp only [Value.ownBlock, Option.some.injEq] at hk
  subst hk
  rw [hg1] at hb
  cases hb
end Go.Fd
namespace Go.Proofs.Ytmpelmjhimalpaa
open Go.RowKit Go.Fd
theorem strCells_mk (m : List UInt8) : Lib.strCells ⟨m.toArray⟩ = m.map B := by simp [Lib.strCells]
/-- 'append(tab, s...)', s a string. -/
theorem wpList_catS {ops : Array Oper} {rest : List Oper} {Q : Exit → Act → World → Prop} {a : Act} {w : World} {d : Option Tmp} {ty : TypeId} {pos : String} {aft : Array Edge} {s x : Operand} {v : Value} {base : Nat} {l m : List UInt8} (hown : OB w base v l)
    (hs : a.eval s = v) (hx : a.eval x = S m) (hn : l.length + m.length ≤ 140737488355328) (hb : base ≤ w.heap.size)
    (h : ∀ v' w', OB w' base v' (l ++ m) → w.grownBy w' v.ownBlock → Below base w w' → wpList Try.prog ops Q rest (a.put d v') w') :
    wpList Try.prog ops Q (⟨d, .call { callee := .builtin .append, args := #[s, x], argTypes := #[22, 9] }, ty, pos, aft, none⟩ :: rest) a w := by
  obtain ⟨i, z, h1', h2, h3, h4, h5⟩ := TB.info
  have hz : i.zero = some (.int .u8 0) := by
    obtain ⟨i', g1, g2, _⟩ := info_parts (P := Try.prog) (e := 5) (z := .int .u8 0) (size := 1) (bytes := 1) (by kernel_rfl)
    rw [h1'] at g1
    cases g1
    exact g2
  have hsz : (⟨m.toArray⟩ : ByteArray).size = m.length := by simp [ByteArray.size]
  refine Lib.wpList_append_own_string _ rfl s x 22 9 rfl base 5 i TB.ht (by kernel_rfl) h1' hz h3 h4 v l.length (l.map B) hs hown ⟨m.toArray⟩ hx (by rw [hsz]; exact maxLen_of hn) (by rw [hsz]; exact hn) hb fun v' w' h1 h2 _ => ?_
  refine h v' w' ?_ h2 (owns_below hown h2 hb)
  unfold OB
  rw [List.length_append, List.map_append, ← strCells_mk, ← hsz]
  exact h1
end Go.Proofs.Ytmpelmjhimalpaa
namespace Go.Fd
open Go.RowKit
/-- v reads as the list l, k cells an element. -/
def RdR {α : Type} (k : Nat) (enc : α → List Value) (w : World) (v : Value) (l : List α) : Prop := Reads w k v l.length (l.flatMap enc)
/-- v owns the list l. -/
def OwR {α : Type} (k : Nat) (enc : α → List Value) (e : TypeId) (w : World) (base : Nat) (v : Value) (l : List α) : Prop := w.ownsRow base e k v l.length (l.flatMap enc)
theorem flat_len {α : Type} {k : Nat} {enc : α → List Value} (hk : ∀ x, (enc x).length = k) (l : List α) : (l.flatMap enc).length = l.length * k := by
  induction l with
  | nil => simp
  | cons x l ih => rw [List.flatMap_cons, List.length_append, ih, hk, List.length_cons, Nat.succ_mul]; omega
theorem flat_len' {α β : Type} {k : Nat} {f : α → List β} (hk : ∀ x, (f x).length = k) (l : List α) : (l.flatMap f).length = l.length * k := by
  induction l with
  | nil => simp
  | cons x l ih => rw [List.flatMap_cons, List.length_append, ih, hk, List.length_cons, Nat.succ_mul]; omega
theorem flat_get {α : Type} {k : Nat} {enc : α → List Value} (hk : ∀ x, (enc x).length = k) : ∀ (l : List α) (i c : Nat) (x : α), l[i]? = some x → c < k → (l.flatMap enc)[i * k + c]? = (enc x)[c]? := by
  intro l
  induction l with
  | nil => intro i c x h; simp at h
  | cons y l ih =>
    intro i c x h hc
    rw [List.flatMap_cons]
    cases i with
    | zero =>
      simp at h
      subst h
      rw [Nat.zero_mul, Nat.zero_add, List.getElem?_append_left (by rw [hk]; exact hc)]
    | succ i =>
      have e : (i + 1) * k + c - (enc y).length = i * k + c := by rw [hk, Nat.succ_mul]; omega
      rw [List.getElem?_append_right (by rw [hk, Nat.succ_mul]; omega), e]
      exact ih i c x (by simpa using h) hc
section
variable {α : Type} {k : Nat} {enc : α → List Value} {e : TypeId} {w w' : World} {base : Nat} {v : Value} {l : List α}
theorem OwR.rd (h : OwR k enc e w base v l) : RdR k enc w v l := Reads.of_owns h
theorem OwR.nil (k : Nat) (enc : α → List Value) (e : TypeId) (w : World) (base : Nat) : OwR k enc e w base (.slice none 0 0) [] := World.ownsRow_nil _ _ _ _
theorem RdR.nil (k : Nat) (enc : α → List Value) (w : World) : RdR k enc w (.slice none 0 0) [] := Reads.nil w k
theorem RdR.mono (h : RdR k enc w v l) (hb : Below w.heap.size w w') : RdR k enc w' v l := Reads.mono h hb
theorem OwR.mono (h : OwR k enc e w base v l) (hb : Below w.heap.size w w') : OwR k enc e w' base v l := owns_mono h hb
theorem OwR.rebase {base' : Nat} (h : OwR k enc e w base v l) (hb : base' ≤ base) : OwR k enc e w base' v l := owns_base h hb
theorem RdR.shape (h : RdR k enc w v l) : ∃ m a cap, Hid (m = l.length) ∧ v = .slice a m cap ∧ m ≤ cap ∧ (a = none → cap = 0) := Reads.shape h
theorem OwR.shape (h : OwR k enc e w base v l) : ∃ m a cap, Hid (m = l.length) ∧ v = .slice a m cap ∧ m ≤ cap ∧ (a = none → cap = 0) := h.rd.shape
/-- Opened: the cells of the record at a place. -/
theorem RdR.open (h : RdR k enc w v l) (hk : ∀ x, (enc x).length = k) : ∃ a cap, v = .slice a l.length cap ∧ l.length ≤ cap ∧ (a = none → cap = 0) ∧
    ∀ i x, l[i]? = some x → 0 < k → ∃ b off, a = some ⟨b, off, none⟩ ∧ ∀ c, c < k → w.cell? ⟨b, off + (i * k + c), none⟩ = (enc x)[c]? := by
  obtain ⟨h1, a, cap, h2, h3, h0, h4⟩ := h
  refine ⟨a, cap, h2, h3, h0, fun i x hi hk0 => ?_⟩
  have hlt := (List.getElem?_eq_some_iff.1 hi).1
  have hin : ∀ c, c < k → i * k + c < (l.flatMap enc).length := fun c hc => by
    rw [flat_len hk]
    have : (i + 1) * k ≤ l.length * k := Nat.mul_le_mul_right k hlt
    rw [Nat.succ_mul] at this
    omega
  obtain ⟨b, off, e1, -⟩ := h4 (i * k + 0) (hin 0 hk0)
  refine ⟨b, off, e1, fun c hc => ?_⟩
  obtain ⟨b', off', e2, e3⟩ := h4 (i * k + c) (hin c hc)
  rw [e1] at e2
  cases e2
  rw [e3]
  exact flat_get hk l i c x hi hc
end
section
variable {P : Program} {ops : Array Oper} {rest : List Oper} {Q : Exit → Act → World → Prop} {a : Act} {w : World} {α : Type} {k : Nat} {enc : α → List Value} {e : TypeId}
end
end Go.Fd
namespace Go.Fd
open Go.RowKit
/-- o depends on operation j. -/
def depB (o : Oper) (j : Nat) : Bool := o.after.any fun e => e.on == j && Region.binds .any e
/-- Slot t holds, when operation i is run, what it held ahead of the region. -/
def oldB (l : List Oper) (i t : Nat) : Bool := l.zipIdx.all fun (o, k) => o.dst != some t || k == i || depB o i
/-- Each operation has a slot of its own, below n, and depends on earlier ones alone. -/
def persB (l : List Oper) (n : Nat) : Bool :=
  l.zipIdx.all fun (o, k) => (match o.dst with | some d => decide (d < n) | none => false) && o.after.all (fun e => !Region.binds .any e || decide (e.on < k)) && l.zipIdx.all fun (o', k') => k == k' || o.dst != o'.dst
def putAll (vs : Nat → Value) : Nat → List Oper → Act → Act
  | _, [], a => a
  | k, o :: r, a => putAll vs (k + 1) r (a.put o.dst (vs k))
theorem put_size (a : Act) (d : Option Tmp) (v : Value) : (a.put d v).tmps.size = a.tmps.size := by cases d <;> simp [Act.put]
theorem put_defers (a : Act) (d : Option Tmp) (v : Value) : (a.put d v).defers = a.defers := by cases d <;> rfl
theorem put_get_ne (a : Act) (d : Option Tmp) (v : Value) (t : Nat) (h : d ≠ some t) : (a.put d v).eval (.tmp t) = a.eval (.tmp t) := by
  cases d with
  | none => rfl
  | some d =>
    have hne : d ≠ t := fun e => h (by rw [e])
    simp [Act.put, Act.eval, Array.getD_eq_getD_getElem?, hne]
theorem put_get_eq (a : Act) (d : Nat) (v : Value) (h : d < a.tmps.size) : (a.put (some d) v).eval (.tmp d) = v := by
  simp [Act.put, Act.eval, Array.getD_eq_getD_getElem?, h]
theorem act_ext {a b : Act} (h1 : a.tmps.size = b.tmps.size) (h2 : a.defers = b.defers) (h3 : ∀ t, a.eval (.tmp t) = b.eval (.tmp t)) : a = b := by
  cases a with
  | mk at_ ad =>
    cases b with
    | mk bt bd =>
      simp only at h1 h2
      subst h2
      congr 1
      apply Array.ext h1
      intro i hi1 hi2
      have := h3 i
      simpa [Act.eval, Array.getD_eq_getD_getElem?, Array.getElem?_eq_getElem hi1, Array.getElem?_eq_getElem hi2] using this
theorem putAll_size (vs : Nat → Value) : ∀ (k : Nat) (l : List Oper) (a : Act), (putAll vs k l a).tmps.size = a.tmps.size
  | _, [], _ => rfl
  | k, o :: r, a => by rw [putAll, putAll_size, put_size]
theorem putAll_defers (vs : Nat → Value) : ∀ (k : Nat) (l : List Oper) (a : Act), (putAll vs k l a).defers = a.defers
  | _, [], _ => rfl
  | k, o :: r, a => by rw [putAll, putAll_defers, put_defers]
theorem putAll_old (vs : Nat → Value) (t : Nat) : ∀ (k : Nat) (l : List Oper) (a : Act), (∀ o ∈ l, o.dst ≠ some t) → (putAll vs k l a).eval (.tmp t) = a.eval (.tmp t)
  | _, [], _, _ => rfl
  | k, o :: r, a, h => by rw [putAll, putAll_old vs t (k + 1) r _ (fun o ho => h o (by simp [ho])), put_get_ne _ _ _ _ (h o (by simp))]
theorem putAll_new (vs : Nat → Value) (t : Nat) : ∀ (k : Nat) (l : List Oper) (a : Act) (j : Nat) (o : Oper), l[j]? = some o → o.dst = some t → t < a.tmps.size → (∀ j' o', l[j']? = some o' → o'.dst = some t → j' = j) →
    (putAll vs k l a).eval (.tmp t) = vs (k + j)
  | _, [], _, _, _, h, _, _, _ => by simp at h
  | k, x :: r, a, 0, o, h, hd, hs, hu => by
    simp at h; subst h
    rw [putAll, putAll_old vs t (k + 1) r]
    · rw [hd]; exact put_get_eq _ _ _ hs
    · intro o' ho' e
      obtain ⟨j', hj'⟩ := List.getElem?_of_mem ho'
      have := hu (j' + 1) o' (by simpa using hj') e
      omega
  | k, x :: r, a, j + 1, o, h, hd, hs, hu => by
    rw [putAll, putAll_new vs t (k + 1) r _ j o (by simpa using h) hd (by rw [put_size]; exact hs) (fun j' o' h1 h2 => by have := hu (j' + 1) o' (by simpa using h1) h2; omega)]
    congr 1; omega
theorem persB_spec {l : List Oper} {n : Nat} (h : persB l n = true) {k : Nat} {o : Oper} (ho : l[k]? = some o) :
    (∃ d, o.dst = some d ∧ d < n) ∧ (∀ e ∈ o.after, Region.binds .any e = true → e.on < k) ∧ ∀ k' o', l[k']? = some o' → k' ≠ k → o'.dst ≠ o.dst := by
  unfold persB at h
  rw [List.all_eq_true] at h
  have hm : (o, k) ∈ l.zipIdx := by rw [List.mem_zipIdx_iff_getElem?]; exact ho
  have := h _ hm
  simp only [Bool.and_eq_true, Array.all_eq_true_iff_forall_mem, List.all_eq_true, Bool.or_eq_true, decide_eq_true_eq, Bool.not_eq_true'] at this
  obtain ⟨⟨h1, h2⟩, h3⟩ := this
  refine ⟨?_, fun e he hb => ?_, fun k' o' ho' hne he => ?_⟩
  · cases hd : o.dst with
    | none => rw [hd] at h1; simp at h1
    | some d => rw [hd] at h1; exact ⟨d, rfl, by simpa using h1⟩
  · rcases h2 e he with h | h
    · rw [hb] at h; cases h
    · exact h
  · have hm' : (o', k') ∈ l.zipIdx := by rw [List.mem_zipIdx_iff_getElem?]; exact ho'
    have := h3 _ hm'
    simp only [beq_iff_eq, bne_iff_ne, ne_eq] at this
    rcases this with h | h
    · exact hne h.symm
    · exact h he.symm
theorem depB_of {o : Oper} {j : Nat} (h : depB o j = true) : ∃ e ∈ o.after, e.on = j ∧ Region.binds .any e = true := by
  unfold depB at h
  rw [Array.any_eq_true'] at h
  obtain ⟨e, he, h⟩ := h
  simp only [Bool.and_eq_true, beq_iff_eq] at h
  exact ⟨e, he, h.1, h.2⟩
section
variable {P : Program} {l : List Oper} {V : Nat → Value → World → Prop} {a0 : Act} {w0 : World}
theorem getD_lt {listed : Array Bool} {i : Nat} (h : i < listed.size) : listed.getD i true = listed.getD i false := by
  simp [Array.getD_eq_getD_getElem?, Array.getElem?_eq_getElem h]
theorem getD_set_true' {listed : Array Bool} {i j : Nat} (h : listed.getD j true = true) : (listed.setIfInBounds i true).getD j true = true := by
  by_cases hij : i = j
  · subst hij
    by_cases hi : i < listed.size
    · simp [Array.getD_eq_getD_getElem?, hi]
    · simp [Array.getD_eq_getD_getElem?, hi]
  · rw [getD_set_ne _ hij]; exact h
theorem getD_set_self {listed : Array Bool} {i : Nat} (d : Bool) (h : i < listed.size) : (listed.setIfInBounds i true).getD i d = true := by
  simp [Array.getD_eq_getD_getElem?, h]
end
/-! ### One operation -/
section
variable {P : Program} {l : List Oper} {o : Oper} {a : Act} {w : World} {R : Value → World → Prop}
end
section
variable {P : Program} {l : List Oper} {a : Act} {w : World} {d : Option Tmp} {ty : TypeId} {pos : String} {aft : Array Edge} {g : Option (Nat × Bool)}
theorem run_call {f : FuncId} {fn : Func} {args : Array Operand} {ts : Array TypeId} {vals : Array Value} (hf : P.funcs[f]? = some fn) (hn : (fn.name == "runtime.NumGoroutine") = false) {c : Code} (hb : fn.body = some c) (hx : args.map a.eval = vals) :
    (execOp a.eval ⟨d, .call { callee := .value (.func f), args := args, argTypes := ts }, ty, pos, aft, g⟩).run P w = .ok (.enter f vals) w := by
  have h1 : fn.name ≠ "runtime.NumGoroutine" := by simpa using hn
  have hc : (callFunc f vals).run P w = .ok (.enter f vals) w := by
    simp [callFunc, hf, h1, hb]
  simp only [execOp, resolve, hx]
  show Sem.run P (do let d ← Deferred.ofValue (Value.func (.func f) #[] #[]) vals; invoke d.target d.args) w = _
  simp [Deferred.ofValue, invoke, hc]
end
end Go.Fd
namespace Go.Proofs.Ytmpelmjhimalpaa
open Go.RowKit Go.Fd
/-- The bytes ahead of the next 0. -/
def upto0 : List UInt8 → Option (List UInt8)
  | [] => none
  | c :: r => if c = 0 then some [] else (upto0 r).map (c :: ·)
def textR (l : List UInt8) (at_ : Int) : List UInt8 × Int :=
  if at_ < 0 ∨ (l.length : Int) < at_ then ([], 5) else match upto0 (l.drop at_.toNat) with
    | none => ([], 2)
    | some g => (g, 0)
theorem bytesOf_nums (l : List UInt8) : Lib.bytesOf (l.map fun c => (c.toNat : Int)) = l := by
  unfold Lib.bytesOf
  rw [List.map_map]
  conv => rhs; rw [← List.map_id l]
  apply List.map_congr_left
  intro c _
  simp
theorem run_indexByteAt {P : Program} (w : World) (ad : Addr) (c : Nat) (l : List UInt8) (cv : Int) (hc : ∀ j x, (l.map fun c => (c.toNat : Int))[j]? = some x → w.cell? (ad.add j) = some (.int .u8 x)) :
    (Extern.BytealgIndexByte.indexByte #[.slice (some ad) l.length c, .int .u8 cv]).run P w = .ok (.int .i64 (Lib.indexByte l cv.toNat.toUInt8)) w := by
  have hl := Lib.run_loadBytesX (P := P) w (l.map fun c => (c.toNat : Int)) ad .empty hc
  rw [List.length_map] at hl
  have hs := Lib.run_indexByteString (P := P) ⟨l.toArray⟩ cv w
  rw [bytesOf_nums] at hl
  have he : (⟨ByteArray.empty.data ++ l.toArray⟩ : ByteArray) = ⟨l.toArray⟩ := by
    apply ByteArray.ext
    show (#[] : Array UInt8) ++ l.toArray = l.toArray
    simp
  rw [he] at hl
  change Sem.run P (do
    let b ← Extern.Bytes.bytesOf (.slice (some ad) l.length c)
    let c ← Extern.Bytes.asByte (.int .u8 cv)
    match (List.range b.size).find? fun i => b[i]! == c with
    | some i => pure (goInt i)
    | none => pure (goInt (-1))) w = _
  change Sem.run P (do
    let b ← Extern.Bytes.bytesOf (.string ⟨l.toArray⟩)
    let c ← Extern.Bytes.asByte (.int .u8 cv)
    match (List.range b.size).find? fun i => b[i]! == c with
    | some i => pure (goInt i)
    | none => pure (goInt (-1))) w = _ at hs
  simp only [Extern.Bytes.bytesOf, Sem.run_bind, Sem.run_pure, hl, Result.andThen] at hs ⊢
  exact hs
theorem indexByte_any (l : List UInt8) (c : UInt8) (v : Value) (w : World) (hl : l.length ≤ 1000000000) (hv : Bs w v l) :
    Calls Try.prog 88 #[v, .int .u8 c.toNat] w fun e w' => e = .returned (.int .i64 (Lib.indexByte l c)) ∧ w = w' := by
  have hrun : ∀ wx, wx = w → (callFunc 93 #[v, .int .u8 c.toNat]).run Try.prog wx = .ok (.value (.int .i64 (Lib.indexByte l c))) wx := by
    rintro wx rfl
    rw [run_callFunc_extern Try.func93 (by kernel_rfl) (by kernel_rfl) (by kernel_rfl) (e := Extern.BytealgIndexByte.indexByte) (by kernel_rfl)]
    obtain ⟨h1, a, cap, rfl, h3, h0, h4⟩ := hv
    have hcc : UInt8.ofNat (Int.toNat (c.toNat : Int)) = c := by simp
    cases a with
    | none =>
      obtain rfl := h0 rfl
      obtain rfl : l = [] := List.eq_nil_of_length_eq_zero (by omega)
      rw [show (([] : List UInt8).length) = 0 from rfl, Lib.run_indexByteNil wx 0 0 (c.toNat : Int)]
      rfl
    | some ad =>
      rw [run_indexByteAt wx ad cap l (c.toNat : Int) (fun j x hj => by
        rw [List.getElem?_map] at hj
        cases hx : l[j]? with
        | none => rw [hx] at hj; simp at hj
        | some y =>
          rw [hx] at hj
          simp at hj
          subst hj
          have hjl : j < l.length := (List.getElem?_eq_some_iff.1 hx).1
          obtain ⟨b, off, e1, e2⟩ := h4 j (by simpa using hjl)
          cases e1
          have e3 : (⟨b, off, none⟩ : Addr).add j = ⟨b, off + j, none⟩ := by unfold Addr.add; split <;> simp_all
          rw [e3, e2, List.getElem?_map, hx]; rfl)]
      simp [Result.andThen]
  have hrun2 := hrun w rfl
  clear hrun hv
  go_enter Try.func88, Try.ntmps88
  go_wp2
  go_ret
  exact ⟨rfl, rfl⟩
theorem indexByte_upto0 (l : List UInt8) : Lib.indexByte l 0 = match upto0 l with | none => -1 | some g => (g.length : Int) := by
  induction l with
  | nil => rfl
  | cons c r ih =>
    rw [Lib.indexByte, upto0]
    by_cases h : c = 0
    · simp [h]
    · rw [if_neg h]
      simp only [beq_iff_eq, h, if_false]
      cases hr : upto0 r with
      | none => rw [hr] at ih; simp [ih]
      | some g => rw [hr] at ih; simp only at ih; rw [ih]; simp <;> omega
theorem upto0_prefix (l g : List UInt8) (h : upto0 l = some g) : g = l.take g.length ∧ g.length < l.length := by
  induction l generalizing g with
  | nil => simp [upto0] at h
  | cons c r ih =>
    rw [upto0] at h
    split at h
    · simp at h; subst h; simp
    · cases hr : upto0 r with
      | none => rw [hr] at h; simp at h
      | some x =>
        rw [hr] at h; simp at h; subst h
        obtain ⟨h1, h2⟩ := ih x hr
        refine ⟨?_, by simpa using h2⟩
        rw [List.length_cons, List.take_succ_cons, ← h1]
set_option maxRecDepth 100000 in
theorem octText_any (l : List UInt8) (at_ : Int) (v : Value) (w : World) (hl : l.length ≤ 1000000000) (hv : Bs w v l) :
    Calls Try.prog 86 #[v, .int .i64 at_] w fun e w' => e = .returned (.tuple #[S (textR l at_).1, .int .i64 (textR l at_).2]) ∧ w = w' := by
  obtain ⟨a, cap, rfl, hcap, _, _⟩ := hv.open
  by_cases h1 : at_ < 0
  · have HR := Lib.hid (show textR l at_ = ([], 5) by rw [textR, if_pos (.inl h1)])
    go_enter Try.func86, Try.ntmps86
    go_wp2
    go_ret2
    exact ⟨by rw [HR.out]; rfl, rfl⟩
  by_cases h2 : (l.length : Int) < at_
  · have HR := Lib.hid (show textR l at_ = ([], 5) by rw [textR, if_pos (.inr h2)])
    go_enter Try.func86, Try.ntmps86
    go_wp2
    go_ret2
    exact ⟨by rw [HR.out]; rfl, rfl⟩
  have htx : textR l at_ = match upto0 (l.drop at_.toNat) with | none => ([], 2) | some g => (g, 0) := by rw [textR, if_neg (by omega)]; try rfl
  obtain ⟨v1, hrun, hv1⟩ := run_fromB hv (i := at_) (k := .i64) (by omega) (by omega)
  have HRUN := Lib.hid hrun
  have hi := indexByte_any _ 0 v1 w (by rw [List.length_drop]; omega) hv1
  rw [indexByte_upto0] at hi
  clear hrun
  cases hs : upto0 (l.drop at_.toNat) with
  | none =>
    rw [hs] at htx hi
    have HR := Lib.hid htx
    have HI := Lib.hid hi
    clear htx hi hs
    go_enter Try.func86, Try.ntmps86
    go_wp2_with (first
      | (with_reducible show wpList _ _ _ (⟨some 17, _, _, _, _, _⟩ :: _) _ _; go_must (refine wpList_val rfl (exec_sliceFrom HRUN.out rfl rfl) ?_))
      | (go_at_call 88; go_must (refine HI.out.mono ?_; rintro e w' ⟨rfl, rfl⟩)))
    go_ret2
    exact ⟨by rw [HR.out]; rfl, rfl⟩
  | some g =>
    obtain ⟨hg2, hg3⟩ := upto0_prefix _ _ hs
    rw [List.length_drop] at hg3
    have HG := Lib.hid hg2
    rw [hs] at htx hi
    simp only at htx hi
    have HI := Lib.hid hi
    have HR := Lib.hid htx
    clear htx hi hs hg2
    obtain ⟨v2, hrun2, hv2⟩ := run_sliceB hv (i := at_) (j := at_ + g.length) (k := .i64) (k' := .i64) (by omega) (by omega) (by omega)
    have HRUN2 := Lib.hid hrun2
    rw [show (at_ + (g.length : Int) - at_).toNat = g.length by omega, ← HG.out] at hv2
    have hstr := run_str hv2
    clear hrun2
    go_enter Try.func86, Try.ntmps86
    go_wp2_with (first
      | (with_reducible show wpList _ _ _ (⟨some 17, _, _, _, _, _⟩ :: _) _ _; go_must (refine wpList_val rfl (exec_sliceFrom HRUN.out rfl rfl) ?_))
      | (go_at_call 88; go_must (refine HI.out.mono ?_; rintro e w' ⟨rfl, rfl⟩))
      | (with_reducible show wpList _ _ _ (⟨some 26, _, _, _, _, _⟩ :: _) _ _; go_must (refine wpList_val rfl (exec_slice2 HRUN2.out rfl rfl rfl) ?_)))
    go_ret2
    exact ⟨by rw [HR.out]; rfl, rfl⟩
end Go.Proofs.Ytmpelmjhimalpaa
namespace Go.Proofs
open Go.Shelf
def Try.lays219_ren : Go.Shelf.Ren := ⟨fun | 219 => 87 | 217 => 89 | 225 => 90 | 224 => 91 | 267 => 92 | 266 => 94 | 314 => 95 | n => n, fun | 9 => 9 | 3 => 3 | 4 => 4 | 5 => 5 | 46 => 81 | 146 => 136 | 51 => 25 | n => n, fun | 1 => 0 | n => n⟩
def Try.lays144_ren : Go.Shelf.Ren := ⟨fun | 144 => 77 | 143 => 84 | 219 => 87 | 217 => 89 | 225 => 90 | 224 => 91 | 267 => 92 | 266 => 94 | 314 => 95 | n => n, fun | 9 => 9 | 4 => 4 | 3 => 3 | 5 => 5 | 46 => 81 | 146 => 136 | 51 => 25 | n => n, fun | 1 => 0 | n => n⟩
theorem Try.lays144 : Go.Proofs.Lays.n144 Try.prog Try.lays144_ren := {
  mixed := by kernel_rfl
  f143 := Try.func84.trans (congrArg some (by kernel_rfl))
  f144 := Try.func77.trans (congrArg some (by kernel_rfl))
  f217 := Try.func89.trans (congrArg some (by kernel_rfl))
  f219 := Try.func87.trans (congrArg some (by kernel_rfl))
  f224 := Try.func91.trans (congrArg some (by kernel_rfl))
  f225 := Try.func90.trans (congrArg some (by kernel_rfl))
  f266 := Try.func94.trans (congrArg some (by kernel_rfl))
  f267 := Try.func92.trans (congrArg some (by kernel_rfl))
  f314 := Try.func95.trans (congrArg some (by kernel_rfl))
  t3 := Try.underlying3
  a3 := Try.isAgg3
  z3 := Try.sizeOf3
  v3 := Try.zeroValue3
  t4 := Try.underlying4
  a4 := Try.isAgg4
  z4 := Try.sizeOf4
  v4 := Try.zeroValue4
  t5 := Try.underlying5
  a5 := Try.isAgg5
  z5 := Try.sizeOf5
  v5 := Try.zeroValue5
  t9 := Try.underlying9
  a9 := Try.isAgg9
  z9 := Try.sizeOf9
  v9 := Try.zeroValue9
  t46 := Try.underlying81
  a46 := Try.isAgg81
  z46 := Try.sizeOf81
  v46 := Try.zeroValue81
  t51 := Try.underlying25
  a51 := Try.isAgg25
  z51 := Try.sizeOf25
  v51 := Try.zeroValue25
  t146 := Try.underlying136
  a146 := Try.isAgg136
  z146 := Try.sizeOf136
  v146 := Try.zeroValue136
  g1 := by kernel_rfl }
open Go.RowKit Go.Lib in
/-- strings.Contains: "Contains reports whether substr is within s.": AT A substr OF ONE BYTE c: IT RETURNS 'decide (0 ≤ Lib.indexByte s c)'; the world is as it was. (LAID: no walk: one application.) -/
theorem Try.strings_Contains_one (s : ByteArray) (c : UInt8) (w : World) :
    Calls Try.prog 77 #[.string s, .string ⟨#[c]⟩] w fun e w' => e = .returned (.bool (decide (0 ≤ Lib.indexByte s.data.toList c))) ∧ w' = w := Any.strings_Contains_one Try.lays144 s c w
def Try.lays115_ren : Go.Shelf.Ren := ⟨fun | 115 => 55 | n => n, fun | 37 => 22 | 4 => 4 | 9 => 9 | 5 => 5 | n => n, fun | n => n⟩
theorem Try.lays115 : Go.Proofs.Lays.n115 Try.prog Try.lays115_ren := {
  mixed := by kernel_rfl
  f115 := Try.func55.trans (congrArg some (by kernel_rfl))
  t4 := Try.underlying4
  a4 := Try.isAgg4
  z4 := Try.sizeOf4
  v4 := Try.zeroValue4
  t9 := Try.underlying9
  a9 := Try.isAgg9
  z9 := Try.sizeOf9
  v9 := Try.zeroValue9
  t37 := Try.underlying22
  a37 := Try.isAgg22
  z37 := Try.sizeOf22
  v37 := Try.zeroValue22 }
open Go.Proofs Go.RowKit Go.Lib in
/-- bytes.Equal, each argument with what 'string(..)' of it gives. (LAID: no walk: one application.) -/
theorem Try.bytes_Equal_strs (v1 v2 : Value) (t1 t2 : ByteArray) (w : World) (h1 : (convert 22 9 v1).run Try.prog w = .ok (.string t1) w) (h2 : (convert 22 9 v2).run Try.prog w = .ok (.string t2) w) :
    Calls Try.prog 55 #[v1, v2] w fun e w' => e = .returned (.bool (t1.toList == t2.toList)) ∧ w' = w := Any.bytes_Equal_strs Try.lays115 v1 v2 t1 t2 w h1 h2
end Go.Proofs
namespace Go.Proofs.Ytmpelmjhimalpaa
open Go.RowKit Go.Fd
/-- May it be a name? -/
def mayS (s : List UInt8) : Bool := decide (s.length ≤ 128) && !decide (0 ∈ s)
theorem mayS_len {s : List UInt8} (h : mayS s = true) : s.length ≤ 128 := by unfold mayS at h; simp at h; exact h.1
theorem contains0 (s : List UInt8) (w : World) : Calls Try.prog 77 #[S s, .string ⟨#[0]⟩] w fun e w' => e = .returned (.bool (decide (0 ∈ s))) ∧ w = w' := by
  refine (Try.strings_Contains_one ⟨s.toArray⟩ 0 w).mono fun e w' ⟨he, hw⟩ => ⟨?_, hw.symm⟩
  rw [he]
  simp only [← Lib.contains_iff_indexByte, List.contains_eq_mem]
theorem sizeS (s : List UInt8) : (⟨s.toArray⟩ : ByteArray).size = s.length := by simp [ByteArray.size]
theorem strsMay_any (s : List UInt8) (w : World) : Calls Try.prog 69 #[S s] w fun e w' => e = .returned (.bool (mayS s)) ∧ w = w' := by
  by_cases h : s.length ≤ 128
  · have HR := Lib.hid (show mayS s = !decide (0 ∈ s) by unfold mayS; rw [decide_eq_true h, Bool.true_and])
    have h2 : (⟨s.toArray⟩ : ByteArray).size ≤ 128 := by rw [sizeS]; exact h
    go_enter Try.func69, Try.ntmps69
    go_wp2_with (go_at_call 77; go_must (refine (contains0 s _).mono ?_; rintro e w1 ⟨rfl, rfl⟩))
    go_ret
    exact ⟨by rw [HR.out]; rfl, rfl⟩
  · have HR := Lib.hid (show mayS s = false by unfold mayS; rw [decide_eq_false h, Bool.false_and])
    have h2 : ¬ (⟨s.toArray⟩ : ByteArray).size ≤ 128 := by rw [sizeS]; exact h
    go_enter Try.func69, Try.ntmps69
    go_wp2
    go_ret
    exact ⟨by rw [HR.out]; rfl, rfl⟩
end Go.Proofs.Ytmpelmjhimalpaa
namespace Go.Proofs.Ytmpelmjhimalpaa
open Go.RowKit Go.Fd
abbrev I64 (n : Nat) : Value := .int .i64 (n : Int)
theorem TI : SliceT Try.prog 65 3 1 8 := SliceT.mk' (z := .int .i64 0) (by kernel_rfl) (by kernel_rfl) rfl (by omega)
/-- A name's place in a list of them. -/
abbrev lkp {κ ν : Type} [DecidableEq κ] (E : List (κ × ν)) (x : κ) : Option ν := @List.lookup κ ν instBEqOfDecidableEq x E
/-- A table under way: its bytes, the places of names, what is told. -/
structure Tab where
  tab : List UInt8
  at_ : List (List UInt8 × Nat)
  out : List Nat
def stepB (t : Tab) (s : List UInt8) : Tab := match lkp t.at_ s with
  | some p => ⟨t.tab, t.at_, t.out ++ [p]⟩
  | none => ⟨t.tab ++ s ++ [0], t.at_ ++ [(s, t.tab.length)], t.out ++ [t.tab.length]⟩
def startB : Tab := ⟨[0], [([], 0)], []⟩
def buildT (names : List (List UInt8)) : Tab := names.foldl stepB startB
def buildR (names : List (List UInt8)) : List UInt8 × List Nat × Int :=
  if names.all mayS = true then (if 1048576 < (buildT names).tab.length then ([], [], 6) else ((buildT names).tab, (buildT names).out, 0)) else ([], [], 7)
theorem buildT_snoc (l : List (List UInt8)) (s : List UInt8) : buildT (l ++ [s]) = stepB (buildT l) s := by simp [buildT]
theorem step_len (t : Tab) (s : List UInt8) : (stepB t s).tab.length ≤ t.tab.length + s.length + 1 ∧ (stepB t s).out.length = t.out.length + 1 ∧ (stepB t s).at_.length ≤ t.at_.length + 1 := by
  unfold stepB
  split <;> simp <;> omega
theorem buildT_len (l : List (List UInt8)) (h : ∀ s ∈ l, s.length ≤ 128) : (buildT l).tab.length ≤ 1 + 129 * l.length ∧ (buildT l).out.length = l.length ∧ (buildT l).at_.length ≤ 1 + l.length := by
  unfold buildT
  have : ∀ (l : List (List UInt8)) (t : Tab), (∀ s ∈ l, s.length ≤ 128) → (l.foldl stepB t).tab.length ≤ t.tab.length + 129 * l.length ∧ (l.foldl stepB t).out.length = t.out.length + l.length ∧ (l.foldl stepB t).at_.length ≤ t.at_.length + l.length := by
    intro l
    induction l with
    | nil => intro t _; simp
    | cons s l ih =>
      intro t h
      have h1 := step_len t s
      have h2 := ih (stepB t s) (fun x hx => h x (by simp [hx]))
      have h3 := h s (by simp)
      rw [List.foldl_cons, List.length_cons]
      omega
  have h1 := this l startB h
  have e1 : startB.tab.length = 1 := rfl
  have e2 : startB.out.length = 0 := rfl
  have e3 : startB.at_.length = 1 := rfl
  omega
def entE (p : List UInt8 × Nat) : List UInt8 × Value := (p.1, I64 p.2)
theorem lkp_map {κ ν ν' : Type} [DecidableEq κ] (f : ν → ν') (A : List (κ × ν)) (s : κ) : lkp (A.map fun p => (p.1, f p.2)) s = (lkp A s).map f := by
  induction A with
  | nil => rfl
  | cons p A ih =>
    obtain ⟨q, n⟩ := p
    unfold lkp at *
    rw [List.map_cons, List.lookup_cons, List.lookup_cons]
    by_cases h : s = q
    · simp [h]
    · rw [show (s == q) = false by simpa using h]
      exact ih
theorem lookup_ent (A : List (List UInt8 × Nat)) (s : List UInt8) : lkp (A.map entE) s = (lkp A s).map I64 := lkp_map I64 A s
theorem putE_ent {A : List (List UInt8 × Nat)} {s : List UInt8} (h : lkp A s = none) (n : Nat) : putE (A.map entE) s (I64 n) = (A ++ [(s, n)]).map entE := by
  rw [putE, if_neg, List.map_append]
  · rfl
  · intro hm
    obtain ⟨v, hv⟩ := lookup_key.2 hm
    have hv2 : lkp (A.map entE) s = some v := hv
    rw [lookup_ent, h] at hv2
    cases hv2
theorem lkp_app {κ ν : Type} [DecidableEq κ] {A : List (κ × ν)} {s : κ} (h : lkp A s = none) (n : ν) : lkp (A ++ [(s, n)]) s = some n := by
  induction A with
  | nil => simp [lkp]
  | cons p A ih =>
    obtain ⟨q, x⟩ := p
    unfold lkp at *
    rw [List.lookup_cons] at h
    rw [List.cons_append, List.lookup_cons]
    by_cases e : s = q
    · rw [show (s == q) = true by simpa using e] at h
      cases h
    · rw [show (s == q) = false by simpa using e] at h ⊢
      exact ih h
theorem own_noMap' {κ : Type} {mk : κ → Value} {w : World} {base e size n : Nat} {v : Value} {xs : List Value} {P : Program} {k : TypeId} {b : Nat} {E : List (κ × Value)} (h : w.ownsRow base e size v n xs) (hm : MapIs P k mk w b E) : some b ≠ v.ownBlock := by
  obtain ⟨es, c, hb, _⟩ := hm
  exact fun e => own_noMap h hb e.symm
theorem TMS : KeyT Try.prog 119 9 3 S := ⟨by kernel_rfl, Maps.string_keyed (by kernel_rfl), fun a b h => by simpa [S] using h⟩
theorem zeroI (w : World) : (zeroValue 3).run Try.prog w = .ok (.int .i64 0) w := by kernel_rfl
theorem keyS (s : List UInt8) (h : s.length ≤ 128) : ∃ l, keyOf Try.prog 9 (S s) = some l := ⟨_, Go.WideMaps.keyOf_string_mk (by kernel_rfl) (by rw [sizeS]; unfold maxLen; omega)⟩
set_option maxRecDepth 100000 in
set_option maxHeartbeats 1000000 in
theorem build_any (names : List (List UInt8)) (v : Value) (w : World) (hn : names.length ≤ 100000) (hv : Rd S w v names) :
    Calls Try.prog 49 #[v] w fun e w' => ∃ v1 v2, e = .returned (.tuple #[v1, v2, .int .i64 (buildR names).2.2]) ∧ OB w' w.heap.size v1 (buildR names).1 ∧ Ow I64 3 w' w.heap.size v2 (buildR names).2.1 ∧ Below w.heap.size w w' := by
  have HV := Lib.hid hv
  obtain ⟨m, ad, cap, hm, rfl, hmc, _⟩ := hv.shape
  have hm' : m ≤ 100000 := by have := hm.out; omega
  have hmm := @run_makeMap Try.prog
  obtain ⟨k0, hk0⟩ := keyS [] (by simp)
  have hmd := MapIs.made (P := Try.prog) (k := 9) (mk := S) (w.alloc (.cells #[.int .u8 0] 5))
  rw [World.size_alloc] at hmd
  have HMD := Lib.hid hmd
  clear hmd
  go_enter Try.func49, Try.ntmps49
  go_wp2_with (with_reducible show wpList _ _ _ (⟨_, .insert _ _ _ _, _, _, _, _⟩ :: _) _ _; go_must (refine wpList_insertM TMS HMD.out (by unfold maxLen; simp) (key := []) hk0 rfl rfl rfl ?_; intro w1 hm1 hg1 hs1))
  have hbm := hm1.lt
  have HB0 : Hid (Below w.heap.size w w1) := by
    refine ((below_alloc w (.cells #[.int .u8 0] 5)).trans ((below_alloc (w.alloc (.cells #[.int .u8 0] 5)) (.map #[] 0)).mono (by simp))).trans (below_of_grown hg1 (by simp; omega) fun k hk => by cases hk; omega)
  have hob : OB (w.alloc (.cells #[.int .u8 0] 5)) w.heap.size (.slice (some ⟨w.heap.size, 0, none⟩) 1 1) [0] := ob_lit w [0] _ 1 rfl rfl (by omega)
  have HOB := Lib.hid (show OB w1 w.heap.size (.slice (some ⟨w.heap.size, 0, none⟩) 1 1) [0] from owns_grown (hob.mono (below_alloc _ _)) hg1 fun k hk h => by simp only [Value.ownBlock, Option.some.injEq] at hk h; omega)
  have HM1 := Lib.hid hm1
  clear hm1 hg1 hs1 hob
  go_loopw [5, 7, 17] (fun vt vl i wr => ∃ k : Nat, i = .int .i64 k ∧ k ≤ m ∧ Hid ((names.take k).all mayS = true) ∧ Hid (OB wr w.heap.size vt (buildT (names.take k)).tab) ∧ Hid (Ow I64 3 wr w.heap.size vl (buildT (names.take k)).out) ∧
    Hid (MapIs Try.prog 9 S wr (w.heap.size + 1) ((buildT (names.take k)).at_.map entE)) ∧ Hid (Below w.heap.size w wr)) (fun _ _ i _ => m - (intOf i).toNat)
  case atStart => exact ⟨0, rfl, Nat.zero_le _, rfl, HOB.out, Ow.nil _ _ _ _, HM1.out, HB0.out⟩
  case round =>
    obtain ⟨k, rfl, hk, HALL, HOW, HOL, HMP, HB⟩ := hrel
    by_cases hlt : k < m
    · obtain ⟨ad', cap', e1, _, _, hc⟩ := (HV.out.mono HB.out).open []
      simp only [Value.slice.injEq] at e1
      obtain ⟨rfl, -, rfl⟩ := e1
      obtain ⟨b, off, rfl, hcell⟩ := hc k (by have := hm.out; omega)
      have HT := Lib.hid (take_snoc' names k (names[k]?.getD []) (by rw [List.getElem?_eq_getElem (by have := hm.out; omega)]; rfl))
      clear hc
      generalize names[k]?.getD [] = s at *
      cases hmay : mayS s with
      | false =>
        have HR := Lib.hid (show buildR names = ([], [], 7) by
          unfold buildR
          rw [if_neg]
          intro hall
          have h1 : (names.take (k + 1)).all mayS = true := by
            rw [List.all_eq_true] at hall ⊢
            exact fun x hx => hall x (List.mem_of_mem_take hx)
          rw [HT.out, List.all_append] at h1
          simp [hmay] at h1)
        have HC := Lib.hid (strsMay_any s wr)
        rw [hmay] at HC
        clear hmay
        go_wp2_with (go_at_call 69; go_must (refine HC.out.mono ?_; rintro e w2 ⟨rfl, rfl⟩))
        go_ret3
        rw [HR.out]
        exact ⟨_, _, rfl, OB.nil _ _, Ow.nil _ _ _ _, HB.out⟩
      | true =>
        have HC := Lib.hid (strsMay_any s wr)
        rw [hmay] at HC
        have HLS := Lib.hid (mayS_len hmay)
        have HALL2 := Lib.hid (show (names.take (k + 1)).all mayS = true by rw [HT.out, List.all_append, HALL.out]; simp [hmay])
        have HLEN := Lib.hid (buildT_len (names.take k) (fun x hx => mayS_len (List.all_eq_true.1 HALL.out x hx)))
        have HKL := Lib.hid (show (names.take k).length = k by rw [List.length_take]; have := hm.out; omega)
        have HBT := Lib.hid (show buildT (names.take (k + 1)) = stepB (buildT (names.take k)) s by rw [HT.out, buildT_snoc])
        clear hmay
        obtain ⟨kl, hkl⟩ := keyS s HLS.out
        generalize buildT (names.take k) = t at *
        have hlenT : t.tab.length ≤ 12900001 := by have := HLEN.out.1; have := HKL.out; omega
        have hlenO : t.out.length ≤ 100000 := by have := HLEN.out.2.1; have := HKL.out; omega
        have hlenA : (t.at_.map entE).length < maxLen := by have := HLEN.out.2.2; have := HKL.out; rw [List.length_map]; unfold maxLen; omega
        have HLA := Lib.hid hlenA
        clear hlenA
        have hls := HLS.out
        have hBw : w.heap.size ≤ wr.heap.size := HB.out.size
        cases hlk : lkp t.at_ s with
        | some p =>
          have HK1 := Lib.hid (show lkp (t.at_.map entE) s = some (I64 p) by rw [lookup_ent, hlk]; rfl)
          have HL1 : Hid (lookV true (.int .i64 0) (lkp (t.at_.map entE) s) = .tuple #[I64 p, .bool true]) := congrArg (lookV true (.int .i64 0)) HK1.out
          have HL2 : Hid (lookV false (.int .i64 0) (lkp (t.at_.map entE) s) = I64 p) := congrArg (lookV false (.int .i64 0)) HK1.out
          have HST := Lib.hid (show stepB t s = ⟨t.tab, t.at_, t.out ++ [p]⟩ by unfold stepB; rw [hlk])
          clear hlk
          go_wp2_with (first
            | (go_at_call 69; go_must (refine HC.out.mono ?_; rintro e w2 ⟨rfl, rfl⟩))
            | ((with_reducible show wpList _ _ _ (⟨some 27, _, _, _, _, _⟩ :: _) _ _); go_must (refine wpList_lookM TMS HMP.out (zeroI _) hkl HL1.out rfl rfl ?_))
            | ((with_reducible show wpList _ _ _ (⟨some 44, _, _, _, _, _⟩ :: _) _ _); go_must (refine wpList_lookM TMS HMP.out (zeroI _) hkl HL2.out rfl rfl ?_))
            | ((with_reducible show wpList _ _ _ (⟨some 46, _, _, _, _, _⟩ :: _) _ _); go_must (refine wpList_pushE TI HOL.out rfl rfl p rfl rfl (by omega) (by omega) hBw ?_; intro v3 w3 hv3 hg3 hb3)))
          have ht : buildT (names.take (k + 1)) = ⟨t.tab, t.at_, t.out ++ [p]⟩ := HBT.out.trans HST.out
          have G1 : Hid (OB w3 w.heap.size u5 (buildT (names.take (k + 1))).tab) := by rw [ht]; exact owns_grown HOW.out hg3 (fun q hq h => own_apart HOW.out HOL.out (by decide) hq h)
          have G2 : Hid (Ow I64 3 w3 w.heap.size v3 (buildT (names.take (k + 1))).out) := by rw [ht]; exact hv3
          have G3 : Hid (MapIs Try.prog 9 S w3 (w.heap.size + 1) ((buildT (names.take (k + 1))).at_.map entE)) := by rw [ht]; exact HMP.out.kept hg3 (own_noMap' HOL.out HMP.out)
          have G4 := Lib.hid (HB.out.trans hb3)
          clear ht
          go_roundw
          case rel =>
            first
              | exact ⟨k + 1, by go_num, by omega, HALL2.out, G1.out, G2.out, G3.out, G4.out⟩
              | ((repeat apply Exists.intro); exact ⟨⟨k + 1, by go_num, by omega, HALL2.out, G1.out, G2.out, G3.out, G4.out⟩, rfl⟩)
          case measure => simp [intOf] <;> omega
        | none =>
          have HK1 := Lib.hid (show lkp (t.at_.map entE) s = none by rw [lookup_ent, hlk]; rfl)
          have HL1 : Hid (lookV true (.int .i64 0) (lkp (t.at_.map entE) s) = .tuple #[.int .i64 0, .bool false]) := congrArg (lookV true (.int .i64 0)) HK1.out
          have HPE := Lib.hid (putE_ent hlk t.tab.length)
          have HK2 := Lib.hid (show lkp ((t.at_ ++ [(s, t.tab.length)]).map entE) s = some (I64 t.tab.length) by rw [lookup_ent, lkp_app hlk]; rfl)
          have HL2 : Hid (lookV false (.int .i64 0) (lkp ((t.at_ ++ [(s, t.tab.length)]).map entE) s) = I64 t.tab.length) := congrArg (lookV false (.int .i64 0)) HK2.out
          have HST := Lib.hid (show stepB t s = ⟨t.tab ++ s ++ [0], t.at_ ++ [(s, t.tab.length)], t.out ++ [t.tab.length]⟩ by unfold stepB; rw [hlk])
          obtain ⟨mt, vta, capt, hmt, rfl, _, _⟩ := HOW.out.shape
          clear hlk
          go_wp2_with (first
            | (go_at_call 69; go_must (refine HC.out.mono ?_; rintro e w2 ⟨rfl, rfl⟩))
            | ((with_reducible show wpList _ _ _ (⟨some 27, _, _, _, _, _⟩ :: _) _ _); go_must (refine wpList_lookM TMS HMP.out (zeroI _) hkl HL1.out rfl rfl ?_))
            | (at_mapUpdate; go_must (refine wpList_storeM TMS HMP.out HLA.out (key := s) (val := I64 mt) hkl rfl rfl rfl ?_; intro w3 hm3 hg3 hs3; rw [hmt.out, HPE.out] at hm3; have hb3 := below_of_grown (B := w.heap.size) hg3 hBw (fun q hq => by cases hq; omega); have HM3 := Lib.hid hm3; have HO3 := Lib.hid (show OB w3 w.heap.size (.slice vta mt capt) t.tab from owns_grown HOW.out hg3 (fun q hq h => by cases h; exact own_noMap' HOW.out HMP.out hq.symm)); have HL3 := Lib.hid (show Ow I64 3 w3 w.heap.size u7 t.out from owns_grown HOL.out hg3 (fun q hq h => by cases h; exact own_noMap' HOL.out HMP.out hq.symm)); have hB3 : w.heap.size ≤ w3.heap.size := (by omega); clear hm3 hg3 hs3))
            | ((with_reducible show wpList _ _ _ (⟨some 38, _, _, _, _, _⟩ :: _) _ _); go_must (refine wpList_catS HO3.out rfl rfl (by omega) hB3 ?_; intro v4 w4 hv4 hg4 hb4; have HO4 := Lib.hid hv4; have HL4 := Lib.hid (show Ow I64 3 w4 w.heap.size u7 t.out from owns_grown HL3.out hg4 (fun q hq h => own_apart HL3.out HO3.out (by decide) hq h)); have HM4 := Lib.hid (HM3.out.kept hg4 (own_noMap' HO3.out HM3.out)); have hB4 : w.heap.size ≤ w4.heap.size := Nat.le_trans hB3 hg4.size; clear hv4 hg4))
            | ((with_reducible show wpList _ _ _ (⟨some 40, _, _, _, _, _⟩ :: _) _ _); go_must (refine wpList_pushB HO4.out rfl rfl 0 rfl (by simp; omega) hB4 ?_; intro v5 w5 hv5 hg5 hb5; have HO5 := Lib.hid hv5; have HL5 := Lib.hid (show Ow I64 3 w5 w.heap.size u7 t.out from owns_grown HL4.out hg5 (fun q hq h => own_apart HL4.out HO4.out (by decide) hq h)); have HM5 := Lib.hid (HM4.out.kept hg5 (own_noMap' HO4.out HM4.out)); have hB5 : w.heap.size ≤ w5.heap.size := Nat.le_trans hB4 hg5.size; clear hv5 hg5))
            | ((with_reducible show wpList _ _ _ (⟨some 44, _, _, _, _, _⟩ :: _) _ _); go_must (refine wpList_lookM TMS HM5.out (zeroI _) hkl HL2.out rfl rfl ?_))
            | ((with_reducible show wpList _ _ _ (⟨some 46, _, _, _, _, _⟩ :: _) _ _); go_must (refine wpList_pushE TI HL5.out rfl rfl t.tab.length rfl rfl (by omega) (by omega) hB5 ?_; intro v6 w6 hv6 hg6 hb6)))
          have ht : buildT (names.take (k + 1)) = ⟨t.tab ++ s ++ [0], t.at_ ++ [(s, t.tab.length)], t.out ++ [t.tab.length]⟩ := HBT.out.trans HST.out
          have G1 : Hid (OB w6 w.heap.size v5 (buildT (names.take (k + 1))).tab) := by rw [ht]; exact owns_grown HO5.out hg6 (fun q hq h => own_apart HO5.out HL5.out (by decide) hq h)
          have G2 : Hid (Ow I64 3 w6 w.heap.size v6 (buildT (names.take (k + 1))).out) := by rw [ht]; exact hv6
          have G3 : Hid (MapIs Try.prog 9 S w6 (w.heap.size + 1) ((buildT (names.take (k + 1))).at_.map entE)) := by rw [ht]; exact HM5.out.kept hg6 (own_noMap' HL5.out HM5.out)
          have G4 := Lib.hid (HB.out.trans (hb3.trans (hb4.trans (hb5.trans hb6))))
          clear ht
          go_roundw
          case rel =>
            first
              | exact ⟨k + 1, by go_num, by omega, HALL2.out, G1.out, G2.out, G3.out, G4.out⟩
              | ((repeat apply Exists.intro); exact ⟨⟨k + 1, by go_num, by omega, HALL2.out, G1.out, G2.out, G3.out, G4.out⟩, rfl⟩)
          case measure => simp [intOf] <;> omega
    · have hkm : k = m := by omega
      have HKM := Lib.hid (show names.take k = names by rw [hkm, hm.out, List.take_length])
      rw [HKM.out] at HALL HOW HOL
      have HLN := Lib.hid (buildT_len names (fun x hx => mayS_len (List.all_eq_true.1 HALL.out x hx)))
      obtain ⟨mt, vta, capt, hmt, rfl, _, _⟩ := HOW.out.shape
      clear hkm
      by_cases hbig : 1048576 < mt
      · have HR := Lib.hid (show buildR names = ([], [], 6) by unfold buildR; rw [if_pos HALL.out, if_pos (by rw [← hmt.out]; exact hbig)])
        go_wp2
        go_ret3
        rw [HR.out]
        exact ⟨_, _, rfl, OB.nil _ _, Ow.nil _ _ _ _, HB.out⟩
      · have HR := Lib.hid (show buildR names = ((buildT names).tab, (buildT names).out, 0) by unfold buildR; rw [if_pos HALL.out, if_neg (by rw [← hmt.out]; exact hbig)])
        go_wp2
        go_ret3
        rw [HR.out]
        exact ⟨_, _, rfl, HOW.out, HOL.out, HB.out⟩
end Go.Proofs.Ytmpelmjhimalpaa
namespace Go.Proofs.Ytmpelmjhimalpaa
open Go.RowKit Go.Fd
theorem snoc_ind {α : Type} {P : List α → Prop} (h0 : P []) (h1 : ∀ l x, P l → P (l ++ [x])) (l : List α) : P l := by
  have h : ∀ l : List α, P l.reverse := by
    intro l
    induction l with
    | nil => exact h0
    | cons x l ih => rw [List.reverse_cons]; exact h1 _ _ ih
  have := h l.reverse
  rwa [List.reverse_reverse] at this
theorem lkp_cons {κ ν : Type} [DecidableEq κ] (q : κ) (n : ν) (A : List (κ × ν)) (x : κ) : lkp ((q, n) :: A) x = if x = q then some n else lkp A x := by
  unfold lkp
  rw [List.lookup_cons]
  by_cases e : x = q
  · simp [e]
  · rw [show (x == q) = false by simpa using e, if_neg e]
theorem lkp_other {κ ν : Type} [DecidableEq κ] {x s : κ} (h : x ≠ s) (n : ν) (A : List (κ × ν)) : lkp (A ++ [(s, n)]) x = lkp A x := by
  induction A with
  | nil => rw [List.nil_append, lkp_cons, if_neg h]
  | cons q A ih =>
    obtain ⟨q, m⟩ := q
    rw [List.cons_append, lkp_cons, lkp_cons, ih]
theorem step_at (t : Tab) (s x : List UInt8) : lkp (stepB t s).at_ x = if x = s then some (match lkp t.at_ s with | some p => p | none => t.tab.length) else lkp t.at_ x := by
  unfold stepB
  cases h : lkp t.at_ s with
  | some p =>
    simp only
    by_cases e : x = s
    · subst e; rw [if_pos rfl, h]
    · rw [if_neg e]
  | none =>
    simp only
    by_cases e : x = s
    · subst e; rw [if_pos rfl, lkp_app h]
    · rw [if_neg e]
      exact lkp_other e _ _
theorem step_out (t : Tab) (s : List UInt8) : (stepB t s).out = t.out ++ [match lkp t.at_ s with | some p => p | none => t.tab.length] := by
  unfold stepB
  cases lkp t.at_ s <;> rfl
/-- Each name's place is the one that is told. -/
theorem build_places (names : List (List UInt8)) : (buildT names).out.length = names.length ∧ (∀ (j : Nat) (s : List UInt8) (p : Nat), names[j]? = some s → (buildT names).out[j]? = some p → lkp (buildT names).at_ s = some p) ∧ (∀ s, s ∉ names → s ≠ [] → lkp (buildT names).at_ s = none) ∧ lkp (buildT names).at_ [] = some 0 := by
  refine snoc_ind (P := fun names => (buildT names).out.length = names.length ∧ (∀ (j : Nat) (s : List UInt8) (p : Nat), names[j]? = some s → (buildT names).out[j]? = some p → lkp (buildT names).at_ s = some p) ∧ (∀ s, s ∉ names → s ≠ [] → lkp (buildT names).at_ s = none) ∧ lkp (buildT names).at_ [] = some 0) ?_ (fun names x ih => ?_) names
  · refine ⟨rfl, fun j s p h => by simp at h, fun s _ h => ?_, ?_⟩
    · show lkp [([], 0)] s = none
      rw [lkp_cons, if_neg h]; rfl
    · show lkp [([], 0)] [] = some 0
      rw [lkp_cons, if_pos rfl]
  · obtain ⟨h1, h2, h3, h4⟩ := ih
    rw [buildT_snoc]
    refine ⟨by rw [step_out, List.length_append, List.length_append, h1]; rfl, fun j s p hj hp => ?_, fun s hs hne => ?_, ?_⟩
    · rw [step_at]
      rw [step_out] at hp
      by_cases hjl : j < names.length
      · rw [List.getElem?_append_left hjl] at hj
        rw [List.getElem?_append_left (by omega)] at hp
        have := h2 j s p hj hp
        by_cases e : s = x
        · subst e; rw [if_pos rfl, this]
        · rw [if_neg e, this]
      · have hje : j = names.length := by
          have := (List.getElem?_eq_some_iff.1 hj).1
          simp at this
          omega
        subst hje
        rw [List.getElem?_append_right (Nat.le_refl _), Nat.sub_self] at hj
        rw [← h1, List.getElem?_append_right (Nat.le_refl _), Nat.sub_self] at hp
        simp at hj hp
        subst hj
        rw [if_pos rfl, hp]
    · rw [step_at, if_neg (by intro e; exact hs (by simp [e])), h3 s (fun hm => hs (by simp [hm])) hne]
    · rw [step_at]
      by_cases e : ([] : List UInt8) = x
      · subst e; rw [if_pos rfl, h4]
      · rw [if_neg e, h4]
theorem step_mono (t : Tab) (s : List UInt8) : t.tab.length ≤ (stepB t s).tab.length := by
  unfold stepB
  split <;> simp <;> omega
/-- No place lies behind the table. -/
theorem build_bound (names : List (List UInt8)) : (∀ p ∈ (buildT names).out, p ≤ (buildT names).tab.length) ∧ (∀ s p, lkp (buildT names).at_ s = some p → p ≤ (buildT names).tab.length) := by
  refine snoc_ind (P := fun names => (∀ p ∈ (buildT names).out, p ≤ (buildT names).tab.length) ∧ (∀ s p, lkp (buildT names).at_ s = some p → p ≤ (buildT names).tab.length)) ?_ (fun names x ih => ?_) names
  · refine ⟨(fun p h => by cases h), fun s p h => ?_⟩
    have h' : lkp [([], 0)] s = some p := h
    rw [lkp_cons] at h'
    split at h'
    · cases h'; exact Nat.zero_le _
    · cases h'
  · obtain ⟨h1, h2⟩ := ih
    have hm := step_mono (buildT names) x
    rw [buildT_snoc]
    have hx : (match lkp (buildT names).at_ x with | some p => p | none => (buildT names).tab.length) ≤ (stepB (buildT names) x).tab.length := by
      cases hl : lkp (buildT names).at_ x with
      | some p => exact Nat.le_trans (h2 x p hl) hm
      | none => exact hm
    refine ⟨fun p hp => ?_, fun s p hp => ?_⟩
    · rw [step_out] at hp
      rcases List.mem_append.1 hp with hp | hp
      · exact Nat.le_trans (h1 p hp) hm
      · rw [List.mem_singleton.1 hp]; exact hx
    · rw [step_at] at hp
      split at hp
      · cases hp; exact hx
      · exact Nat.le_trans (h2 s p hp) hm
end Go.Proofs.Ytmpelmjhimalpaa
namespace Go.Proofs.Ytmpelmjhimalpaa
open Go.RowKit Go.Fd
/-- The name at a place. -/
def atR (tab : List UInt8) (at_ : Int) : List UInt8 × Int :=
  if at_ < 0 ∨ (tab.length : Int) ≤ at_ then ([], 5) else match upto0 (tab.drop at_.toNat) with
    | none => ([], 4)
    | some g => if 128 < g.length then ([], 7) else (g, 0)
theorem strsAt_any (tab : List UInt8) (at_ : Int) (v : Value) (w : World) (hl : tab.length ≤ 1000000000) (hv : Bs w v tab) :
    Calls Try.prog 81 #[v, .int .i64 at_] w fun e w' => e = .returned (.tuple #[S (atR tab at_).1, .int .i64 (atR tab at_).2]) ∧ w = w' := by
  have HT := Lib.hid (octText_any tab at_ v w hl hv)
  obtain ⟨m, ad, cap, hm, rfl, hcap, _⟩ := hv.shape
  clear hv
  by_cases h1 : at_ < 0
  · have HR := Lib.hid (show atR tab at_ = ([], 5) by rw [atR, if_pos (.inl h1)])
    go_enter Try.func81, Try.ntmps81
    go_wp2
    go_ret2
    exact ⟨by rw [HR.out]; rfl, rfl⟩
  by_cases h2 : (m : Int) ≤ at_
  · have HR := Lib.hid (show atR tab at_ = ([], 5) by rw [atR, if_pos (.inr (by rw [← hm.out]; exact h2))])
    go_enter Try.func81, Try.ntmps81
    go_wp2
    go_ret2
    exact ⟨by rw [HR.out]; rfl, rfl⟩
  have hat : atR tab at_ = match upto0 (tab.drop at_.toNat) with | none => ([], 4) | some g => if 128 < g.length then ([], 7) else (g, 0) := by
    rw [atR, if_neg (by rw [← hm.out]; omega)]
  have htx : textR tab at_ = match upto0 (tab.drop at_.toNat) with | none => ([], 2) | some g => (g, 0) := by rw [textR, if_neg (by rw [← hm.out]; omega)]; (try rfl)
  cases hu : upto0 (tab.drop at_.toNat) with
  | none =>
    rw [hu] at hat htx
    have HR := Lib.hid hat
    rw [htx] at HT
    clear hat htx hu
    go_enter Try.func81, Try.ntmps81
    go_wp2_with (go_at_call 86; go_must (refine HT.out.mono ?_; rintro e w1 ⟨rfl, rfl⟩))
    go_ret2
    exact ⟨by rw [HR.out]; rfl, rfl⟩
  | some g =>
    rw [hu] at hat htx
    simp only at hat
    rw [htx] at HT
    have hgl := (upto0_prefix _ _ hu).2
    rw [List.length_drop] at hgl
    have hgb : g.length ≤ 1000000000 := by omega
    clear htx hu hgl
    by_cases hg : 128 < g.length
    · rw [if_pos hg] at hat
      have HR := Lib.hid hat
      clear hat
      go_enter Try.func81, Try.ntmps81
      go_wp2_with (go_at_call 86; go_must (refine HT.out.mono ?_; rintro e w1 ⟨rfl, rfl⟩))
      go_ret2
      exact ⟨by rw [HR.out]; rfl, rfl⟩
    · rw [if_neg hg] at hat
      have HR := Lib.hid hat
      clear hat
      go_enter Try.func81, Try.ntmps81
      go_wp2_with (go_at_call 86; go_must (refine HT.out.mono ?_; rintro e w1 ⟨rfl, rfl⟩))
      go_ret2
      exact ⟨by rw [HR.out]; rfl, rfl⟩
theorem _root_.Go.RowKit.Below.drewN {B : Nat} {a w : World} (h : Below B a w) (n : Nat) : Below B a (w.drewN n) := ⟨h.os, h.tape, h.output, h.size, h.block⟩
end Go.Proofs.Ytmpelmjhimalpaa
namespace Go.Proofs.Ytmpelmjhimalpaa
open Go.RowKit Go.Fd
theorem buildR_len (names : List (List UInt8)) : (buildR names).1.length ≤ 1 + 129 * names.length ∧ (buildR names).2.1.length ≤ names.length := by
  unfold buildR
  split
  · next h =>
    have hb := buildT_len names (fun x hx => mayS_len (List.all_eq_true.1 h x hx))
    split
    · simp
    · exact ⟨hb.1, Nat.le_of_eq hb.2.1⟩
  · simp
end Go.Proofs.Ytmpelmjhimalpaa
