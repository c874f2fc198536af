/-
  Part 1 of 3: laws and walks for pagesAll_holds; no condition of its own.
-/
import Derived.WalkKit
import Derived.WalkSpells
import Derived.WalkLawsBesides
import Derived.Lib.Hide
import Derived.Laws.AppendOwnNone
import Derived.Test.YtmpelmjhimalpaaProg
import Derived.BigQuiet
import Derived.Deep.QuietTactic
import Derived.Maps.RangeWalk
import Derived.Maps.OwnSet
import Derived.Maps.OwnOps
import Derived.Laws.BitsAllLaws
import Derived.Lib.AppendStr
import Derived.Orders
import Derived.Lib.IndexLaws
import Derived.Lib.IndexBytes
import Derived.Deep.WholeRow
import Derived.Deep.RegionWith
import Derived.Lib.BytesEntry
import Derived.Shelf.Strings.Search1
import Derived.Shelf.Strings.Search2
import Derived.Shelf.Strings.Search3
import Derived.Shelf.LaysM
import Derived.Shelf.Strings.Shaped
import Derived.Shelf.Bytes.SlIndexAt
import Derived.Shelf.Bytes.SlSearch0
import Derived.Shelf.Bytes.SlEqualAll
import Derived.Shelf.Bytes.Small
import Derived.Shelf.Bytes.IndexByte
import Derived.Lib.IndexAny
import Derived.Lib.ConvBytes
import Derived.ArgAppend
import Derived.Test.YtmpelmjhimalpaaRows
import Derived.JoinedCond
import Derived.SizedLaws
namespace Go.Fd
open Go.RowKit
/-- The slice value v has n elements of 'size' cells each, and its cells in w are xs. -/
def Reads (w : World) (size : Nat) (v : Value) (n : Nat) (xs : List Value) : Prop :=
  xs.length = n * size ∧ ∃ a cap, v = .slice a n cap ∧ n ≤ cap ∧ (a = none → cap = 0) ∧ ∀ j, j < xs.length → ∃ b off, a = some ⟨b, off, none⟩ ∧ w.cell? ⟨b, off + j, none⟩ = xs[j]?
/-- What is needed of a slice type. -/
structure SliceT (P : Program) (t e size bytes : Nat) : Prop where
  ht : P.underlying t = some (.slice e)
  pos : 0 < size
  info : ∃ i z, P.info? e = some i ∧ i.zero = some z ∧ i.size = size ∧ i.bytes = bytes ∧ z.cells.size = size
theorem SliceT.mk' {P : Program} {t e size bytes : Nat} {z : Value} (ht : P.underlying t = some (.slice e)) (hi : (P.info? e).map (fun i => (i.zero, i.size, i.bytes)) = some (some z, size, bytes))
    (hz : z.cells.size = size) (hp : 0 < size) : SliceT P t e size bytes := by
  obtain ⟨i, h1, h2, h3, h4⟩ := info_parts hi
  exact ⟨ht, hp, i, z, h1, h2, h3, h4, hz⟩
theorem block_lt {w : World} {b o : Nat} {v : Value} (h : w.cell? ⟨b, o, none⟩ = some v) : b < w.heap.size := World.block_lt_of_cell? w ⟨b, o, none⟩ h
theorem Reads.mono {w w' : World} {size n : Nat} {v : Value} {xs : List Value} (h : Reads w size v n xs) (hb : Below w.heap.size w w') : Reads w' size v n xs := by
  obtain ⟨h1, a, cap, h2, h3, h0, h4⟩ := h
  refine ⟨h1, a, cap, h2, h3, h0, fun j hj => ?_⟩
  obtain ⟨b, off, e1, e2⟩ := h4 j hj
  refine ⟨b, off, e1, ?_⟩
  rw [hb.cell (p := ⟨b, off + j, none⟩) (block_lt (e2.trans (List.getElem?_eq_getElem hj)))]
  exact e2
theorem Reads.shape {w : World} {size n : Nat} {v : Value} {xs : List Value} (h : Reads w size v n xs) : ∃ m a cap, Hid (m = n) ∧ v = .slice a m cap ∧ m ≤ cap ∧ (a = none → cap = 0) := by
  obtain ⟨h1, a, cap, h2, h3, h0, h4⟩ := h
  exact ⟨n, a, cap, rfl, h2, h3, h0⟩
theorem Reads.of_owns {w : World} {base e size n : Nat} {v : Value} {xs : List Value} (h : w.ownsRow base e size v n xs) : Reads w size v n xs := by
  refine ⟨h.1, ?_⟩
  rcases h.2 with ⟨rfl, rfl⟩ | ⟨g, cap, cur, rfl, hb, hg, hn, hc, hs, ht⟩
  · exact ⟨none, 0, rfl, Nat.le_refl _, fun _ => rfl, fun j hj => by rw [h.1] at hj; simp at hj⟩
  · refine ⟨_, cap, rfl, hn, (fun h => by cases h), fun j hj => ⟨g, 0, rfl, ?_⟩⟩
    have := h.cellAt (g := g) (cap := cap) j (by rw [← h.1]; exact hj)
    rw [Nat.zero_add]; exact this
theorem Reads.nil (w : World) (size : Nat) : Reads w size (.slice none 0 0) 0 [] := ⟨by simp, none, 0, rfl, Nat.le_refl _, fun _ => rfl, fun j hj => by simp at hj⟩
/-- What is owned stays owned where nothing that was there has turned. -/
theorem owns_mono {w w' : World} {base e size n : Nat} {v : Value} {xs : List Value} (h : w.ownsRow base e size v n xs) (hb : Below w.heap.size w w') : w'.ownsRow base e size v n xs := by
  refine ⟨h.1, ?_⟩
  rcases h.2 with h2 | ⟨g, cap, cur, hv, hg, hh, r⟩
  · exact .inl h2
  · exact .inr ⟨g, cap, cur, hv, hg, by rw [hb.block g (Array.getElem?_eq_some_iff.1 hh).1]; exact hh, r⟩
theorem owns_base {w : World} {base base' e size n : Nat} {v : Value} {xs : List Value} (h : w.ownsRow base e size v n xs) (hb : base' ≤ base) : w.ownsRow base' e size v n xs := by
  refine ⟨h.1, ?_⟩
  rcases h.2 with h2 | ⟨g, cap, cur, hv, hg, r⟩
  · exact .inl h2
  · exact .inr ⟨g, cap, cur, hv, Nat.le_trans hb hg, r⟩
/-- An owned slice's growth leaves all below its base alone. -/
theorem owns_below {w w' : World} {base e size n : Nat} {v : Value} {xs : List Value} (h : w.ownsRow base e size v n xs) (hg : w.grownBy w' v.ownBlock) (hb : base ≤ w.heap.size) : Below base w w' :=
  (Below.refl base w).grown hg hb fun k hk => (h.lt k hk).1
theorem below_alloc (w : World) (o : Obj) : Below w.heap.size w (w.alloc o) := (Below.refl _ _).alloc (Nat.le_refl _) o
theorem grown_of_alloc {w w' : World} {o : Obj} {row : Option Nat} (hg : (w.alloc o).grownBy w' row) : w.grownBy w' row :=
  ⟨hg.os, hg.tape, hg.output, Nat.le_trans (by simp) hg.size, fun k hk hr => (hg.block k (by simp; omega) hr).trans (Below.heap_alloc w o k hk)⟩
theorem maxLen_of {n : Nat} (h : n ≤ 140737488355328) : n ≤ maxLen := by unfold maxLen; omega
section
variable {P : Program} {ops : Array Oper} {rest : List Oper} {Q : Exit → Act → World → Prop} {a : Act} {w : World}
theorem oneCell_list {xs : List Value} (h : xs.all (·.oneCell') = true) : ∀ u ∈ xs, u.oneCell' = true := by simpa using h
/-- 'v = append(v, x)': one element, out of the new block that holds it. -/
theorem wpList_push {t e size bytes : Nat} (T : SliceT P t e size bytes) {d : Option Tmp} {ty : TypeId} {pos : String} {aft : Array Edge} {s x : Operand} {v : Value} {n base : Nat} {xs : List Value} (hown : w.ownsRow base e size v n xs)
    (hs : a.eval s = v) (hx : a.eval x = .slice (some ⟨w.heap.size, 0, none⟩) 1 1) {cs : Array Value} (hcs : cs.size = size) (h1 : cs.toList.all (·.oneCell') = true)
    (hn : (n + 1) * bytes ≤ 140737488355328) (hm : n + 1 ≤ 140737488355328) (hb : base ≤ w.heap.size)
    (h : ∀ v' w', w'.ownsRow base e size v' (n + 1) (xs ++ cs.toList) → w.grownBy w' v.ownBlock → Below base w w' → wpList P ops Q rest (a.put d v') w') :
    wpList P ops Q (⟨d, .call { callee := .builtin .append, args := #[s, x], argTypes := #[t, t] }, ty, pos, aft, none⟩ :: rest) a (w.alloc (.cells cs e)) := by
  obtain ⟨i, z, h1', h2, h3, h4, h5⟩ := T.info
  refine wpList_append_own _ rfl s x t rfl base e i z size bytes T.ht h1' h2 h3 h4 h5 T.pos v n xs hs (hown.alloc _) ⟨w.heap.size, 0, none⟩ 1 1 cs.toList hx (by simp [hcs]) ?_ (oneCell_list h1) (maxLen_of hm) hn (by simp; omega) ?_
  · intro j u hj
    have e1 : (⟨w.heap.size, 0, none⟩ : Addr).add j = ⟨w.heap.size, j, none⟩ := by unfold Addr.add; split <;> simp_all
    rw [e1]
    simp only [World.cell?]
    rw [show (w.alloc (.cells cs e)).heap[w.heap.size]? = some (.cells cs e) from heap_alloc_new w _]
    simpa using hj
  · intro v' w' ho hg _
    exact h v' w' ho (grown_of_alloc hg) (owns_below hown (grown_of_alloc hg) hb)
/-- 'v = append(v, x...)': whatever slice x is. -/
theorem wpList_cat {t e size bytes : Nat} (T : SliceT P t e size bytes) {d : Option Tmp} {ty : TypeId} {pos : String} {aft : Array Edge} {s x : Operand} {v : Value} {n base : Nat} {xs : List Value} (hown : w.ownsRow base e size v n xs)
    {u : Value} {m : Nat} {ys : List Value} (hy : Reads w size u m ys) (hs : a.eval s = v) (hx : a.eval x = u) (h1 : ys.all (·.oneCell') = true)
    (hn : (n + m) * bytes ≤ 140737488355328) (hm : n + m ≤ 140737488355328) (hb : base ≤ w.heap.size)
    (h : ∀ v' w', w'.ownsRow base e size v' (n + m) (xs ++ ys) → w.grownBy w' v.ownBlock → Below base w w' → wpList P ops Q rest (a.put d v') w') :
    wpList P ops Q (⟨d, .call { callee := .builtin .append, args := #[s, x], argTypes := #[t, t] }, ty, pos, aft, none⟩ :: rest) a w := by
  obtain ⟨i, z, h1', h2, h3, h4, h5⟩ := T.info
  obtain ⟨hl, au, cap, rfl, hcap, h00, hc⟩ := hy
  rcases au with _ | ad
  · have hm0 : m * size = 0 := by
      rcases Nat.eq_zero_or_pos (m * size) with h0 | h0
      · exact h0
      · obtain ⟨b, off, h', _⟩ := hc 0 (by omega); cases h'
    have hys : ys = [] := List.eq_nil_of_length_eq_zero (by omega)
    subst hys
    have hm0' : m = 0 := by
      have := T.pos
      rcases Nat.mul_eq_zero.1 hm0 with h | h <;> omega
    subst hm0'
    obtain rfl := h00 rfl
    refine wpList_append_own_none rfl s x t rfl base e i size T.ht h1' v n xs hs hown hx ?_
    simpa using h v w (by simpa using hown) (World.grownBy.refl _ _) (Below.refl _ _)
  · refine wpList_append_own _ rfl s x t rfl base e i z size bytes T.ht h1' h2 h3 h4 h5 T.pos v n xs hs hown ad m cap ys hx hl ?_ (oneCell_list h1) (maxLen_of hm) hn hb ?_
    · intro j y hj
      have hlt : j < ys.length := (List.getElem?_eq_some_iff.1 hj).1
      obtain ⟨b, off, e1, e2⟩ := hc j hlt
      cases e1
      have e3 : (⟨b, off, none⟩ : Addr).add j = ⟨b, off + j, none⟩ := by unfold Addr.add; split <;> simp_all
      rw [e3, e2, hj]
    · intro v' w' ho hg _
      exact h v' w' ho hg (owns_below hown hg hb)
theorem wpList_val {o : Oper} {v : Value} {w' : World} (hg : Region.wanted o (yielded ops a.tmps) = true) (hr : (execOp a.eval o).run P w = .ok (.value v) w') (h : wpList P ops Q rest (a.put o.dst v) w') :
    wpList P ops Q (o :: rest) a w := by
  unfold wpList
  rw [if_pos hg]
  refine .inl ?_
  unfold Oper.wp Oper.upon
  rw [hr]
  exact h
theorem wpList_did {o : Oper} {w' : World} (hg : Region.wanted o (yielded ops a.tmps) = true) (hr : (execOp a.eval o).run P w = .ok .skip w') (h : wpList P ops Q rest (a.put o.dst undef) w') :
    wpList P ops Q (o :: rest) a w := by
  unfold wpList
  rw [if_pos hg]
  refine .inl ?_
  unfold Oper.wp Oper.upon
  rw [hr]
  exact h
theorem run_sliceBound' (k : IntKind) (i : Int) (y : Nat) (code : BoundsCode) (h0 : 0 ≤ i) (h1 : i ≤ y) : (Instr.sliceBound (.int k i) y code).run P w = .ok i.toNat w := by
  simp [Instr.sliceBound, asIntOf, h0, h1]
theorem exec_sliceTo {v v' j : Value} {d : Option Tmp} {t ty : TypeId} {pos : String} {aft : Array Edge} {g : Option (Nat × Bool)} {x hi : Operand} (hr : ∀ w', (Instr.sliceAt t v none (some j) none).run P w' = .ok v' w')
    (hx : a.eval x = v) (hhi : a.eval hi = j) : (execOp a.eval ⟨d, .slice t x none (some hi) none, ty, pos, aft, g⟩).run P w = .ok (.value v') w := by
  simp [execOp, hx, hhi, hr]
theorem below_grown {w w' : World} (hg : w.grownBy w' none) : Below w.heap.size w w' := ⟨hg.os, hg.tape, hg.output, hg.size, fun k hk => hg.block k hk (by simp)⟩
/-- 'make([]T, n)'. -/
theorem wpList_makeN {t e size bytes : Nat} (T : SliceT P t e size bytes) {z : Value} (hz : ∀ i, P.info? e = some i → i.zero = some z) {d : Option Tmp} {ty : TypeId} {pos : String} {aft : Array Edge} {x y : Operand} (n : Nat) {k k' : IntKind} {l c : Int} (hl : a.eval x = .int k l) (hc : a.eval y = .int k' c) (hn' : l = n) (hn : c = n)
    (hb : bytes * n ≤ 281474976710656) (hm : n ≤ 140737488355328)
    (h : ∀ v' w', w'.ownsRow w.heap.size e size v' n (madeCells z.cells (n * size)).toList → Below w.heap.size w w' → wpList P ops Q rest (a.put d v') w') :
    wpList P ops Q (⟨d, .makeSlice t x y, ty, pos, aft, none⟩ :: rest) a w := by
  obtain ⟨i, z', h1, h2, h3, h4, h5⟩ := T.info
  obtain rfl : z' = z := by have := hz i h1; rw [h2] at this; exact Option.some.inj this
  exact wpList_make_full w rfl x y t rfl w.heap.size e i z' size T.ht h1 h2 h3 k k' l c n hl hc hn' hn (by rw [h4]; exact hb) (maxLen_of hm) (Nat.le_refl _) fun w' r1 r2 => h _ _ r1 (below_grown r2)
/-- 'v = append(v, x)' where there is room: v stays where it is. -/
theorem wpList_pushFits {t e size bytes : Nat} (T : SliceT P t e size bytes) {d : Option Tmp} {ty : TypeId} {pos : String} {aft : Array Edge} {s x : Operand} {g k cap base : Nat} {xs : List Value} (hown : w.ownsRow base e size (.slice (some ⟨g, 0, none⟩) k cap) k xs)
    (hs : a.eval s = .slice (some ⟨g, 0, none⟩) k cap) (hx : a.eval x = .slice (some ⟨w.heap.size, 0, none⟩) 1 1) {cs : Array Value} (hcs : cs.size = size) (h1 : cs.toList.all (·.oneCell') = true) (hk : k < cap)
    (h : ∀ w', w'.ownsRow base e size (.slice (some ⟨g, 0, none⟩) (k + 1) cap) (k + 1) (xs ++ cs.toList) → w.grownBy w' (some g) → wpList P ops Q rest (a.put d (.slice (some ⟨g, 0, none⟩) (k + 1) cap)) w') :
    wpList P ops Q (⟨d, .call { callee := .builtin .append, args := #[s, x], argTypes := #[t, t] }, ty, pos, aft, none⟩ :: rest) a (w.alloc (.cells cs e)) := by
  obtain ⟨i, z, h1', h2, h3, h4, h5⟩ := T.info
  refine wpList_append_fits _ rfl s x t rfl base e i size T.ht h1' h3 g k cap xs hs (hown.alloc _) ⟨w.heap.size, 0, none⟩ 1 1 cs.toList hx (by simp [hcs]) ?_ (oneCell_list h1) hk ?_
  · intro j u hj
    have e1 : (⟨w.heap.size, 0, none⟩ : Addr).add j = ⟨w.heap.size, j, none⟩ := by unfold Addr.add; split <;> simp_all
    rw [e1]
    simp only [World.cell?]
    rw [show (w.alloc (.cells cs e)).heap[w.heap.size]? = some (.cells cs e) from heap_alloc_new w _]
    simpa using hj
  · intro w' ho hg
    exact h w' ho (grown_of_alloc hg)
theorem grownBy_trans {w1 w2 w3 : World} {row : Option Nat} (h1 : w1.grownBy w2 row) (h2 : w2.grownBy w3 row) : w1.grownBy w3 row :=
  ⟨h2.os.trans h1.os, h2.tape.trans h1.tape, h2.output.trans h1.output, Nat.le_trans h1.size h2.size, fun k hk hr => (h2.block k (Nat.lt_of_lt_of_le hk h1.size) hr).trans (h1.block k hk hr)⟩
theorem grownBy_setCell (w : World) (g o : Nat) (v : Value) : w.grownBy (w.setCell ⟨g, o, none⟩ v) (some g) :=
  ⟨rfl, rfl, rfl, by simp [World.setCell], fun k _ hr => Below.heap_setCell _ _ _ _ (fun e => hr (by simp [e]))⟩
theorem below_of_grown {w w' : World} {row : Option Nat} {B : Nat} (h : w.grownBy w' row) (hB : B ≤ w.heap.size) (hr : ∀ k, row = some k → B ≤ k) : Below B w w' :=
  (Below.refl B w).grown h hB hr
end
end Go.Fd
namespace Go.Proofs.Ytmpelmjhimalpaa
open Go.RowKit Go.Fd
/-- A byte as the model holds it. -/
abbrev B (c : UInt8) : Value := .int .u8 (c.toNat : Int)
/-- v reads as the bytes l. -/
def Bs (w : World) (v : Value) (l : List UInt8) : Prop := Reads w 1 v l.length (l.map B)
/-- v owns the bytes l, in a block from 'base' on. -/
def OB (w : World) (base : Nat) (v : Value) (l : List UInt8) : Prop := w.ownsRow base 5 1 v l.length (l.map B)
theorem TB : SliceT Try.prog 22 5 1 1 := SliceT.mk' (z := .int .u8 0) (by kernel_rfl) (by kernel_rfl) rfl (by omega)
theorem OB.bs {w : World} {base : Nat} {v : Value} {l : List UInt8} (h : OB w base v l) : Bs w v l := Reads.of_owns h
theorem OB.nil (w : World) (base : Nat) : OB w base (.slice none 0 0) [] := World.ownsRow_nil _ _ _ _
theorem Bs.mono {w w' : World} {v : Value} {l : List UInt8} (h : Bs w v l) (hb : Below w.heap.size w w') : Bs w' v l := Reads.mono h hb
theorem OB.mono {w w' : World} {base : Nat} {v : Value} {l : List UInt8} (h : OB w base v l) (hb : Below w.heap.size w w') : OB w' base v l := owns_mono h hb
theorem OB.base {w : World} {base base' : Nat} {v : Value} {l : List UInt8} (h : OB w base v l) (hb : base' ≤ base) : OB w base' v l := owns_base h hb
/-- A byte slice, opened for a walk. -/
theorem Bs.open {w : World} {v : Value} {l : List UInt8} (h : Bs w v l) : ∃ a cap, v = .slice a l.length cap ∧ l.length ≤ cap ∧ (a = none → cap = 0) ∧
    ∀ i, i < l.length → ∃ b off, a = some ⟨b, off, none⟩ ∧ w.cell? ⟨b, off + i, none⟩ = some (.int .u8 (l[i]?.getD 0).toNat) := by
  obtain ⟨h1, a, cap, h2, h3, h0, h4⟩ := h
  refine ⟨a, cap, h2, h3, h0, fun i hi => ?_⟩
  obtain ⟨b, off, e1, e2⟩ := h4 i (by simpa using hi)
  refine ⟨b, off, e1, e2.trans ?_⟩
  simp [List.getElem?_map, List.getElem?_eq_getElem hi]
theorem OB.open {w : World} {base : Nat} {v : Value} {l : List UInt8} (h : OB w base v l) (hl : 0 < l.length) : ∃ g cap, v = .slice (some ⟨g, 0, none⟩) l.length cap ∧ base ≤ g ∧ g < w.heap.size ∧ l.length ≤ cap ∧
    (∀ i, i < l.length → w.cell? ⟨g, i, none⟩ = some (.int .u8 (l[i]?.getD 0).toNat)) ∧ (∀ i, w.frozen? ⟨g, i, none⟩ = false) := by
  obtain ⟨h1, h2⟩ := id h
  rcases h2 with ⟨rfl, h0⟩ | ⟨g, cap, cur, rfl, hb, hg, hn, hc, hs, ht⟩
  · omega
  · refine ⟨g, cap, rfl, hb, (Array.getElem?_eq_some_iff.1 hg).1, hn, fun i hi => ?_, fun i => ?_⟩
    · rw [World.ownsRow.cellAt h i (by simpa using hi)]
      simp [List.getElem?_map, List.getElem?_eq_getElem hi]
    · exact World.ownsRow.frozenAt h i
theorem OB.stored {w : World} {base g cap : Nat} {l : List UInt8} (h : OB w base (.slice (some ⟨g, 0, none⟩) l.length cap) l) (j : Nat) (c : UInt8) :
    OB (w.setCell ⟨g, j, none⟩ (.int .u8 c.toNat)) base (.slice (some ⟨g, 0, none⟩) l.length cap) (l.set j c) := by
  have := (World.ownsRow.stored h j (B c)).1
  unfold OB
  rw [List.length_set, List.map_set]
  exact this
theorem Bs.shape {w : World} {v : Value} {l : List UInt8} (h : Bs w v l) : ∃ m a cap, Hid (m = l.length) ∧ v = .slice a m cap ∧ m ≤ cap ∧ (a = none → cap = 0) := Reads.shape h
theorem OB.shape {w : World} {base : Nat} {v : Value} {l : List UInt8} (h : OB w base v l) : ∃ m a cap, Hid (m = l.length) ∧ v = .slice a m cap ∧ m ≤ cap ∧ (a = none → cap = 0) := h.bs.shape
def lenV : Value → Nat
  | .slice _ n _ => n
  | _ => 0
/-- A string as the model holds it. -/
abbrev S (l : List UInt8) : Value := .string ⟨l.toArray⟩
theorem take_snoc' {α : Type} (g : List α) (i : Nat) (d : α) (h : g[i]? = some d) : g.take (i + 1) = g.take i ++ [d] := by
  obtain ⟨h1, h2⟩ := List.getElem?_eq_some_iff.1 h
  rw [List.take_succ_eq_append_getElem h1, h2]
theorem u8_of (x : Nat) : (UInt8.ofNat x).toNat = x % 256 := by simp
section
variable {ops : Array Oper} {rest : List Oper} {Q : Exit → Act → World → Prop} {a : Act} {w : World}
theorem wpList_pushB {d : Option Tmp} {ty : TypeId} {pos : String} {aft : Array Edge} {s x : Operand} {v : Value} {base : Nat} {l : List UInt8} (hown : OB w base v l)
    (hs : a.eval s = v) (hx : a.eval x = .slice (some ⟨w.heap.size, 0, none⟩) 1 1) {k : Int} (c : UInt8) (hc : k = c.toNat) (hn : l.length + 1 ≤ 140737488355328) (hb : base ≤ w.heap.size)
    (h : ∀ v' w', OB w' base v' (l ++ [c]) → w.grownBy w' v.ownBlock → Below base w w' → wpList Try.prog ops Q rest (a.put d v') w') :
    wpList Try.prog ops Q (⟨d, .call { callee := .builtin .append, args := #[s, x], argTypes := #[22, 22] }, ty, pos, aft, none⟩ :: rest) a (w.alloc (.cells #[.int .u8 k] 5)) := by
  refine wpList_push TB hown hs hx rfl rfl (by omega) hn hb fun v' w' h1 h2 h3 => h v' w' ?_ h2 h3
  unfold OB
  rw [List.length_append, List.map_append]
  subst hc
  exact h1
theorem allB (l : List UInt8) : (l.map B).all (·.oneCell') = true := by
  rw [List.all_eq_true]
  intro x hx
  obtain ⟨c, _, rfl⟩ := List.mem_map.1 hx
  rfl
theorem wpList_catB {d : Option Tmp} {ty : TypeId} {pos : String} {aft : Array Edge} {s x : Operand} {v u : Value} {base : Nat} {l m : List UInt8} (hown : OB w base v l) (hy : Bs w u m)
    (hs : a.eval s = v) (hx : a.eval x = u) (hn : l.length + m.length ≤ 140737488355328) (hb : base ≤ w.heap.size)
    (h : ∀ v' w', OB w' base v' (l ++ m) → w.grownBy w' v.ownBlock → Below base w w' → wpList Try.prog ops Q rest (a.put d v') w') :
    wpList Try.prog ops Q (⟨d, .call { callee := .builtin .append, args := #[s, x], argTypes := #[22, 22] }, ty, pos, aft, none⟩ :: rest) a w := by
  refine wpList_cat TB hown hy hs hx (allB _) (by omega) hn hb fun v' w' h1 h2 h3 => h v' w' ?_ h2 h3
  unfold OB
  rw [List.length_append, List.map_append]
  exact h1
theorem made_zeros (n : Nat) : (madeCells (Value.int .u8 0).cells (n * 1)).toList = (List.replicate n (0 : UInt8)).map B := by
  rw [Nat.mul_one]
  apply List.ext_getElem?
  intro i
  by_cases h : i < n
  · simp [madeCells, Value.cells, h, Nat.mod_one]
  · simp [madeCells, h]
/-- 'make([]byte, n)'. -/
theorem wpList_makeB {d : Option Tmp} {ty : TypeId} {pos : String} {aft : Array Edge} {x y : Operand} (n : Nat) {k k' : IntKind} {l c : Int} (hl : a.eval x = .int k l) (hc : a.eval y = .int k' c) (hn' : l = n) (hn : c = n) (hm : n ≤ 140737488355328)
    (h : ∀ v' w', OB w' w.heap.size v' (List.replicate n 0) → Below w.heap.size w w' → wpList Try.prog ops Q rest (a.put d v') w') :
    wpList Try.prog ops Q (⟨d, .makeSlice 22 x y, ty, pos, aft, none⟩ :: rest) a w := by
  refine wpList_makeN TB (z := .int .u8 0) (fun i hi => ?_) n hl hc hn' hn (by omega) hm fun v' w' h1 h2 => h v' w' ?_ h2
  · have := info_parts (P := Try.prog) (e := 5) (z := .int .u8 0) (size := 1) (bytes := 1) (by kernel_rfl)
    obtain ⟨i', h1, h2, _⟩ := this
    rw [hi] at h1
    cases h1
    exact h2
  · unfold OB
    rw [made_zeros] at h1
    rw [List.length_replicate]
    exact h1
theorem foldl_push (l : List UInt8) (s : ByteArray) : (l.map fun c => (c.toNat : Int)).foldl (fun (r : ByteArray) (n : Int) => r.push (UInt8.ofNat n.toNat)) s = ⟨s.data ++ l.toArray⟩ := by
  induction l generalizing s with
  | nil => simp
  | cons c l ih =>
    rw [List.map_cons, List.foldl_cons, ih]
    have : (s.push (UInt8.ofNat ((c.toNat : Int)).toNat)).data = s.data.push c := by simp [ByteArray.push]
    rw [this]
    simp [List.push_append_toArray]
/-- 'string(b)'. -/
theorem run_str {v : Value} {l : List UInt8} (hv : Bs w v l) : (convert 22 9 v).run Try.prog w = .ok (.string ⟨l.toArray⟩) w := by
  obtain ⟨h1, a, cap, rfl, h3, h0, h4⟩ := hv
  rw [run_convert_bytes_string w 22 9 5 a l.length cap (by kernel_rfl) (by kernel_rfl) (by kernel_rfl)]
  cases a with
  | none =>
    have hl : l = [] := by
      cases l with
      | nil => rfl
      | cons c l => obtain ⟨b, off, h, _⟩ := h4 0 (by simp); cases h
    subst hl
    rfl
  | some ad =>
    rw [run_bytesToString w ad l.length cap (l.map fun c => (c.toNat : Int))]
    · rw [foldl_push]; simp
    · have h := run_loadCells_list (P := Try.prog) (w := w) ad (l.map B) (fun j v hj => by
        obtain ⟨b, off, e1, e2⟩ := h4 j (List.getElem?_eq_some_iff.1 hj).1
        cases e1
        have e3 : (⟨b, off, none⟩ : Addr).add j = ⟨b, off + j, none⟩ := by unfold Addr.add; split <;> simp_all
        rw [e3, e2, hj])
      rw [List.length_map] at h
      rw [h]
      simp [B]
theorem run_sliceTo_own (g k cap m : Nat) (h : m ≤ cap) (wx : World) : (Instr.sliceAt 22 (.slice (some ⟨g, 0, none⟩) k cap) none (some (.int .i64 m)) none).run Try.prog wx = .ok (.slice (some ⟨g, 0, none⟩) m cap) wx := by
  obtain ⟨i, z, h1, h2, h3, h4, h5⟩ := TB.info
  have r1 : (Instr.sliceBound (.int .i64 (m : Int)) cap .sliceAcap).run Try.prog wx = .ok m wx := by
    rw [run_sliceBound' _ _ _ _ (by omega) (by omega)]; rfl
  simp [Instr.sliceAt, Instr.slice, run_underlying TB.ht, Instr.sliceBounds, r1, sizeOf, typeInfo, h1, Addr.add]
end
end Go.Proofs.Ytmpelmjhimalpaa
namespace Go.Fd
open Go.RowKit Go.MapKept
open Go.ChangeMaps (setBlock heap_setBlock_same heap_setBlock_other modify_eq_set)
open Go.Maps (Keyed)
section
variable {κ : Type}
/-- A map's type, and how its keys are written. -/
structure KeyT (P : Program) (t k e : TypeId) (mk : κ → Value) : Prop where
  ht : P.underlying t = some (.map k e)
  K : Keyed P k
  inj : ∀ a b, mk a = mk b → a = b
/-- Block b is a map with the entries E, in the order in which they came. -/
def MapIs (P : Program) (k : TypeId) (mk : κ → Value) (w : World) (b : Nat) (E : List (κ × Value)) : Prop :=
  ∃ es clock, w.heap[b]? = some (.map es clock) ∧ es.toList.map (fun x => (x.key, x.val)) = E.map (fun p => (mk p.1, p.2)) ∧ es.size ≤ maxLen ∧ Stamped es clock ∧ ∀ x ∈ es.toList, ∃ l, keyOf P k x.key = some l
/-- An entry put in: in its key's place, or behind. -/
def putE [DecidableEq κ] (E : List (κ × Value)) (x : κ) (v : Value) : List (κ × Value) :=
  if x ∈ E.map (·.1) then E.map (fun p => if p.1 = x then (x, v) else p) else E ++ [(x, v)]
theorem lookup_of_mem [DecidableEq κ] {E : List (κ × Value)} (hn : (E.map (·.1)).Nodup) {x : κ} {v : Value} (h : (x, v) ∈ E) : E.lookup x = some v := by
  induction E with
  | nil => cases h
  | cons p E ih =>
    obtain ⟨y, u⟩ := p
    simp only [List.map_cons, List.nodup_cons] at hn
    rw [List.lookup_cons]
    rcases List.mem_cons.1 h with h | h
    · cases h; simp
    · have hne : ¬ x = y := fun e => hn.1 (e ▸ List.mem_map.2 ⟨_, h, rfl⟩)
      rw [show (x == y) = false by simpa using hne]
      exact ih hn.2 h
theorem lookup_none_of [DecidableEq κ] {E : List (κ × Value)} {x : κ} (h : x ∉ E.map (·.1)) : E.lookup x = none := by
  induction E with
  | nil => rfl
  | cons p E ih =>
    obtain ⟨y, u⟩ := p
    simp only [List.map_cons, List.mem_cons, not_or] at h
    rw [List.lookup_cons, show (x == y) = false by simpa using h.1]
    exact ih h.2
variable {P : Program} {t k e : TypeId} {mk : κ → Value} {w : World} {b : Nat} {E : List (κ × Value)}
theorem MapIs.lt (h : MapIs P k mk w b E) : b < w.heap.size := by
  obtain ⟨es, clock, hb, _⟩ := h
  exact (Array.getElem?_eq_some_iff.1 hb).1
theorem MapIs.mono {w' : World} (h : MapIs P k mk w b E) (hb : Below w.heap.size w w') : MapIs P k mk w' b E := by
  have hlt := h.lt
  obtain ⟨es, clock, hb', r⟩ := h
  exact ⟨es, clock, (hb.block b hlt).trans hb', r⟩
theorem MapIs.block {w' : World} (h : MapIs P k mk w b E) (hb : w'.heap[b]? = w.heap[b]?) : MapIs P k mk w' b E := by
  obtain ⟨es, clock, hb', r⟩ := h
  exact ⟨es, clock, hb.trans hb', r⟩
theorem MapIs.nodup (h : MapIs P k mk w b E) : (E.map (·.1)).Nodup := by
  obtain ⟨es, clock, _, he, _, hs, _⟩ := h
  have h2 : (es.toList.map (·.key)).Nodup := hs.2.2
  have e1 : es.toList.map (·.key) = (E.map (·.1)).map mk := by
    have := congrArg (List.map (·.1)) he
    simpa [List.map_map, Function.comp_def] using this
  rw [e1] at h2
  unfold List.Nodup at h2 ⊢
  rw [List.pairwise_map] at h2
  exact h2.imp (fun hne e => hne (by rw [e]))
theorem MapIs.made (w : World) : MapIs P k mk (w.alloc (.map #[] 0)) w.heap.size ([] : List (κ × Value)) :=
  ⟨#[], 0, (MapKept.heap_alloc w _).1, by simp, by simp, stamped_empty 0, by simp⟩
/-- What a look-up gives. -/
def lookV (c : Bool) (z : Value) : Option Value → Value
  | some v => if c then .tuple #[v, .bool true] else v
  | none => if c then .tuple #[z, .bool false] else z
theorem MapIs.look [DecidableEq κ] (c : Bool) (h : MapIs P k mk w b E) (T : KeyT P t k e mk) {z : Value} (hz : (zeroValue e).run P w = .ok z w) {x : κ} {l : Lit} (hkey : keyOf P k (mk x) = some l) :
    (Instr.lookup t (.map (some b)) (mk x) c).run P w = .ok (lookV c z (E.lookup x)) w := by
  have hn := h.nodup
  obtain ⟨es, clock, hb, he, hsz, hs, hk⟩ := h
  rcases T.K.find w hkey es.toList hk with ⟨h1, h2⟩ | ⟨j, e0, h1, h2, h3⟩
  · have : E.lookup x = none := lookup_none_of fun hm => by
      obtain ⟨p, hp, rfl⟩ := List.mem_map.1 hm
      have : (mk p.1, p.2) ∈ es.toList.map (fun x => (x.key, x.val)) := by rw [he]; exact List.mem_map.2 ⟨p, hp, rfl⟩
      obtain ⟨y, hy, e1⟩ := List.mem_map.1 this
      exact h2 y hy (congrArg Prod.fst e1)
    rw [this]
    simp [Instr.lookup, run_underlying T.ht, MapKept.run_getObj_map hb, T.K.check w _ hkey, h1, hz, Result.andThen, lookV]
  · have hE : (E.map (fun p => (mk p.1, p.2)))[j]? = some (e0.key, e0.val) := by rw [← he, List.getElem?_map, h2]; rfl
    rw [List.getElem?_map] at hE
    obtain ⟨p, hp, e1⟩ := Option.map_eq_some_iff.1 hE
    obtain ⟨y, v⟩ := p
    simp only [Prod.mk.injEq] at e1
    obtain ⟨e1, rfl⟩ := e1
    obtain rfl := T.inj _ _ (e1.trans h3)
    rw [lookup_of_mem hn (List.mem_of_getElem? hp)]
    simp [Instr.lookup, run_underlying T.ht, MapKept.run_getObj_map hb, T.K.check w _ hkey, h1, Result.andThen, lookV]
theorem set_eq_map [DecidableEq κ] {E : List (κ × Value)} (hn : (E.map (·.1)).Nodup) {j : Nat} {x : κ} {u v : Value} (h : E[j]? = some (x, u)) : E.set j (x, v) = E.map (fun p => if p.1 = x then (x, v) else p) := by
  apply List.ext_getElem?
  intro i
  rw [List.getElem?_set, List.getElem?_map]
  have hj := (List.getElem?_eq_some_iff.1 h).1
  by_cases hij : j = i
  · subst hij
    rw [if_pos rfl, if_pos hj, h]
    simp
  · rw [if_neg hij]
    cases hi : E[i]? with
    | none => rfl
    | some p =>
      have hne : p.1 ≠ x := by
        intro e
        have hi' := (List.getElem?_eq_some_iff.1 hi).1
        unfold List.Nodup at hn
        rw [List.pairwise_map, List.pairwise_iff_getElem] at hn
        have g1 : E[i] = p := (List.getElem?_eq_some_iff.1 hi).2
        have g2 : E[j] = (x, u) := (List.getElem?_eq_some_iff.1 h).2
        rcases Nat.lt_or_gt_of_ne hij with hlt | hlt
        · exact hn j i hj hi' hlt (by rw [g1, g2, e])
        · exact hn i j hi' hj hlt (by rw [g1, g2, e])
      simp [hne]
theorem MapIs.store [DecidableEq κ] (h : MapIs P k mk w b E) (T : KeyT P t k e mk) (hroom : E.length < maxLen) {x : κ} {l : Lit} (hkey : keyOf P k (mk x) = some l) (v : Value) :
    ∃ w', (Instr.mapUpdate t (.map (some b)) (mk x) v).run P w = .ok () w' ∧ MapIs P k mk w' b (putE E x v) ∧ w.grownBy w' (some b) ∧ w'.heap.size = w.heap.size := by
  have hn := h.nodup
  obtain ⟨es, clock, hb, he, hsz, hs, hk⟩ := h
  have hlen : es.size = E.length := by have := congrArg List.length he; simpa using this
  rcases T.K.find w hkey es.toList hk with ⟨h1, h2⟩ | ⟨j, e0, h1, h2, h3⟩
  · have hnot : x ∉ E.map (·.1) := fun hm => by
      obtain ⟨p, hp, rfl⟩ := List.mem_map.1 hm
      have : (mk p.1, p.2) ∈ es.toList.map (fun x => (x.key, x.val)) := by rw [he]; exact List.mem_map.2 ⟨p, hp, rfl⟩
      obtain ⟨y, hy, e1⟩ := List.mem_map.1 this
      exact h2 y hy (congrArg Prod.fst e1)
    refine ⟨setBlock w b (.map (es.push ⟨mk x, v, clock⟩) (clock + 1)), ?_, ⟨_, _, heap_setBlock_same hb _, ?_, by simp; omega, stamped_push hs h2, ?_⟩, ⟨rfl, rfl, rfl, by simp [setBlock], fun i _ hi => heap_setBlock_other hb _ (fun e => hi (by rw [e]))⟩, by simp [setBlock]⟩
    · simp [Instr.mapUpdate, run_underlying T.ht, MapKept.run_getObj_map hb, T.K.check w false hkey, h1, MapKept.run_setObj_map _ hb, Result.andThen, setBlock]
    · rw [putE, if_neg hnot, Array.toList_push, List.map_append, he]; simp
    · intro y hy
      simp only [Array.toList_push, List.mem_append, List.mem_singleton] at hy
      rcases hy with hy | rfl
      · exact hk y hy
      · exact ⟨l, hkey⟩
  · have hj : es[j]? = some e0 := by simpa using h2
    have hE : (E.map (fun p => (mk p.1, p.2)))[j]? = some (e0.key, e0.val) := by rw [← he, List.getElem?_map, h2]; rfl
    rw [List.getElem?_map] at hE
    obtain ⟨p, hp, e1⟩ := Option.map_eq_some_iff.1 hE
    obtain ⟨y, u⟩ := p
    simp only [Prod.mk.injEq] at e1
    obtain ⟨e1, rfl⟩ := e1
    obtain rfl := T.inj _ _ (e1.trans h3)
    have hin : y ∈ E.map (·.1) := List.mem_map.2 ⟨_, List.mem_of_getElem? hp, rfl⟩
    have hkeyf : ∀ e', es[j]? = some e' → ({ e' with key := mk y, val := v } : MapEntry).key = e'.key := fun e' he' => by rw [hj] at he'; cases he'; exact h3.symm
    have hlist : (es.modify j (fun e' => { e' with key := mk y, val := v })).toList = es.toList.set j { e0 with key := mk y, val := v } := by rw [Array.toList_modify, modify_eq_set _ _ _ _ h2]
    refine ⟨setBlock w b (.map (es.modify j (fun e' => { e' with key := mk y, val := v })) clock), ?_, ⟨_, _, heap_setBlock_same hb _, ?_, by simpa using hsz, stamped_modify hs _ _ (fun _ _ => rfl) (fun e' _ he' => hkeyf e' he'), ?_⟩, ⟨rfl, rfl, rfl, by simp [setBlock], fun i _ hi => heap_setBlock_other hb _ (fun e => hi (by rw [e]))⟩, by simp [setBlock]⟩
    · simp [Instr.mapUpdate, run_underlying T.ht, MapKept.run_getObj_map hb, T.K.check w false hkey, h1, hj, h3, T.K.stays w hkey, MapKept.run_setObj_map _ hb, Result.andThen, setBlock]
    · rw [putE, if_pos hin, hlist, List.map_set, he, ← set_eq_map hn hp, List.map_set]
    · intro z hz
      rw [hlist] at hz
      rcases List.mem_or_eq_of_mem_set hz with hz | rfl
      · exact hk z hz
      · exact ⟨l, hkey⟩
theorem MapIs.len (h : MapIs P k mk w b E) (ht : P.underlying t = some (.map k e)) (ty : TypeId) : (Builtin.len_ #[t] ty #[.map (some b)]).run P w = .ok (.int .i64 E.length) w := by
  obtain ⟨es, clock, hb, he, hsz, hs, hk⟩ := h
  have hlen : es.size = E.length := by have := congrArg List.length he; simpa using this
  simp [Builtin.len_, run_underlying ht, MapKept.run_getObj_map hb, Result.andThen, hlen, goInt]
theorem MapIs.size_le (h : MapIs P k mk w b E) : E.length ≤ maxLen := by
  obtain ⟨es, clock, hb, he, hsz, hs, hk⟩ := h
  have hlen : es.size = E.length := by have := congrArg List.length he; simpa using this
  omega
/-- A loop over a map under way: 'left' is still to come. -/
def RangeIs (P : Program) (k : TypeId) (mk : κ → Value) (w : World) (b r : Nat) (E left : List (κ × Value)) : Prop :=
  ∃ es clock since seen c0, w.heap[b]? = some (.map es clock) ∧ es.toList.map (fun x => (x.key, x.val)) = E.map (fun p => (mk p.1, p.2)) ∧ es.size ≤ maxLen ∧ Stamped es clock ∧ (∀ x ∈ es.toList, ∃ l, keyOf P k x.key = some l) ∧
    w.heap[r]? = some (.mapIter (some b) since seen c0) ∧ (∀ x ∈ es.toList, x.born < since) ∧ since ≤ c0 ∧ since ≤ clock ∧ (leftOf es seen).toList.map (fun x => (x.key, x.val)) = left.map (fun p => (mk p.1, p.2))
theorem RangeIs.is {r : Nat} {left : List (κ × Value)} (h : RangeIs P k mk w b r E left) : MapIs P k mk w b E := by
  obtain ⟨es, clock, since, seen, c0, hb, he, hsz, hs, hk, _⟩ := h
  exact ⟨es, clock, hb, he, hsz, hs, hk⟩
theorem RangeIs.lt {r : Nat} {left : List (κ × Value)} (h : RangeIs P k mk w b r E left) : r < w.heap.size := by
  obtain ⟨es, clock, since, seen, c0, _, _, _, _, _, hr, _⟩ := h
  exact (Array.getElem?_eq_some_iff.1 hr).1
theorem RangeIs.ne {r : Nat} {left : List (κ × Value)} (h : RangeIs P k mk w b r E left) : r ≠ b := by
  obtain ⟨es, clock, since, seen, c0, hb, _, _, _, _, hr, _⟩ := h
  intro e
  rw [e, hb] at hr
  cases hr
theorem RangeIs.kept {w' : World} {row : Option Nat} {r : Nat} {left : List (κ × Value)} (h : RangeIs P k mk w b r E left) (hg : w.grownBy w' row) (hb' : some b ≠ row) (hr' : some r ≠ row) : RangeIs P k mk w' b r E left := by
  have h1 := h.is.lt
  have h2 := h.lt
  obtain ⟨es, clock, since, seen, c0, hb, he, hsz, hs, hk, hr, rest⟩ := h
  exact ⟨es, clock, since, seen, c0, (hg.block b h1 hb').trans hb, he, hsz, hs, hk, (hg.block r h2 hr').trans hr, rest⟩
theorem filter_related {α β γ : Type} {f : α → γ} {g : β → γ} {p : α → Bool} {q : β → Bool} : ∀ {l : List α} {m : List β}, l.map f = m.map g → (∀ a b, a ∈ l → b ∈ m → f a = g b → p a = q b) → (l.filter p).map f = (m.filter q).map g
  | [], [], _, _ => rfl
  | [], _ :: _, h, _ => by simp at h
  | _ :: _, [], h, _ => by simp at h
  | a :: l, b :: m, h, hpq => by
    simp only [List.map_cons, List.cons.injEq] at h
    have ih := filter_related h.2 (p := p) (q := q) fun a' b' ha hb => hpq a' b' (by simp [ha]) (by simp [hb])
    rw [List.filter_cons, List.filter_cons, hpq a b (by simp) (by simp) h.1]
    split
    · rw [List.map_cons, List.map_cons, h.1, ih]
    · exact ih
theorem RangeIs.left_eq {r : Nat} {left : List (κ × Value)} (h : RangeIs P k mk w b r E left) : w.rangeLeft b r = left.length := by
  obtain ⟨es, clock, since, seen, c0, hb, _, _, _, _, hr, _, _, _, hl⟩ := h
  have := congrArg List.length hl
  simp only [List.length_map] at this
  simp only [World.rangeLeft, hb, hr]
  simpa using this
theorem MapIs.range (h : MapIs P k mk w b E) (ht : P.underlying t = some (.map k e)) :
    ∃ w', (Instr.range t (.map (some b))).run P w = .ok (.pointer (some ⟨w.heap.size, 0, none⟩)) w' ∧ RangeIs P k mk w' b w.heap.size E E ∧ w.grownBy w' none ∧ w'.heap.size = w.heap.size + 1 := by
  have hlt := h.lt
  obtain ⟨es, clock, hb, he, hsz, hs, hk⟩ := h
  refine ⟨_, run_range_map w t k e b es clock ht hb, ⟨es, clock, clock, #[], clock, ((MapKept.heap_alloc w _).2 b hlt).trans hb, he, hsz, hs, hk, (MapKept.heap_alloc w _).1, hs.1, Nat.le_refl _, Nat.le_refl _, ?_⟩, World.grownBy_alloc w _ none, by simp⟩
  rw [← he]
  congr 1
  simp [leftOf]
theorem RangeIs.next [DecidableEq κ] {r : Nat} {left : List (κ × Value)} (h : RangeIs P k mk w b r E left) (T : KeyT P t k e mk) (ty : TypeId) :
    (left = [] ∧ (Instr.next (.pointer (some ⟨r, 0, none⟩)) false ty).run P w = .ok (.tuple #[.bool false]) w) ∨
    ∃ p w', p ∈ left ∧ (Instr.next (.pointer (some ⟨r, 0, none⟩)) false ty).run P w = .ok (.tuple #[.bool true, mk p.1, p.2]) w' ∧ RangeIs P k mk w' b r E (left.filter (fun q => q.1 ≠ p.1)) ∧ w.grownBy w' (some r) ∧ w'.heap.size = w.heap.size ∧
      (Instr.entry (.pointer (some ⟨r, 0, none⟩))).run P w' = .ok (.tuple #[mk p.1, p.2]) w' := by
  have hne := h.ne
  obtain ⟨es, clock, since, seen, c0, hb, he, hsz, hs, hk, hr, hold, hsc, hsk, hl⟩ := h
  rcases run_next_at (P := P) w ty r b since c0 seen es clock hr hb hold hsc with ⟨h0, hrun⟩ | ⟨x, hx, w1, hal, hrun⟩
  · refine Or.inl ⟨?_, hrun⟩
    have := congrArg List.length hl
    simp at this
    cases left with
    | nil => rfl
    | cons p l => simp at this; omega
  · obtain ⟨hem, hes⟩ := mem_left hx
    have hp : (x.key, x.val) ∈ left.map (fun p => (mk p.1, p.2)) := by rw [← hl]; exact List.mem_map.2 ⟨x, hx, rfl⟩
    obtain ⟨p, hp, e1⟩ := List.mem_map.1 hp
    simp only [Prod.mk.injEq] at e1
    obtain ⟨e1, e2⟩ := e1
    have hr1 : w1.heap[r]? = some (.mapIter (some b) since seen c0) := by rcases hal with rfl | rfl <;> exact hr
    have hb1 : w1.heap[b]? = some (.map es clock) := by rcases hal with rfl | rfl <;> exact hb
    have hset := heap_set (o' := .mapIter (some b) since (seen.push x.born) clock) hr1
    have hb' : (setBlock w1 r (.mapIter (some b) since (seen.push x.born) clock)).heap[b]? = some (.map es clock) := (hset.2 b (fun e1 => hne e1.symm)).trans hb1
    have hst := (stamped_iff es clock).1 hs
    rw [← e1, ← e2] at hrun
    refine Or.inr ⟨p, _, hp, hrun, ⟨es, clock, since, seen.push x.born, clock, hb', he, hsz, hs, hk, hset.1, hold, hsk, hsk, ?_⟩, ?_, ?_, ?_⟩
    · have e3 : (leftOf es (seen.push x.born)).toList = (leftOf es seen).toList.filter (fun y => y.born != x.born) := by
        unfold leftOf
        simp only [Array.toList_filter, List.filter_filter]
        refine List.filter_congr fun y _ => ?_
        rw [contains_push]
        cases seen.contains y.born <;> simp [bne]
      rw [e3]
      refine filter_related hl fun y q hy _ hyq => ?_
      simp only [Prod.mk.injEq] at hyq
      have hym := (mem_left hy).1
      by_cases h : q.1 = p.1
      · have : y = x := entry_eq_of_key hst.2.2 hym hem (by rw [hyq.1, h, e1])
        subst this
        simp [h]
      · have : y.born ≠ x.born := fun e => by
          have := born_inj hst.2.1 hym hem e
          subst this
          exact h (T.inj _ _ (hyq.1.symm.trans e1.symm))
        simp [h, this]
    · rcases hal with rfl | rfl <;> exact ⟨rfl, rfl, rfl, by simp [setBlock], fun i _ hi => hset.2 i (fun e1 => hi (by rw [e1]))⟩
    · rcases hal with rfl | rfl <;> simp [setBlock]
    · rw [e1, e2]
      exact run_entry_at _ r b since seen es clock x hset.1 hb' hem hst.2.1
section
variable {ops : Array Oper} {rest : List Oper} {Q : Exit → Act → World → Prop} {a : Act} {d : Option Tmp} {ty : TypeId} {pos : String} {aft : Array Edge} {m x : Operand}
/-- 'range m'. -/
theorem wpList_rangeM (ht : P.underlying t = some (.map k e)) (h : MapIs P k mk w b E) (hm : a.eval m = .map (some b))
    (hK : ∀ w', RangeIs P k mk w' b w.heap.size E E → w.grownBy w' none → w'.heap.size = w.heap.size + 1 → wpList P ops Q rest (a.put d (.pointer (some ⟨w.heap.size, 0, none⟩))) w') :
    wpList P ops Q (⟨d, .range t m, ty, pos, aft, none⟩ :: rest) a w := by
  obtain ⟨w', hrun, r1, r2, r3⟩ := h.range ht
  refine wpList_val rfl (v := .pointer (some ⟨w.heap.size, 0, none⟩)) (w' := w') ?_ (hK w' r1 r2 r3)
  simp [execOp, hm, hrun, Result.andThen]
/-- The loop's step. -/
theorem wpList_nextM [DecidableEq κ] {r : Nat} {left : List (κ × Value)} (T : KeyT P t k e mk) (h : RangeIs P k mk w b r E left) (hm : a.eval m = .pointer (some ⟨r, 0, none⟩))
    (hDone : left = [] → wpList P ops Q rest (a.put d (.tuple #[.bool false])) w)
    (hMore : ∀ p w', p ∈ left → RangeIs P k mk w' b r E (left.filter (fun q => q.1 ≠ p.1)) → w.grownBy w' (some r) → w'.heap.size = w.heap.size →
      (Instr.entry (.pointer (some ⟨r, 0, none⟩))).run P w' = .ok (.tuple #[mk p.1, p.2]) w' → wpList P ops Q rest (a.put d (.tuple #[.bool true, mk p.1, p.2])) w') :
    wpList P ops Q (⟨d, .next m false, ty, pos, aft, none⟩ :: rest) a w := by
  rcases h.next T ty with ⟨h0, hrun⟩ | ⟨p, w', h1, hrun, h2, h3, h4, h5⟩
  · refine wpList_val rfl (v := .tuple #[.bool false]) (w' := w) ?_ (hDone h0)
    simp [execOp, hm, hrun, Result.andThen]
  · refine wpList_val rfl (v := .tuple #[.bool true, mk p.1, p.2]) (w' := w') ?_ (hMore p w' h1 h2 h3 h4 h5)
    simp [execOp, hm, hrun, Result.andThen]
/-- 'm[k] = v'. -/
theorem wpList_storeM [DecidableEq κ] (T : KeyT P t k e mk) (h : MapIs P k mk w b E) (hroom : E.length < maxLen) {v : Operand} {key : κ} {l : Lit} {val : Value} (hkey : keyOf P k (mk key) = some l) (hm : a.eval m = .map (some b)) (hx : a.eval x = mk key) (hv : a.eval v = val)
    (hK : ∀ w', MapIs P k mk w' b (putE E key val) → w.grownBy w' (some b) → w'.heap.size = w.heap.size → wpList P ops Q rest (a.put d undef) w') :
    wpList P ops Q (⟨d, .mapUpdate t m x v, ty, pos, aft, none⟩ :: rest) a w := by
  obtain ⟨w', hrun, r1, r2, r3⟩ := h.store T hroom hkey val
  refine wpList_did rfl (w' := w') ?_ (hK w' r1 r2 r3)
  simp [execOp, hm, hx, hv, hrun, Result.andThen]
end
end
end Go.Fd
namespace Go.Fd
open Go.RowKit
/-- Of the blocks that were there those alone in S may have turned. -/
structure Stirs (S : Nat → Prop) (w w' : World) : Prop where
  os : w'.os = w.os
  tape : w'.tape = w.tape
  output : w'.output = w.output
  size : w.heap.size ≤ w'.heap.size
  block : ∀ k, k < w.heap.size → ¬ S k → w'.heap[k]? = w.heap[k]?
section
variable {S S' : Nat → Prop} {a w w' w'' : World}
theorem Stirs.refl (S : Nat → Prop) (w : World) : Stirs S w w := ⟨rfl, rfl, rfl, Nat.le_refl _, fun _ _ _ => rfl⟩
theorem Stirs.trans (h : Stirs S w w') (k : Stirs S' w' w'') (hs : ∀ i, i < w.heap.size → S' i → S i) : Stirs S w w'' :=
  ⟨k.os.trans h.os, k.tape.trans h.tape, k.output.trans h.output, Nat.le_trans h.size k.size, fun i hi hn => (k.block i (Nat.lt_of_lt_of_le hi h.size) fun e => hn (hs i hi e)).trans (h.block i hi hn)⟩
theorem Stirs.sub (h : Stirs S w w') (hs : ∀ i, i < w.heap.size → S i → S' i) : Stirs S' w w' := ⟨h.os, h.tape, h.output, h.size, fun i hi hn => h.block i hi fun e => hn (hs i hi e)⟩
theorem Stirs.of_below (h : Below w.heap.size w w') : Stirs S w w' := ⟨h.os, h.tape, h.output, h.size, fun k hk _ => h.block k hk⟩
theorem Stirs.of_belowB {B : Nat} (h : Below B w w') (hs : ∀ k, B ≤ k → S k) : Stirs S w w' := ⟨h.os, h.tape, h.output, h.size, fun k _ hn => h.block k (by
  rcases Nat.lt_or_ge k B with h | h
  · exact h
  · exact absurd (hs k h) hn)⟩
theorem Stirs.below (h : Stirs S w w') {B : Nat} (hB : B ≤ w.heap.size) (hs : ∀ k, S k → B ≤ k) : Below B w w' := ⟨h.os, h.tape, h.output, h.size, fun k hk => h.block k (by omega) fun e => by have := hs k e; omega⟩
theorem Stirs.of_grown {row : Option Nat} (h : w.grownBy w' row) (hs : ∀ k, row = some k → S k) : Stirs S w w' := ⟨h.os, h.tape, h.output, h.size, fun k hk hn => h.block k hk fun e => hn (hs k e.symm)⟩
theorem Stirs.alloc (h : Stirs S a w) (o : Obj) : Stirs S a (w.alloc o) := h.trans (Stirs.of_below (S := S) (below_alloc w o)) fun _ _ h => h
theorem Stirs.thenBelow (h : Stirs S a w) (hb : Below w.heap.size w w') : Stirs S a w' := h.trans (Stirs.of_below (S := S) hb) fun _ _ h => h
theorem stirs_setCell (w : World) (b o : Nat) (v : Value) (hs : S b) : Stirs S w (w.setCell ⟨b, o, none⟩ v) :=
  ⟨rfl, rfl, rfl, by simp [World.setCell], fun k _ hn => Below.heap_setCell _ _ _ _ (fun e => hn (by subst e; exact hs))⟩
theorem Stirs.cell (h : Stirs S w w') {b o : Nat} {v : Value} (hc : w.cell? ⟨b, o, none⟩ = some v) (hn : ¬ S b) : w'.cell? ⟨b, o, none⟩ = some v := by
  rw [World.cell?_of_block (w := w) (h.block b (block_lt hc) hn)]; exact hc
theorem Stirs.kept (h : Stirs S w w') {b : Nat} {o : Obj} (hb : w.heap[b]? = some o) (hn : ¬ S b) : w'.heap[b]? = some o := (h.block b (Array.getElem?_eq_some_iff.1 hb).1 hn).trans hb
theorem Reads.stirs {size n : Nat} {v : Value} {xs : List Value} (h : Reads w size v n xs) (ht : Stirs S w w') (hn : ∀ k, v.ownBlock = some k → ¬ S k) : Reads w' size v n xs := by
  obtain ⟨h1, a, cap, h2, h3, h0, h4⟩ := h
  refine ⟨h1, a, cap, h2, h3, h0, fun j hj => ?_⟩
  obtain ⟨b, off, e1, e2⟩ := h4 j hj
  refine ⟨b, off, e1, ?_⟩
  rw [List.getElem?_eq_getElem hj] at e2 ⊢
  exact ht.cell e2 (hn b (by subst h2 e1; rfl))
theorem owns_stirs {base e size n : Nat} {v : Value} {xs : List Value} (h : w.ownsRow base e size v n xs) (ht : Stirs S w w') (hn : ∀ k, v.ownBlock = some k → ¬ S k) : w'.ownsRow base e size v n xs := by
  refine ⟨h.1, ?_⟩
  rcases h.2 with h2 | ⟨g, cap, cur, hv, hg, hh, r⟩
  · exact .inl h2
  · exact .inr ⟨g, cap, cur, hv, hg, ht.kept hh (hn g (by rw [hv]; rfl)), r⟩
end
theorem ret2 {a b c d : Value} (h1 : a = c) (h2 : b = d) : Ending.returned (.tuple #[a, b]) = .returned (.tuple #[c, d]) := by rw [h1, h2]
theorem nat_eq {k : IntKind} {a b : Nat} (h : a = b) : Value.int k (a : Int) = .int k (b : Int) := by rw [h]
theorem bool_eq {a b : Bool} (h : a = b) : Value.bool a = .bool b := by rw [h]
end Go.Fd
namespace Go.Proofs.Ytmpelmjhimalpaa
open Go.RowKit Go.Fd
/-- A page: its number, the block that holds it, its rights, its bytes. -/
structure Ent where
  n : Nat
  blk : Nat
  r : Nat
  c : List UInt8
def pgCells (r : Nat) (c : List UInt8) : Array Value := (Value.int .i64 (r : Int) :: c.map B).toArray
abbrev K64 (n : Nat) : Value := .int .u64 (n : Int)
abbrev ptr (b : Nat) : Value := .pointer (some ⟨b, 0, none⟩)
def keyE (e : Ent) : Nat × Value := (e.n, ptr e.blk)
/-- The memory behind a pointer to block bp. -/
structure PagesIs (w : World) (base bp bm : Nat) (L : List Ent) : Prop where
  hp : w.heap[bp]? = some (.cells #[.bool true, .map (some bm)] 86)
  hm : MapIs Try.prog 24 K64 w bm (L.map keyE)
  bp : base ≤ bp
  bm : base ≤ bm
  pg : ∀ e ∈ L, w.heap[e.blk]? = some (.cells (pgCells e.r e.c) 89) ∧ e.c.length = 4096 ∧ base ≤ e.blk ∧ e.n < 18446744073709551616 ∧ e.r < 8
  nd : (L.map (·.blk)).Nodup
theorem TM : KeyT Try.prog 84 24 83 K64 := ⟨by kernel_rfl, Maps.int_keyed (q := .u64) (by kernel_rfl), fun a b h => by simp [K64] at h; omega⟩
theorem zeroP (w : World) : (zeroValue 83).run Try.prog w = .ok (.pointer none) w := by kernel_rfl
theorem key64 (n : Nat) (h : n < 18446744073709551616) : keyOf Try.prog 24 (K64 n) = some (.int .u64 n) := Maps.keyOf_int_mk (by kernel_rfl) (by simp [Lit.wf, IntKind.min, IntKind.max, IntKind.signed, IntKind.bits]; omega)
theorem block_cell {w : World} {b : Nat} {cs : Array Value} {T : TypeId} (h : w.heap[b]? = some (.cells cs T)) (i : Nat) : w.cell? ⟨b, i, none⟩ = cs[i]? := by simp [World.cell?, h]
theorem block_free {w : World} {b : Nat} {cs : Array Value} {T : TypeId} (h : w.heap[b]? = some (.cells cs T)) (i : Nat) : w.frozen? ⟨b, i, none⟩ = false := by simp [World.frozen?, h]
theorem block_set {w : World} {b : Nat} {cs : Array Value} {T : TypeId} (h : w.heap[b]? = some (.cells cs T)) (i : Nat) (v : Value) : (w.setCell ⟨b, i, none⟩ v).heap[b]? = some (.cells (cs.setIfInBounds i v) T) := by
  have hb := (Array.getElem?_eq_some_iff.1 h).1
  have h2 := (Array.getElem?_eq_some_iff.1 h).2
  simp [World.setCell, Array.getElem?_modify, h]
/-- The page of a number. -/
def findE (L : List Ent) (k : Nat) : Option Ent := L.find? (·.n == k)
theorem lookup_keyE (L : List Ent) (k : Nat) : (L.map keyE).lookup k = (findE L k).map fun e => ptr e.blk := by
  induction L with
  | nil => rfl
  | cons e L ih =>
    rw [List.map_cons, keyE, List.lookup_cons, findE, List.find?_cons]
    by_cases h : k = e.n
    · subst h; simp
    · rw [show (k == e.n) = false by simpa using h, show (e.n == k) = false by simpa using Ne.symm h]
      exact ih
theorem findE_mem {L : List Ent} {k : Nat} {e : Ent} (h : findE L k = some e) : e ∈ L ∧ e.n = k := ⟨List.mem_of_find?_eq_some h, by have := List.find?_some h; simpa using this⟩
def ptrOf : Option Ent → Value
  | some e => ptr e.blk
  | none => .pointer none
section
variable {w : World} {base bp bm : Nat} {L : List Ent}
/-- 'p.pages[k]'. -/
theorem PagesIs.look (h : PagesIs w base bp bm L) (k : Nat) (hk : k < 18446744073709551616) : (Instr.lookup 84 (.map (some bm)) (.int .u64 (k : Int)) false).run Try.prog w = .ok (ptrOf (findE L k)) w := by
  have := h.hm.look false TM (zeroP w) (x := k) (key64 k hk)
  rw [lookup_keyE] at this
  rw [show (Value.int .u64 (k : Int)) = K64 k from rfl, this]
  cases findE L k <;> rfl
theorem PagesIs.lookSome (h : PagesIs w base bp bm L) (a : Nat) (ha : a < 18446744073709551616) {e : Ent} (he : findE L (a / 4096) = some e) : (Instr.lookup 84 (.map (some bm)) (.int .u64 ((a : Int) / 4096)) false).run Try.prog w = .ok (.pointer (some ⟨e.blk, 0, none⟩)) w := by
  have := h.look (a / 4096) (by omega)
  rw [Int.natCast_ediv, he] at this
  exact this
theorem PagesIs.lookNone (h : PagesIs w base bp bm L) (a : Nat) (ha : a < 18446744073709551616) (he : findE L (a / 4096) = none) : (Instr.lookup 84 (.map (some bm)) (.int .u64 ((a : Int) / 4096)) false).run Try.prog w = .ok (.pointer none) w := by
  have := h.look (a / 4096) (by omega)
  rw [Int.natCast_ediv, he] at this
  exact this
theorem PagesIs.cells (h : PagesIs w base bp bm L) : w.cell? ⟨bp, 0, none⟩ = some (.bool true) ∧ w.cell? ⟨bp, 1, none⟩ = some (.map (some bm)) := ⟨by rw [block_cell h.hp]; rfl, by rw [block_cell h.hp]; rfl⟩
theorem PagesIs.page (h : PagesIs w base bp bm L) {e : Ent} (he : e ∈ L) : w.cell? ⟨e.blk, 0, none⟩ = some (.int .i64 e.r) ∧ ∀ i, i < 4096 → w.cell? ⟨e.blk, 1 + i, none⟩ = some (.int .u8 (e.c[i]?.getD 0).toNat) := by
  obtain ⟨h1, h2, _⟩ := h.pg e he
  refine ⟨by rw [block_cell h1]; rfl, fun i hi => ?_⟩
  rw [block_cell h1, pgCells, Nat.add_comm 1 i]
  simp [List.getElem?_eq_getElem (show i < e.c.length by omega)]
theorem PagesIs.mono {w' : World} (h : PagesIs w base bp bm L) (hb : Below w.heap.size w w') : PagesIs w' base bp bm L := by
  refine ⟨(hb.block _ (Array.getElem?_eq_some_iff.1 h.hp).1).trans h.hp, h.hm.mono hb, h.bp, h.bm, fun e he => ?_, h.nd⟩
  obtain ⟨h1, h2⟩ := h.pg e he
  exact ⟨(hb.block _ (Array.getElem?_eq_some_iff.1 h1).1).trans h1, h2⟩
end
theorem none_nil (w : World) : Calls Try.prog 27 #[.pointer none] w fun e w' => e = .returned (.bool true) ∧ w = w' := by
  go_enter Try.func27, Try.ntmps27
  go_wp2
  go_ret
  exact ⟨rfl, rfl⟩
theorem none_is {base bp bm : Nat} {L : List Ent} (w : World) (h : PagesIs w base bp bm L) : Calls Try.prog 27 #[ptr bp] w fun e w' => e = .returned (.bool false) ∧ w = w' := by
  obtain ⟨h0, h1⟩ := h.cells
  go_enter Try.func27, Try.ntmps27
  go_wp2
  go_ret
  exact ⟨rfl, rfl⟩
def bothB (r : Nat) : Bool := r &&& 3 == 3
theorem both_fin : ∀ r : Fin 8, (bits .and .i64 ((r : Nat) : Int) 3 == 3) = bothB r := by decide +kernel
theorem and_fin : ∀ r q : Fin 8, bits .and .i64 ((r : Nat) : Int) ((q : Nat) : Int) = (((r : Nat) &&& (q : Nat) : Nat) : Int) := by decide +kernel
theorem or_fin : ∀ r q : Fin 8, bits .or .i64 ((r : Nat) : Int) ((q : Nat) : Int) = (((r : Nat) ||| (q : Nat) : Nat) : Int) := by decide +kernel
theorem or_lt8 {r q : Nat} (hr : r < 8) (hq : q < 8) : r ||| q < 8 := Nat.or_lt_two_pow (n := 3) hr hq
theorem and_i8 {r q : Nat} (hr : r < 8) (hq : q < 8) : bits .and .i64 (r : Int) (q : Int) = ((r &&& q : Nat) : Int) := and_fin ⟨r, hr⟩ ⟨q, hq⟩
theorem or_i8 {r q : Nat} (hr : r < 8) (hq : q < 8) : bits .or .i64 (r : Int) (q : Int) = ((r ||| q : Nat) : Int) := or_fin ⟨r, hr⟩ ⟨q, hq⟩
theorem both_any (r : Nat) (w : World) (hr : r < 8) : Calls Try.prog 75 #[.int .i64 r] w fun e w' => e = .returned (.bool (bothB r)) ∧ w = w' := by
  have hb := both_fin ⟨r, hr⟩
  simp only at hb
  go_enter Try.func75, Try.ntmps75
  go_wp2
  go_ret
  exact ⟨rfl, rfl⟩
def szB (n : Int) : Bool := decide (n = 1 ∨ n = 2 ∨ n = 4 ∨ n = 8)
theorem sized_any (n : Int) (w : World) : Calls Try.prog 30 #[.int .i64 n] w fun e w' => e = .returned (.bool (szB n)) ∧ w = w' := by
  by_cases h : n = 1 ∨ n = 2 ∨ n = 4 ∨ n = 8
  · have HR := Lib.hid (show szB n = true from decide_eq_true h)
    rcases h with rfl | rfl | rfl | rfl
    all_goals
      go_enter Try.func30, Try.ntmps30
      go_wp2
      go_ret
      exact ⟨by rw [HR.out]; rfl, rfl⟩
  · have HR := Lib.hid (show szB n = false from decide_eq_false h)
    obtain ⟨h1, h2, h4, h8⟩ : (n == 1) = false ∧ (n == 2) = false ∧ (n == 4) = false ∧ (n == 8) = false := by simp; omega
    clear h
    go_enter Try.func30, Try.ntmps30
    go_wp2
    go_ret
    exact ⟨by rw [HR.out]; rfl, rfl⟩
theorem last_in (a n : Nat) (w : World) (hn : 1 ≤ n) (h : a + n ≤ 18446744073709551616) : Calls Try.prog 59 #[.int .u64 a, .int .u64 n] w fun e w' =>
    e = .returned (.tuple #[.int .u64 ((a + n - 1 : Nat) : Int), .bool true]) ∧ w = w' := by
  have H1 := Lib.hid (show IntKind.u64.wrap (IntKind.u64.wrap ((a : Int) + n) - 1) = ((a + n - 1 : Nat) : Int) by simp only [IntKind.wrap_u64]; omega)
  have H2 := Lib.hid (show decide ((a : Int) ≤ ((a + n - 1 : Nat) : Int)) = true by simp; omega)
  go_enter Try.func59, Try.ntmps59
  go_wp2
  go_ret2
  refine ⟨?_, rfl⟩
  show Ending.returned (.tuple #[.int .u64 (IntKind.u64.wrap (IntKind.u64.wrap ((a : Int) + n) - 1)), .bool (decide ((a : Int) ≤ IntKind.u64.wrap (IntKind.u64.wrap ((a : Int) + n) - 1)))]) = _
  rw [H1.out, H2.out]
/-- The stretch passes the end of all addresses, or is empty at their beginning. -/
theorem last_out (a n : Nat) (w : World) (ha : a < 18446744073709551616) (hn : n < 18446744073709551616) (hn1 : 1 ≤ n) (h : 18446744073709551616 < a + n) : Calls Try.prog 59 #[.int .u64 a, .int .u64 n] w fun e w' =>
    (∃ x : Int, e = .returned (.tuple #[.int .u64 x, .bool false])) ∧ w = w' := by
  have H2 := Lib.hid (show decide ((a : Int) ≤ IntKind.u64.wrap (IntKind.u64.wrap ((a : Int) + n) - 1)) = false by simp only [IntKind.wrap_u64]; simp; omega)
  go_enter Try.func59, Try.ntmps59
  go_wp2
  go_ret2
  refine ⟨⟨IntKind.u64.wrap (IntKind.u64.wrap ((a : Int) + n) - 1), ?_⟩, rfl⟩
  show Ending.returned (.tuple #[.int .u64 (IntKind.u64.wrap (IntKind.u64.wrap ((a : Int) + n) - 1)), .bool (decide ((a : Int) ≤ IntKind.u64.wrap (IntKind.u64.wrap ((a : Int) + n) - 1)))]) = _
  rw [H2.out]
theorem last_zero (a : Nat) (w : World) (ha : a < 18446744073709551616) : Calls Try.prog 59 #[.int .u64 a, .int .u64 0] w fun e w' =>
    (∃ x b, e = .returned (.tuple #[.int .u64 x, .bool b])) ∧ w = w' := by
  go_enter Try.func59, Try.ntmps59
  go_wp2
  go_ret2
  exact ⟨⟨_, _, rfl⟩, rfl⟩
theorem get_is {base bp bm : Nat} {L : List Ent} (w : World) (h : PagesIs w base bp bm L) (a : Nat) (ha : a < 18446744073709551616) (e0 : Ent) (he : findE L (a / 4096) = some e0) :
    Calls Try.prog 29 #[ptr bp, .int .u64 a] w fun e w' => e = .returned (.int .u8 (e0.c[a % 4096]?.getD 0).toNat) ∧ w = w' := by
  obtain ⟨h0, h1⟩ := h.cells
  have hl := h.lookSome a ha he
  obtain ⟨hm, _⟩ := findE_mem he
  obtain ⟨_, hc⟩ := h.page hm
  have hcell := hc (a % 4096) (by omega)
  go_enter Try.func29, Try.ntmps29
  go_wp2
  go_ret
  exact ⟨rfl, rfl⟩
end Go.Proofs.Ytmpelmjhimalpaa
namespace Go.Proofs.Ytmpelmjhimalpaa
open Go.RowKit Go.Fd
/-- The page of number n made another one. -/
def setE (L : List Ent) (n r : Nat) (c : List UInt8) : List Ent := L.map fun e => if e.n = n then { e with r := r, c := c } else e
theorem setE_key (L : List Ent) (n r : Nat) (c : List UInt8) : (setE L n r c).map keyE = L.map keyE := by
  unfold setE
  rw [List.map_map]
  refine List.map_congr_left fun e _ => ?_
  simp only [Function.comp_apply]
  split <;> rfl
theorem setE_blk (L : List Ent) (n r : Nat) (c : List UInt8) : (setE L n r c).map (·.blk) = L.map (·.blk) := by
  unfold setE
  rw [List.map_map]
  refine List.map_congr_left fun e _ => ?_
  simp only [Function.comp_apply]
  split <;> rfl
/-- The blocks that hold a memory. -/
def foot (bp bm : Nat) (L : List Ent) (k : Nat) : Prop := k = bp ∨ k = bm ∨ k ∈ L.map (·.blk)
theorem nodup_inj {α β : Type} {f : α → β} {l : List α} (h : (l.map f).Nodup) {a b : α} (ha : a ∈ l) (hb : b ∈ l) (e : f a = f b) : a = b := by
  induction l with
  | nil => cases ha
  | cons x l ih =>
    simp only [List.map_cons, List.nodup_cons] at h
    rcases List.mem_cons.1 ha with e1 | ha
    · subst e1
      rcases List.mem_cons.1 hb with e2 | hb
      · exact e2.symm
      · exact absurd (List.mem_map.2 ⟨b, hb, e.symm⟩) h.1
    · rcases List.mem_cons.1 hb with e1 | hb
      · rw [e1] at e; exact absurd (List.mem_map.2 ⟨a, ha, e⟩) h.1
      · exact ih h.2 ha hb
section
variable {w : World} {base bp bm : Nat} {L : List Ent}
theorem PagesIs.nodup (h : PagesIs w base bp bm L) : (L.map (·.n)).Nodup := by
  have := h.hm.nodup
  rwa [List.map_map] at this
theorem PagesIs.ne (h : PagesIs w base bp bm L) {e : Ent} (he : e ∈ L) : e.blk ≠ bp ∧ e.blk ≠ bm := by
  obtain ⟨h1, _⟩ := h.pg e he
  constructor
  · intro e1
    rw [e1, h.hp] at h1
    simp at h1
  · intro e1
    obtain ⟨es, clock, h2, _⟩ := h.hm
    rw [e1, h2] at h1
    cases h1
theorem PagesIs.stirs {w' : World} {S : Nat → Prop} (h : PagesIs w base bp bm L) (ht : Stirs S w w') (hs : ∀ k, foot bp bm L k → ¬ S k) : PagesIs w' base bp bm L := by
  refine ⟨ht.kept h.hp (hs _ (.inl rfl)), h.hm.block (ht.block _ h.hm.lt (hs _ (.inr (.inl rfl)))), h.bp, h.bm, fun e he => ?_, h.nd⟩
  obtain ⟨h1, h2⟩ := h.pg e he
  exact ⟨ht.kept h1 (hs _ (.inr (.inr (List.mem_map.2 ⟨e, he, rfl⟩)))), h2⟩
/-- One page is written. -/
theorem PagesIs.upd {w' : World} (h : PagesIs w base bp bm L) {e0 : Ent} (he : e0 ∈ L) (ht : Stirs (· = e0.blk) w w') {r : Nat} {c : List UInt8} (hr : r < 8) (hc : c.length = 4096)
    (hb : w'.heap[e0.blk]? = some (.cells (pgCells r c) 89)) : PagesIs w' base bp bm (setE L e0.n r c) := by
  obtain ⟨n1, n2⟩ := h.ne he
  refine ⟨ht.kept h.hp (Ne.symm n1), ?_, h.bp, h.bm, fun e hm => ?_, by rw [setE_blk]; exact h.nd⟩
  · rw [setE_key]
    exact h.hm.block (ht.block _ h.hm.lt (Ne.symm n2))
  · obtain ⟨x, hx, rfl⟩ := List.mem_map.1 hm
    obtain ⟨h1, h2, h3, h4, h5⟩ := h.pg x hx
    by_cases hn : x.n = e0.n
    · obtain rfl := nodup_inj h.nodup hx he hn
      rw [if_pos rfl]
      exact ⟨hb, hc, h3, h4, hr⟩
    · rw [if_neg hn]
      refine ⟨ht.kept h1 fun e1 => hn ?_, h2, h3, h4, h5⟩
      rw [nodup_inj h.nd hx he e1]
end
theorem pgCells_set (r : Nat) (c : List UInt8) (i : Nat) (x : UInt8) : (pgCells r c).setIfInBounds (1 + i) (.int .u8 x.toNat) = pgCells r (c.set i x) := by
  unfold pgCells
  rw [Nat.add_comm 1 i]
  simp
theorem pgCells_rights (r r' : Nat) (c : List UInt8) : (pgCells r c).setIfInBounds 0 (.int .i64 r') = pgCells r' c := by
  unfold pgCells
  simp
theorem put_is {base bp bm : Nat} {L : List Ent} (w : World) (h : PagesIs w base bp bm L) (a : Nat) (ha : a < 18446744073709551616) (x : UInt8) (e0 : Ent) (he : findE L (a / 4096) = some e0) :
    Calls Try.prog 31 #[ptr bp, .int .u64 a, .int .u8 x.toNat] w fun e w' => e = .returned (.tuple #[]) ∧ PagesIs w' base bp bm (setE L e0.n e0.r (e0.c.set (a % 4096) x)) ∧ Stirs (· = e0.blk) w w' ∧ w'.heap.size = w.heap.size := by
  obtain ⟨h0, h1⟩ := h.cells
  have hl := h.lookSome a ha he
  obtain ⟨hm, _⟩ := findE_mem he
  obtain ⟨hb, hlen, _, _, hr⟩ := h.pg e0 hm
  have hcell := (h.page hm).2 (a % 4096) (by omega)
  have hfree := block_free hb (1 + a % 4096)
  have HB := Lib.hid hb
  have HLEN := Lib.hid hlen
  clear hb hlen
  go_enter Try.func31, Try.ntmps31
  go_wp2
  go_end0
  have ht : Stirs (· = e0.blk) w (w.setCell ⟨e0.blk, 1 + a % 4096, none⟩ (.int .u8 x.toNat)) := stirs_setCell _ _ _ _ rfl
  refine ⟨rfl, h.upd hm ht hr (by rw [List.length_set]; exact HLEN.out) ?_, ht, by simp⟩
  rw [block_set HB.out, pgCells_set]
/-- May the page be used so? -/
def okE (r : Nat) : Option Ent → Bool
  | some e => e.r &&& r == r
  | none => false
/-- May so many pages from k on? -/
def mayFrom (L : List Ent) (r : Nat) : Nat → Nat → Bool
  | _, 0 => true
  | k, n + 1 => okE r (findE L k) && mayFrom L r (k + 1) n
/-- May the bytes be used so? -/
def mayB (L : List Ent) (a n r : Nat) : Bool :=
  if n = 0 then true else if 18446744073709551616 < a + n then false else mayFrom L r (a / 4096) ((a + n - 1) / 4096 + 1 - a / 4096)
theorem PagesIs.lookK_some {w : World} {base bp bm : Nat} {L : List Ent} (h : PagesIs w base bp bm L) (k : Nat) (hk : k < 18446744073709551616) {e : Ent} (he : findE L k = some e) : (Instr.lookup 84 (.map (some bm)) (.int .u64 (k : Int)) false).run Try.prog w = .ok (.pointer (some ⟨e.blk, 0, none⟩)) w := by
  have := h.look k hk
  rw [he] at this
  exact this
theorem PagesIs.lookK_none {w : World} {base bp bm : Nat} {L : List Ent} (h : PagesIs w base bp bm L) (k : Nat) (hk : k < 18446744073709551616) (he : findE L k = none) : (Instr.lookup 84 (.map (some bm)) (.int .u64 (k : Int)) false).run Try.prog w = .ok (.pointer none) w := by
  have := h.look k hk
  rw [he] at this
  exact this
set_option maxRecDepth 100000 in
theorem may_is {base bp bm : Nat} {L : List Ent} (w : World) (h : PagesIs w base bp bm L) (a n r : Nat) (ha : a < 18446744073709551616) (hn : n ≤ 1000000000) (hr : r < 8) :
    Calls Try.prog 28 #[ptr bp, .int .u64 a, .int .i64 n, .int .i64 r] w fun e w' => e = .returned (.bool (mayB L a n r)) ∧ w = w' := by
  by_cases h0 : n = 0
  · subst h0
    have HR := Lib.hid (show mayB L a 0 r = true from rfl)
    go_enter Try.func28, Try.ntmps28
    go_wp2
    go_ret
    exact ⟨by rw [HR.out]; rfl, rfl⟩
  have hn0 : ((n : Int) == 0) = false := by simp; omega
  by_cases h1 : 18446744073709551616 < a + n
  · have HR := Lib.hid (show mayB L a n r = false by rw [mayB, if_neg h0, if_pos h1])
    go_enter Try.func28, Try.ntmps28
    go_wp2_with (go_at_call 59; go_must (refine (last_out a n _ ha (by omega) (by omega) h1).mono ?_; rintro e w1 ⟨⟨x, rfl⟩, rfl⟩))
    go_ret
    exact ⟨by rw [HR.out]; rfl, rfl⟩
  have HR := Lib.hid (show mayB L a n r = mayFrom L r (a / 4096) ((a + n - 1) / 4096 + 1 - a / 4096) by rw [mayB, if_neg h0, if_neg h1])
  obtain ⟨c0, c1⟩ := h.cells
  go_enter Try.func28, Try.ntmps28
  go_wp2_with (first
    | (go_at_call 59; go_must (refine (last_in a n _ (by omega) (by omega)).mono ?_; rintro e w1 ⟨rfl, rfl⟩))
    | (go_at_call 27; go_must (refine (none_is _ h).mono ?_; rintro e w1 ⟨rfl, rfl⟩)))
  go_loop [11, 12] (fun kv _ => ∃ k : Nat, kv = .int .u64 k ∧ k ≤ (a + n - 1) / 4096 + 1 ∧ Hid (mayB L a n r = mayFrom L r k ((a + n - 1) / 4096 + 1 - k))) (fun kv _ => ((a + n - 1) / 4096 + 1) - (intOf kv).toNat)
  case atStart => exact ⟨a / 4096, by rw [Int.natCast_ediv]; rfl, by omega, HR.out⟩
  case round =>
    obtain ⟨k, rfl, hk, HK⟩ := hrel
    by_cases hlt : k ≤ (a + n - 1) / 4096
    · have hs : mayFrom L r k ((a + n - 1) / 4096 + 1 - k) = (okE r (findE L k) && mayFrom L r (k + 1) ((a + n - 1) / 4096 + 1 - (k + 1))) := by
        rw [show (a + n - 1) / 4096 + 1 - k = ((a + n - 1) / 4096 + 1 - (k + 1)) + 1 by omega, mayFrom]
      have HS := Lib.hid (HK.out.trans hs)
      clear hs
      cases hf : findE L k with
      | none =>
        have hl := h.lookK_none k (by omega) hf
        have HF := Lib.hid (show mayB L a n r = false by rw [HS.out, hf]; rfl)
        clear hf
        go_wp2
        go_ret
        exact ⟨by rw [HF.out]; rfl, rfl⟩
      | some e0 =>
        have hl := h.lookK_some k (by omega) hf
        have hm := (findE_mem hf).1
        have hcell := (h.page hm).1
        have hr0 := (h.pg e0 hm).2.2.2.2
        have ha8 := and_i8 hr0 hr
        have HF := Lib.hid (show mayB L a n r = (decide (e0.r &&& r = r) && mayFrom L r (k + 1) ((a + n - 1) / 4096 + 1 - (k + 1))) by rw [HS.out, hf]; rfl)
        clear hf
        generalize e0.r &&& r = q at *
        by_cases hok : q = r
        · subst hok
          have HF2 := Lib.hid (show mayB L a n q = mayFrom L q (k + 1) ((a + n - 1) / 4096 + 1 - (k + 1)) by rw [HF.out]; simp)
          go_wp2
          go_round
          case rel => exact ⟨k + 1, by go_num, by omega, HF2.out⟩
          case measure => simp [intOf] <;> omega
        · have HF2 := Lib.hid (show mayB L a n r = false by rw [HF.out]; simp [hok])
          have hne : ((q : Int) != (r : Int)) = true := by simp; omega
          clear hok
          go_wp2
          go_ret
          exact ⟨by rw [HF2.out]; rfl, rfl⟩
    · have hk2 : k = (a + n - 1) / 4096 + 1 := by omega
      have HF := Lib.hid (show mayB L a n r = true by rw [HK.out, hk2, Nat.sub_self]; rfl)
      clear hk2
      go_wp2
      go_ret
      exact ⟨by rw [HF.out]; rfl, rfl⟩
end Go.Proofs.Ytmpelmjhimalpaa
namespace Go.Proofs.Ytmpelmjhimalpaa
open Go.RowKit Go.Fd
def inPg (f l : Nat) (e : Ent) : Bool := decide (f ≤ e.n) && decide (e.n ≤ l)
def badB (f l r : Nat) (e : Ent) : Bool := inPg f l e && bothB (e.r ||| r)
/-- How many of some pages are there. -/
def thereN (L : List Ent) (f l : Nat) : Nat := L.countP (inPg f l)
/-- Would one be writable and executable? -/
def clashB (L : List Ent) (f l r : Nat) : Bool := bothB r || L.any (badB f l r)
theorem count_split {L : List Ent} (p : Ent → Bool) (hn : (L.map (·.n)).Nodup) {e : Ent} (he : e ∈ L) : L.countP p = (L.filter (fun x => x.n ≠ e.n)).countP p + if p e then 1 else 0 := by
  induction L with
  | nil => cases he
  | cons x L ih =>
    simp only [List.map_cons, List.nodup_cons] at hn
    rcases List.mem_cons.1 he with e1 | he'
    · subst e1
      have : (e :: L).filter (fun x => x.n ≠ e.n) = L := by
        rw [List.filter_cons, if_neg (by simp)]
        refine List.filter_eq_self.2 fun y hy => ?_
        have : y.n ≠ e.n := fun h => hn.1 (List.mem_map.2 ⟨y, hy, h⟩)
        simp [this]
      rw [this, List.countP_cons]
    · have hne : x.n ≠ e.n := fun h => hn.1 (List.mem_map.2 ⟨e, he', h.symm⟩)
      rw [List.filter_cons, if_pos (by simp [hne]), List.countP_cons, List.countP_cons, ih hn.2 he']
      omega
theorem any_split {L : List Ent} (p : Ent → Bool) (hn : (L.map (·.n)).Nodup) {e : Ent} (he : e ∈ L) : L.any p = (p e || (L.filter (fun x => x.n ≠ e.n)).any p) := by
  rw [Bool.eq_iff_iff]
  simp only [List.any_eq_true, Bool.or_eq_true, List.mem_filter]
  constructor
  · rintro ⟨x, hx, hp⟩
    by_cases h : x.n = e.n
    · obtain rfl := nodup_inj hn hx he h
      exact .inl hp
    · exact .inr ⟨x, ⟨hx, by simp [h]⟩, hp⟩
  · rintro (hp | ⟨x, ⟨hx, _⟩, hp⟩)
    · exact ⟨e, he, hp⟩
    · exact ⟨x, hx, hp⟩
theorem filter_keyE (left : List Ent) (n : Nat) : (left.map keyE).filter (fun q => q.1 ≠ n) = (left.filter (fun x => x.n ≠ n)).map keyE := by
  rw [List.filter_map]
  rfl
def rightsE : Option Ent → Nat
  | some e => e.r
  | none => 0
theorem rights_is {base bp bm : Nat} {L : List Ent} (w : World) (h : PagesIs w base bp bm L) (a : Nat) (ha : a < 18446744073709551616) :
    Calls Try.prog 13 #[ptr bp, .int .u64 a] w fun e w' => e = .returned (.int .i64 (rightsE (findE L (a / 4096)))) ∧ w = w' := by
  obtain ⟨h0, h1⟩ := h.cells
  cases hf : findE L (a / 4096) with
  | none =>
    have hl := h.lookNone a ha hf
    clear hf
    go_enter Try.func13, Try.ntmps13
    go_wp2_with (go_at_call 27; go_must (refine (none_is _ h).mono ?_; rintro e w1 ⟨rfl, rfl⟩))
    go_ret
    exact ⟨rfl, rfl⟩
  | some e0 =>
    have hl := h.lookSome a ha hf
    have hc := (h.page (findE_mem hf).1).1
    clear hf
    go_enter Try.func13, Try.ntmps13
    go_wp2_with (go_at_call 27; go_must (refine (none_is _ h).mono ?_; rintro e w1 ⟨rfl, rfl⟩))
    go_ret
    exact ⟨rfl, rfl⟩
theorem count_is {base bp bm : Nat} {L : List Ent} (w : World) (h : PagesIs w base bp bm L) : Calls Try.prog 18 #[ptr bp] w fun e w' => e = .returned (.int .i64 L.length) ∧ w = w' := by
  obtain ⟨h0, h1⟩ := h.cells
  have hlen := h.hm.len (t := 84) (e := 83) TM.ht 3
  rw [List.length_map] at hlen
  go_enter Try.func18, Try.ntmps18
  go_wp2_with (go_at_call 27; go_must (refine (none_is _ h).mono ?_; rintro e w1 ⟨rfl, rfl⟩))
  go_ret
  exact ⟨rfl, rfl⟩
theorem new_any (w : World) : Calls Try.prog 16 #[] w fun e w' => ∃ bp bm, e = .returned (ptr bp) ∧ PagesIs w' w.heap.size bp bm [] ∧ Below w.heap.size w w' := by
  have hmm := @run_makeMap Try.prog
  go_enter Try.func16, Try.ntmps16
  go_wp2
  go_ret
  refine ⟨w.heap.size + 1, w.heap.size, rfl, ⟨?_, ?_, by omega, by omega, by simp, by simp⟩, ((Below.refl _ _).alloc (Nat.le_refl _) _).alloc (by simp) _⟩
  · have := heap_alloc_new (w.alloc (.map #[] 0)) (.cells #[.bool true, .map (some w.heap.size)] 86)
    rw [World.size_alloc] at this
    exact this
  · exact (MapIs.made w).mono (by rw [World.size_alloc]; exact (Below.refl _ _).alloc (by simp) _)
theorem filter_shorter {left : List Ent} {e : Ent} (he : e ∈ left) : (left.filter (fun x => x.n ≠ e.n)).length < left.length :=
  List.length_filter_lt_length_iff_exists.2 ⟨e, he, by simp⟩
theorem there_in {left : List Ent} {e : Ent} (hn : (left.map (·.n)).Nodup) (he : e ∈ left) {f l r m N q : Nat} {b C : Bool} (h1 : f ≤ e.n) (h2 : e.n ≤ l) (hq : q = e.r ||| r) (hM : m + left.countP (inPg f l) = N) (hB : (b || left.any (badB f l r)) = C) :
    m + 1 + (left.filter (fun x => x.n ≠ e.n)).countP (inPg f l) = N ∧ (((b || bothB q) || (left.filter (fun x => x.n ≠ e.n)).any (badB f l r)) = C) := by
  have hin : inPg f l e = true := by simp [inPg, h1, h2]
  subst hq
  rw [count_split (inPg f l) hn he, if_pos hin] at hM
  rw [any_split (badB f l r) hn he, badB, hin, Bool.true_and] at hB
  exact ⟨by omega, by rw [← hB, Bool.or_assoc]⟩
theorem there_out {left : List Ent} {e : Ent} (hn : (left.map (·.n)).Nodup) (he : e ∈ left) {f l r m N : Nat} {b C : Bool} (h1 : e.n < f ∨ l < e.n) (hM : m + left.countP (inPg f l) = N) (hB : (b || left.any (badB f l r)) = C) :
    m + (left.filter (fun x => x.n ≠ e.n)).countP (inPg f l) = N ∧ ((b || (left.filter (fun x => x.n ≠ e.n)).any (badB f l r)) = C) := by
  have hin : inPg f l e = false := by simp [inPg]; omega
  rw [count_split (inPg f l) hn he, if_neg (by simp [hin])] at hM
  rw [any_split (badB f l r) hn he, badB, hin, Bool.false_and, Bool.false_or] at hB
  exact ⟨hM, hB⟩
set_option maxRecDepth 100000 in
theorem there_is {base bp bm : Nat} {L : List Ent} (w : World) (h : PagesIs w base bp bm L) (f l r : Nat) (hf : f < 18446744073709551616) (hl : l < 18446744073709551616) (hr : r < 8) :
    Calls Try.prog 60 #[ptr bp, .int .u64 f, .int .u64 l, .int .i64 r] w fun e w' => e = .returned (.tuple #[.int .i64 (thereN L f l), .bool (clashB L f l r)]) ∧ Below w.heap.size w w' := by
  obtain ⟨h0, h1⟩ := h.cells
  go_enter Try.func60, Try.ntmps60
  go_wp2_with (first
    | (go_at_call 75; go_must (refine (both_any r _ hr).mono ?_; rintro e w1 ⟨rfl, rfl⟩))
    | (with_reducible show wpList _ _ _ (⟨some 18, _, _, _, _, _⟩ :: _) _ _; go_must (refine wpList_rangeM TM.ht h.hm rfl ?_; intro w0 hr0 hg0 hs0)))
  go_frame
  have hp0 := h.mono (below_grown hg0)
  have hb0 := below_grown hg0
  have hlen : L.length ≤ 9223372036854775807 := by have := h.hm.size_le; unfold maxLen at this; simp at this; omega
  have hcn : thereN L f l ≤ L.length := List.countP_le_length
  have HRG := Lib.hid hr0
  have HIS := Lib.hid h
  clear hr0 hg0 hp0 h h0 h1
  go_loopw [8, 9] (fun n c wr => ∃ (left : List Ent) (m : Nat) (b : Bool), n = .int .i64 m ∧ c = .bool b ∧ RangeIs Try.prog 24 K64 wr bm w.heap.size (L.map keyE) (left.map keyE) ∧ (∀ e ∈ left, e ∈ L) ∧ (left.map (·.n)).Nodup ∧ Hid (m + left.countP (inPg f l) = thereN L f l) ∧ Hid ((b || left.any (badB f l r)) = clashB L f l r) ∧ Below w.heap.size w wr)
    (fun _ _ wr => wr.rangeLeft bm w.heap.size)
  case atStart => exact ⟨L, 0, bothB r, rfl, rfl, HRG.out, fun _ h => h, HIS.out.nodup, Nat.zero_add _, rfl, hb0⟩
  case round =>
    obtain ⟨left, m, b, rfl, rfl, hrg, hsub, hnd, HM, HB, hb⟩ := hrel
    have HRG2 := Lib.hid hrg
    have HSUB := Lib.hid hsub
    have HND := Lib.hid hnd
    clear hrg hsub hnd
    have HC : ∀ e ∈ left, ∀ wx, Below w.heap.size w wx → wx.cell? ⟨e.blk, 0, none⟩ = some (.int .i64 e.r) := fun e he wx hbx => ((HIS.out.mono hbx).page (HSUB.out e he)).1
    have HHC := Lib.hid HC
    clear HC
    have HR8 := Lib.hid (fun e he => (HIS.out.pg e (HSUB.out e he)).2.2.2.2)
    go_wp2_with (first
      | (at_next; go_must (refine wpList_nextM TM HRG2.out rfl ?_ ?_); intro hl0; rotate_left; intro p w1 hp hr1 hg1 hs1 hen; obtain ⟨e, he, rfl⟩ := List.mem_map.1 hp; rw [filter_keyE] at hr1; simp only [keyE] at hen hr1 ⊢; have hb1 := hb.trans (below_of_grown hg1 hb.size (fun k hk => by cases hk; exact Nat.le_refl _)); have hc := HHC.out e he w1 hb1; clear hp; have HR1 := Lib.hid hr1; clear hr1; obtain ⟨q, hq, hq8, hor⟩ : ∃ q, Hid (q = e.r ||| r) ∧ q < 8 ∧ bits .or .i64 (e.r : Int) (r : Int) = (q : Int) := ⟨_, rfl, or_lt8 (HR8.out e he) hr, or_i8 (HR8.out e he) hr⟩; rcases (by omega : e.n < f ∨ l < e.n ∨ (f ≤ e.n ∧ e.n ≤ l)) with hin | hin | hin; all_goals cases b; all_goals rotate_right)
      | (go_at_call 75; go_must (refine (both_any q _ hq8).mono ?_; rintro e1 w2 ⟨rfl, rfl⟩)))
    all_goals first
      | (go_roundw
         case rel => exact ⟨left.filter (fun x => x.n ≠ e.n), m, _, rfl, rfl, HR1.out, fun x hx => HSUB.out x (List.mem_filter.1 hx).1, (List.filter_sublist.map _).nodup HND.out, (there_out HND.out he (by omega) HM.out HB.out).1, (there_out HND.out he (by omega) HM.out HB.out).2, hb1⟩
         case measure => rw [HR1.out.left_eq, HRG2.out.left_eq, List.length_map, List.length_map]; exact filter_shorter he)
      | (have ht := there_in HND.out he hin.1 hin.2 hq.out HM.out HB.out
         have hm1 : m + 1 ≤ 9223372036854775807 := by omega
         have hw : wrap64 ((m : Int) + 1) = ((m + 1 : Nat) : Int) := by rw [wrap64]; omega
         rw [hw]
         go_roundw
         case rel => exact ⟨left.filter (fun x => x.n ≠ e.n), m + 1, _, rfl, rfl, HR1.out, fun x hx => HSUB.out x (List.mem_filter.1 hx).1, (List.filter_sublist.map _).nodup HND.out, ht.1, by simpa [Hid] using ht.2, hb1⟩
         case measure => rw [HR1.out.left_eq, HRG2.out.left_eq, List.length_map, List.length_map]; exact filter_shorter he)
      | (go_ret2
         obtain rfl : left = [] := List.map_eq_nil_iff.1 hl0
         have e1 := HM.out
         have e2 := HB.out
         simp at e1 e2
         exact ⟨ret2 (nat_eq e1) (bool_eq (by first | exact e2 | exact e2.symm)), hb⟩)
end Go.Proofs.Ytmpelmjhimalpaa
namespace Go.Proofs.Ytmpelmjhimalpaa
open Go.RowKit Go.Fd
def zs : List UInt8 := List.replicate 4096 0
theorem zs_len : zs.length = 4096 := List.length_replicate
theorem build_page (w : World) : (Instr.build 89 #[]).run Try.prog w = .ok (.agg (pgCells 0 zs)) w := by kernel_rfl
theorem box_page (r : Nat) (c : List UInt8) (w : World) : (Instr.box 89 (.agg (pgCells r c))).run Try.prog w = .ok (.pointer (some ⟨w.heap.size, 0, none⟩)) (w.alloc (.cells (pgCells r c) 89)) := by
  rfl
/-- What is told of pages: number, rights, bytes. -/
def vw (L : List Ent) : List (Nat × Nat × List UInt8) := L.map fun e => (e.n, e.r, e.c)
/-- One page gets rights. -/
def addP (V : List (Nat × Nat × List UInt8)) (k r : Nat) : List (Nat × Nat × List UInt8) :=
  if k ∈ V.map (·.1) then V.map (fun x => if x.1 = k then (x.1, x.2.1 ||| r, x.2.2) else x) else V ++ [(k, r, zs)]
/-- So many pages from k on get rights. -/
def mapV (r : Nat) : List (Nat × Nat × List UInt8) → Nat → Nat → List (Nat × Nat × List UInt8)
  | V, _, 0 => V
  | V, k, n + 1 => mapV r (addP V k r) (k + 1) n
theorem vw_key (L : List Ent) : (vw L).map (·.1) = L.map (·.n) := by simp [vw, List.map_map, Function.comp_def]
theorem findE_none {L : List Ent} {k : Nat} (h : findE L k = none) : k ∉ L.map (·.n) := by
  intro hm
  obtain ⟨e, he, rfl⟩ := List.mem_map.1 hm
  have := List.find?_eq_none.1 h e he
  simp at this
theorem vw_set {L : List Ent} {e0 : Ent} (hn : (L.map (·.n)).Nodup) (he : e0 ∈ L) (r : Nat) : vw (setE L e0.n (e0.r ||| r) e0.c) = addP (vw L) e0.n r := by
  rw [addP, if_pos (by rw [vw_key]; exact List.mem_map.2 ⟨e0, he, rfl⟩)]
  unfold vw setE
  rw [List.map_map, List.map_map]
  refine List.map_congr_left fun e hm => ?_
  simp only [Function.comp_apply]
  by_cases h : e.n = e0.n
  · obtain rfl := nodup_inj hn hm he h
    simp
  · simp [h]
theorem vw_new {L : List Ent} {k b r : Nat} (hk : k ∉ L.map (·.n)) : vw (setE (L ++ [⟨k, b, 0, zs⟩]) k r zs) = addP (vw L) k r := by
  rw [addP, if_neg (by rw [vw_key]; exact hk)]
  unfold vw setE
  rw [List.map_append, List.map_append]
  congr 1
  · rw [List.map_map]
    refine List.map_congr_left fun e hm => ?_
    have : e.n ≠ k := fun h => hk (List.mem_map.2 ⟨e, hm, h⟩)
    simp [this]
  · simp
theorem foot_set (bp bm : Nat) (L : List Ent) (n r : Nat) (c : List UInt8) (k : Nat) : foot bp bm (setE L n r c) k ↔ foot bp bm L k := by unfold foot; rw [setE_blk]
theorem len_set (L : List Ent) (n r : Nat) (c : List UInt8) : (setE L n r c).length = L.length := List.length_map _
/-- A new page is put into the map. -/
theorem PagesIs.new {w w1 w2 : World} {base bp bm : Nat} {L : List Ent} (h : PagesIs w base bp bm L) (hw1 : w1 = w.alloc (.cells (pgCells 0 zs) 89)) (hbase : base ≤ w.heap.size) {k : Nat} (hk : k < 18446744073709551616) (hn : k ∉ L.map (·.n))
    (hm : MapIs Try.prog 24 K64 w2 bm (putE (L.map keyE) k (ptr w.heap.size))) (hg : w1.grownBy w2 (some bm)) : PagesIs w2 base bp bm (L ++ [⟨k, w.heap.size, 0, zs⟩]) := by
  subst hw1
  have hne : bp ≠ bm := by
    intro e
    obtain ⟨es, clock, h2, _⟩ := h.hm
    have := h.hp
    rw [e, h2] at this
    cases this
  have hlt : ∀ {b : Nat} {o : Obj}, w.heap[b]? = some o → b ≠ bm → w2.heap[b]? = some o := by
    intro b o hb hbm
    have hl := (Array.getElem?_eq_some_iff.1 hb).1
    rw [hg.block b (by simp; omega) (by simpa using hbm), Below.heap_alloc _ _ _ hl]
    exact hb
  refine ⟨hlt h.hp hne, ?_, h.bp, h.bm, fun e he => ?_, ?_⟩
  · have : putE (L.map keyE) k (ptr w.heap.size) = (L ++ [(⟨k, w.heap.size, 0, zs⟩ : Ent)]).map keyE := by
      rw [putE, if_neg (by rw [List.map_map]; exact hn), List.map_append]
      rfl
    rw [← this]
    exact hm
  · rcases List.mem_append.1 he with he | he
    · obtain ⟨h1, h2⟩ := h.pg e he
      exact ⟨hlt h1 (h.ne he).2, h2⟩
    · obtain rfl := List.mem_singleton.1 he
      refine ⟨?_, zs_len, hbase, hk, (by decide : (0 : Nat) < 8)⟩
      rw [hg.block _ (by simp) (by have := h.hm.lt; simp; omega)]
      exact heap_alloc_new w _
  · rw [List.map_append]
    refine List.nodup_append.2 ⟨h.nd, by simp, fun x hx y hy => ?_⟩
    simp at hy
    subst hy
    obtain ⟨e, he, rfl⟩ := List.mem_map.1 hx
    have := (Array.getElem?_eq_some_iff.1 (h.pg e he).1).1
    omega
set_option maxRecDepth 100000 in
theorem map_arg (v : Value) (w : World) (a n : Nat) (r : Int) (ha : a < 18446744073709551616) (hn : n < 18446744073709551616) (h : r < 1 ∨ 7 < r ∨ n = 0 ∨ 18446744073709551616 < a + n) :
    Calls Try.prog 32 #[v, .int .u64 a, .int .u64 n, .int .i64 r] w fun e w' => e = .returned (.int .i64 1) ∧ w = w' := by
  by_cases hn0 : n = 0
  · subst hn0
    clear h
    have hz : (((0 : Nat) : Int) == 0) = true := rfl
    by_cases h1 : r < 1
    · go_enter Try.func32, Try.ntmps32
      go_wp2_with (go_at_call 59; go_must (refine (last_zero a _ ha).mono ?_; rintro e w1 ⟨⟨x, b, rfl⟩, rfl⟩; cases b))
      all_goals (go_ret; exact ⟨rfl, rfl⟩)
    · by_cases h2 : 7 < r
      all_goals
        go_enter Try.func32, Try.ntmps32
        go_wp2_with (go_at_call 59; go_must (refine (last_zero a _ ha).mono ?_; rintro e w1 ⟨⟨x, b, rfl⟩, rfl⟩; cases b))
        all_goals (go_ret; exact ⟨rfl, rfl⟩)
  · have hz : (((n : Nat) : Int) == 0) = false := by simp; omega
    by_cases ho : 18446744073709551616 < a + n
    · by_cases h1 : r < 1
      · go_enter Try.func32, Try.ntmps32
        go_wp2_with (go_at_call 59; go_must (refine (last_out a n _ ha hn (by omega) ho).mono ?_; rintro e w1 ⟨⟨x, rfl⟩, rfl⟩))
        all_goals (go_ret; exact ⟨rfl, rfl⟩)
      · by_cases h2 : 7 < r
        all_goals
          go_enter Try.func32, Try.ntmps32
          go_wp2_with (go_at_call 59; go_must (refine (last_out a n _ ha hn (by omega) ho).mono ?_; rintro e w1 ⟨⟨x, rfl⟩, rfl⟩))
          all_goals (go_ret; exact ⟨rfl, rfl⟩)
    · by_cases h1 : r < 1
      · go_enter Try.func32, Try.ntmps32
        go_wp2_with (go_at_call 59; go_must (refine (last_in a n _ (by omega) (by omega)).mono ?_; rintro e w1 ⟨rfl, rfl⟩))
        all_goals (go_ret; exact ⟨rfl, rfl⟩)
      · have h2 : 7 < r := by omega
        go_enter Try.func32, Try.ntmps32
        go_wp2_with (go_at_call 59; go_must (refine (last_in a n _ (by omega) (by omega)).mono ?_; rintro e w1 ⟨rfl, rfl⟩))
        all_goals (go_ret; exact ⟨rfl, rfl⟩)
theorem map_nil (w : World) (a n r : Nat) (h : 1 ≤ r) (h7 : r ≤ 7) (hn : 1 ≤ n) (ho : a + n ≤ 18446744073709551616) :
    Calls Try.prog 32 #[.pointer none, .int .u64 a, .int .u64 n, .int .i64 r] w fun e w' => e = .returned (.int .i64 21) ∧ w = w' := by
  have hz : (((n : Nat) : Int) == 0) = false := by simp; omega
  go_enter Try.func32, Try.ntmps32
  go_wp2_with (first
    | (go_at_call 59; go_must (refine (last_in a n _ (by omega) (by omega)).mono ?_; rintro e w1 ⟨rfl, rfl⟩))
    | (go_at_call 27; go_must (refine (none_nil _).mono ?_; rintro e w1 ⟨rfl, rfl⟩)))
  go_ret
  exact ⟨rfl, rfl⟩
set_option maxRecDepth 100000 in
theorem map_clash {base bp bm : Nat} {L : List Ent} (w : World) (hp : PagesIs w base bp bm L) (a n r : Nat) (h : 1 ≤ r) (h7 : r ≤ 7) (hn : 1 ≤ n) (ho : a + n ≤ 18446744073709551616) (hc : clashB L (a / 4096) ((a + n - 1) / 4096) r = true) :
    Calls Try.prog 32 #[ptr bp, .int .u64 a, .int .u64 n, .int .i64 r] w fun e w' => e = .returned (.int .i64 21) ∧ Below w.heap.size w w' := by
  have hz : (((n : Nat) : Int) == 0) = false := by simp; omega
  have HT := Lib.hid (there_is w hp (a / 4096) ((a + n - 1) / 4096) r (by omega) (by omega) (by omega))
  rw [hc, Int.natCast_ediv, Int.natCast_ediv] at HT
  clear hc
  go_enter Try.func32, Try.ntmps32
  go_wp2_with (first
    | (go_at_call 59; go_must (refine (last_in a n _ (by omega) (by omega)).mono ?_; rintro e w1 ⟨rfl, rfl⟩))
    | (go_at_call 27; go_must (refine (none_is _ hp).mono ?_; rintro e w1 ⟨rfl, rfl⟩))
    | (go_at_call 60; go_must (refine HT.out.mono ?_; rintro e w1 ⟨rfl, hb1⟩)))
  go_ret
  exact ⟨rfl, hb1⟩
/-- Would there be too many? -/
def longB (L : List Ent) (f l : Nat) : Bool := decide (4096 ≤ l - f) || decide (4096 < L.length - thereN L f l + (l - f + 1))
theorem thereN_le (L : List Ent) (f l : Nat) : thereN L f l ≤ L.length := List.countP_le_length
set_option maxRecDepth 100000 in
theorem map_long {base bp bm : Nat} {L : List Ent} (w : World) (hp : PagesIs w base bp bm L) (hL : L.length ≤ 1000000) (a n r : Nat) (h : 1 ≤ r) (h7 : r ≤ 7) (hn : 1 ≤ n) (ho : a + n ≤ 18446744073709551616)
    (hc : clashB L (a / 4096) ((a + n - 1) / 4096) r = false) (hg : longB L (a / 4096) ((a + n - 1) / 4096) = true) :
    Calls Try.prog 32 #[ptr bp, .int .u64 a, .int .u64 n, .int .i64 r] w fun e w' => e = .returned (.int .i64 6) ∧ Below w.heap.size w w' := by
  have hz : (((n : Nat) : Int) == 0) = false := by simp; omega
  have HT := Lib.hid (there_is w hp (a / 4096) ((a + n - 1) / 4096) r (by omega) (by omega) (by omega))
  rw [hc, Int.natCast_ediv, Int.natCast_ediv] at HT
  have hle := thereN_le L (a / 4096) ((a + n - 1) / 4096)
  have hg' : 4096 ≤ (a + n - 1) / 4096 - a / 4096 ∨ (a + n - 1) / 4096 - a / 4096 < 4096 ∧ 4096 < L.length - thereN L (a / 4096) ((a + n - 1) / 4096) + ((a + n - 1) / 4096 - a / 4096 + 1) := by
    unfold longB at hg; simp at hg; omega
  have hfl : a / 4096 ≤ (a + n - 1) / 4096 := Nat.div_le_div_right (by omega)
  clear hc hg
  generalize thereN L (a / 4096) ((a + n - 1) / 4096) = q at *
  have HP := Lib.hid hp
  clear hp
  rcases hg' with hg | ⟨hg1, hg2⟩
  · go_enter Try.func32, Try.ntmps32
    go_wp2_with (first
      | (go_at_call 59; go_must (refine (last_in a n _ (by omega) (by omega)).mono ?_; rintro e w1 ⟨rfl, rfl⟩))
      | (go_at_call 27; go_must (refine (none_is _ HP.out).mono ?_; rintro e w1 ⟨rfl, rfl⟩))
      | (go_at_call 60; go_must (refine HT.out.mono ?_; rintro e w1 ⟨rfl, hb1⟩)))
    go_ret
    exact ⟨rfl, hb1⟩
  · go_enter Try.func32, Try.ntmps32
    go_wp2_with (first
      | (go_at_call 59; go_must (refine (last_in a n _ (by omega) (by omega)).mono ?_; rintro e w1 ⟨rfl, rfl⟩))
      | (go_at_call 27; go_must (refine (none_is _ HP.out).mono ?_; rintro e w1 ⟨rfl, rfl⟩))
      | (go_at_call 60; go_must (refine HT.out.mono ?_; rintro e w1 ⟨rfl, hb1⟩; obtain ⟨c0, c1⟩ := (HP.out.mono hb1).cells; have hlen := (HP.out.mono hb1).hm.len (t := 84) (e := 83) TM.ht 3; rw [List.length_map] at hlen)))
    go_ret
    exact ⟨rfl, hb1⟩
end Go.Proofs.Ytmpelmjhimalpaa
namespace Go.Proofs.Ytmpelmjhimalpaa
open Go.RowKit Go.Fd
theorem find_app {L : List Ent} {k : Nat} (h : findE L k = none) (e : Ent) (he : e.n = k) : findE (L ++ [e]) k = some e := by
  unfold findE at *
  rw [List.find?_append, h]
  simp [he]
theorem or_zero8 {r : Nat} (hr : r < 8) : bits .or .i64 0 (r : Int) = (r : Int) := by
  have := or_i8 (r := 0) (q := r) (by omega) hr
  rw [Nat.zero_or] at this
  exact this
theorem foot_app {bp bm : Nat} {L : List Ent} {e : Ent} {k : Nat} (h : foot bp bm (L ++ [e]) k) : foot bp bm L k ∨ k = e.blk := by
  unfold foot at *
  rw [List.map_append, List.mem_append] at h
  rcases h with h | h | h | h
  · exact .inl (.inl h)
  · exact .inl (.inr (.inl h))
  · exact .inl (.inr (.inr h))
  · right; simpa using h
/-- What a round of Map has: the pages that are there, in this world. -/
structure Mapped (w : World) (base bp bm : Nat) (L : List Ent) (wr : World) (L1 : List Ent) (k : Nat) : Prop where
  is : PagesIs wr base bp bm L1
  st : Stirs (foot bp bm L) w wr
  ft : ∀ j, foot bp bm L1 j → foot bp bm L j ∨ w.heap.size ≤ j
  len : L1.length ≤ L.length + k
theorem Mapped.set {w wr : World} {base bp bm : Nat} {L L1 : List Ent} {k : Nat} (h : Mapped w base bp bm L wr L1 k) {e0 : Ent} (he : e0 ∈ L1) {r : Nat} (hr : r < 8) :
    Mapped w base bp bm L (wr.setCell ⟨e0.blk, 0, none⟩ (.int .i64 (r : Int))) (setE L1 e0.n r e0.c) k := by
  obtain ⟨hb, hlen, _, _, _⟩ := h.is.pg e0 he
  have ht : Stirs (· = e0.blk) wr (wr.setCell ⟨e0.blk, 0, none⟩ (.int .i64 (r : Int))) := stirs_setCell _ _ _ _ rfl
  refine ⟨h.is.upd he ht hr hlen ?_, h.st.trans ht ?_, fun j hj => h.ft j ((foot_set ..).1 hj), by rw [len_set]; exact h.len⟩
  · rw [block_set hb, pgCells_rights]
  · intro i hi e
    have := h.ft i (.inr (.inr (e ▸ List.mem_map.2 ⟨e0, he, rfl⟩)))
    rcases this with h | h
    · exact h
    · omega
theorem Mapped.new {w wr w2 : World} {base bp bm : Nat} {L L1 : List Ent} {k : Nat} (h : Mapped w base bp bm L wr L1 k) (hbase : base ≤ w.heap.size) {n : Nat} (hn : n < 18446744073709551616) (hf : findE L1 n = none)
    (hm : MapIs Try.prog 24 K64 w2 bm (putE (L1.map keyE) n (ptr wr.heap.size))) (hg : (wr.alloc (.cells (pgCells 0 zs) 89)).grownBy w2 (some bm)) :
    Mapped w base bp bm L w2 (L1 ++ [⟨n, wr.heap.size, 0, zs⟩]) (k + 1) := by
  refine ⟨h.is.new rfl (Nat.le_trans hbase h.st.size) hn (findE_none hf) hm hg, (h.st.alloc _).trans (Stirs.of_grown (S := (· = bm)) hg (fun k hk => by cases hk; rfl)) (fun i _ e => .inr (.inl e)), fun j hj => ?_, by have := h.len; simp; omega⟩
  rcases foot_app hj with h1 | h1
  · exact h.ft j h1
  · right
    have := h.st.size
    simp at h1
    omega
theorem exec_buildp {e : Operand → Value} {w : World} {d : Option Tmp} {ty : TypeId} {pos : String} {aft : Array Edge} {g : Option (Nat × Bool)} : (execOp e ⟨d, .build 89 #[], ty, pos, aft, g⟩).run Try.prog w = .ok (.value (.agg (pgCells 0 zs))) w := by
  simp [execOp, build_page]
theorem exec_boxp {e : Operand → Value} {w : World} {d : Option Tmp} {x : Operand} {ty : TypeId} {pos : String} {aft : Array Edge} {g : Option (Nat × Bool)} (hx : e x = .agg (pgCells 0 zs)) :
    (execOp e ⟨d, .box 89 x, ty, pos, aft, g⟩).run Try.prog w = .ok (.value (.pointer (some ⟨w.heap.size, 0, none⟩))) (w.alloc (.cells (pgCells 0 zs) 89)) := by
  simp [execOp, hx, box_page]
set_option maxRecDepth 100000 in
set_option maxHeartbeats 400000 in
theorem map_ok {base bp bm : Nat} {L : List Ent} (w : World) (hp : PagesIs w base bp bm L) (hbase : base ≤ w.heap.size) (hL : L.length ≤ 1000000) (a n r : Nat) (h : 1 ≤ r) (h7 : r ≤ 7) (hn : 1 ≤ n) (ho : a + n ≤ 18446744073709551616)
    (hc : clashB L (a / 4096) ((a + n - 1) / 4096) r = false) (hg : longB L (a / 4096) ((a + n - 1) / 4096) = false) :
    Calls Try.prog 32 #[ptr bp, .int .u64 a, .int .u64 n, .int .i64 r] w fun e w' => e = .returned (.int .i64 0) ∧ ∃ L', vw L' = mapV r (vw L) (a / 4096) ((a + n - 1) / 4096 + 1 - a / 4096) ∧ Mapped w base bp bm L w' L' 4096 := by
  have hz : (((n : Nat) : Int) == 0) = false := by simp; omega
  have HT := Lib.hid (there_is w hp (a / 4096) ((a + n - 1) / 4096) r (by omega) (by omega) (by omega))
  rw [hc] at HT
  have hle := thereN_le L (a / 4096) ((a + n - 1) / 4096)
  have hg' : (a + n - 1) / 4096 - a / 4096 < 4096 ∧ L.length - thereN L (a / 4096) ((a + n - 1) / 4096) + ((a + n - 1) / 4096 - a / 4096 + 1) ≤ 4096 := by
    unfold longB at hg; simp at hg; omega
  have hfl : a / 4096 ≤ (a + n - 1) / 4096 := Nat.div_le_div_right (by omega)
  obtain ⟨hg1, hg2⟩ := hg'
  clear hc hg
  generalize thereN L (a / 4096) ((a + n - 1) / 4096) = q at *
  have HP := Lib.hid hp
  clear hp
  have e1 : (((a / 4096 : Nat)) : Int) = (a : Int) / 4096 := Int.natCast_ediv ..
  have e2 : ((((a + n - 1) / 4096 : Nat)) : Int) = ((a + n - 1 : Nat) : Int) / 4096 := Int.natCast_ediv ..
  have hlim : (a + n - 1) / 4096 < 4503599627370496 := by omega
  generalize hF : a / 4096 = F at *
  generalize hG : (a + n - 1) / 4096 = G at *
  have E1 := Lib.hid e1
  have E2 := Lib.hid e2
  clear hF hG
  rw [e1, e2] at HT
  clear e1 e2
  go_enter Try.func32, Try.ntmps32
  go_wp2_with (first
    | (go_at_call 59; go_must (refine (last_in a n _ (by omega) (by omega)).mono ?_; rintro e w1 ⟨rfl, rfl⟩))
    | (go_at_call 27; go_must (refine (none_is _ HP.out).mono ?_; rintro e w1 ⟨rfl, rfl⟩))
    | (go_at_call 60; go_must (refine HT.out.mono ?_; rintro e w1 ⟨rfl, hb1⟩; obtain ⟨c0, c1⟩ := (HP.out.mono hb1).cells; have hlen := (HP.out.mono hb1).hm.len (t := 84) (e := 83) TM.ht 3; rw [List.length_map] at hlen; have e1 := E1.out.symm; have e2 := E2.out.symm)))
  have HM0 := Lib.hid (show Mapped w base bp bm L w1 L 0 from ⟨HP.out.mono hb1, Stirs.of_below hb1, fun _ h => .inl h, by omega⟩)
  have hr8 : r < 8 := by omega
  clear e1 e2 c0 c1 hlen
  go_loopw [15] (fun kv wr => ∃ (k : Nat) (L1 : List Ent), kv = .int .u64 k ∧ F ≤ k ∧ k ≤ G + 1 ∧ Hid (mapV r (vw L1) k (G + 1 - k) = mapV r (vw L) F (G + 1 - F)) ∧ Hid (Mapped w base bp bm L wr L1 (k - F))) (fun kv _ => G + 1 - (intOf kv).toNat)
  case atStart => exact ⟨F, L, rfl, Nat.le_refl _, by omega, rfl, by rw [Nat.sub_self]; exact HM0.out⟩
  case round =>
    obtain ⟨k, L1, rfl, hk1, hk2, HV, HMM⟩ := hrel
    by_cases hlt : k ≤ G
    · have HS := Lib.hid (show mapV r (vw L1) k (G + 1 - k) = mapV r (addP (vw L1) k r) (k + 1) (G + 1 - (k + 1)) by rw [show G + 1 - k = (G + 1 - (k + 1)) + 1 by omega, mapV])
      have HSz := Lib.hid (Nat.le_trans hbase HMM.out.st.size)
      obtain ⟨c0, c1⟩ := HMM.out.is.cells
      cases hf : findE L1 k with
      | some e0 =>
        have hl := HMM.out.is.lookK_some k (by omega) hf
        have HFM := Lib.hid (findE_mem hf)
        have hc := (HMM.out.is.page HFM.out.1).1
        have hr0 := (HMM.out.is.pg e0 HFM.out.1).2.2.2.2
        obtain ⟨q2, HQ, hq2, hor⟩ : ∃ q2, Hid (q2 = e0.r ||| r) ∧ q2 < 8 ∧ bits .or .i64 (e0.r : Int) (r : Int) = (q2 : Int) := ⟨_, rfl, or_lt8 hr0 hr8, or_i8 hr0 hr8⟩
        have hfr := block_free (HMM.out.is.pg e0 HFM.out.1).1 0
        clear hf
        have HV2 := Lib.hid (show mapV r (vw (setE L1 e0.n q2 e0.c)) (k + 1) (G + 1 - (k + 1)) = mapV r (vw L) F (G + 1 - F) by
          rw [HQ.out, vw_set HMM.out.is.nodup HFM.out.1, HFM.out.2, ← HS.out]; exact HV.out)
        have HN := Lib.hid (show Mapped w base bp bm L (wr.setCell ⟨e0.blk, 0, none⟩ (.int .i64 (q2 : Int))) (setE L1 e0.n q2 e0.c) (k + 1 - F) from
          let m := HMM.out.set HFM.out.1 hq2; ⟨m.is, m.st, m.ft, by have := m.len; omega⟩)
        go_wp2
        go_roundw
        case rel => exact ⟨k + 1, _, by go_num, by omega, by omega, HV2.out, HN.out⟩
        case measure => simp [intOf] <;> omega
      | none =>
        have hl := HMM.out.is.lookK_none k (by omega) hf
        have HF := Lib.hid hf
        have hroom : (L1.map keyE).length < maxLen := by have := HMM.out.len; unfold maxLen; rw [List.length_map]; omega
        have HRO := Lib.hid hroom
        have hor := or_zero8 hr8
        clear hf hroom
        go_wp2_with (first
          | (with_reducible show wpList _ _ _ (⟨some 93, _, _, _, _, _⟩ :: _) _ _; go_must (refine wpList_val rfl exec_buildp ?_))
          | (with_reducible show wpList _ _ _ (⟨some 94, _, _, _, _, _⟩ :: _) _ _; go_must (refine wpList_val rfl (exec_boxp rfl) ?_))
          | (at_mapUpdate; go_must (refine wpList_storeM TM (HMM.out.is.hm.mono (below_alloc _ _)) HRO.out (key := k) (key64 k (by omega)) rfl rfl rfl ?_; intro w2 hm2 hg2 hs2; have HNEW := Lib.hid (HMM.out.new hbase (by omega) HF.out hm2 hg2); have HFND := Lib.hid (find_app HF.out ⟨k, wr.heap.size, 0, zs⟩ rfl); clear hm2 hg2 hs2 hl c0 c1; obtain ⟨c0, c1⟩ := HNEW.out.is.cells; have hl := HNEW.out.is.lookK_some k (by omega) HFND.out; have HMEM := Lib.hid (findE_mem HFND.out).1; have hc := (HNEW.out.is.page HMEM.out).1; have hfr := block_free (HNEW.out.is.pg _ HMEM.out).1 0)))
        have hne : k ∉ L1.map (·.n) := findE_none HF.out
        go_roundw
        case rel =>
          have m := HNEW.out.set HMEM.out hr8
          exact ⟨k + 1, _, by go_num, by omega, by omega, by rw [vw_new hne, ← HS.out]; exact HV.out, ⟨m.is, m.st, m.ft, by have := m.len; omega⟩⟩
        case measure => simp [intOf] <;> omega
    · obtain rfl : k = G + 1 := by omega
      go_wp2
      go_ret
      have hv := HV.out
      rw [Nat.sub_self, mapV] at hv
      have m := HMM.out
      exact ⟨rfl, L1, hv, m.is, m.st, m.ft, by have := m.len; omega⟩
end Go.Proofs.Ytmpelmjhimalpaa
namespace Go.Proofs.Ytmpelmjhimalpaa
open Go.RowKit Go.Fd
/-- Pages as they are told: number, rights, bytes. -/
abbrev Vw := List (Nat × Nat × List UInt8)
def findV (V : Vw) (k : Nat) : Option (Nat × Nat × List UInt8) := V.find? (·.1 == k)
theorem findV_vw (L : List Ent) (k : Nat) : findV (vw L) k = (findE L k).map fun e => (e.n, e.r, e.c) := by
  unfold findV findE vw
  rw [List.find?_map]
  rfl
/-- The memory at block bp, in blocks F, all from base on. -/
def Mem (w : World) (base bp : Nat) (F : Nat → Prop) (V : Vw) : Prop := ∃ bm L, PagesIs w base bp bm L ∧ vw L = V ∧ (∀ k, foot bp bm L k → F k)
/-- What a call may add to the blocks. -/
def more (F : Nat → Prop) (w : World) (k : Nat) : Prop := F k ∨ w.heap.size ≤ k
theorem Mem.stirs {w w' : World} {base bp : Nat} {F S : Nat → Prop} {V : Vw} (h : Mem w base bp F V) (ht : Stirs S w w') (hs : ∀ k, F k → ¬ S k) : Mem w' base bp F V := by
  obtain ⟨bm, L, h1, h2, h3⟩ := h
  exact ⟨bm, L, h1.stirs ht fun k hk => hs k (h3 k hk), h2, h3⟩
theorem Mem.mono {w w' : World} {base bp : Nat} {F : Nat → Prop} {V : Vw} (h : Mem w base bp F V) (hb : Below w.heap.size w w') : Mem w' base bp F V := by
  obtain ⟨bm, L, h1, h2, h3⟩ := h
  exact ⟨bm, L, h1.mono hb, h2, h3⟩
theorem Mem.weak {w : World} {base bp : Nat} {F F' : Nat → Prop} {V : Vw} (h : Mem w base bp F V) (hf : ∀ k, F k → F' k) : Mem w base bp F' V := by
  obtain ⟨bm, L, h1, h2, h3⟩ := h
  exact ⟨bm, L, h1, h2, fun k hk => hf k (h3 k hk)⟩
theorem foot_base {w : World} {base bp bm : Nat} {L : List Ent} (h : PagesIs w base bp bm L) (k : Nat) (hk : foot bp bm L k) : base ≤ k ∧ k < w.heap.size := by
  rcases hk with rfl | rfl | hk
  · exact ⟨h.bp, (Array.getElem?_eq_some_iff.1 h.hp).1⟩
  · exact ⟨h.bm, h.hm.lt⟩
  · obtain ⟨e, he, rfl⟩ := List.mem_map.1 hk
    exact ⟨(h.pg e he).2.2.1, (Array.getElem?_eq_some_iff.1 (h.pg e he).1).1⟩
/-- Well formed: what every memory's telling is. -/
structure OkV (V : Vw) : Prop where
  nd : (V.map (·.1)).Nodup
  pg : ∀ x ∈ V, x.1 < 18446744073709551616 ∧ x.2.1 < 8 ∧ x.2.2.length = 4096
def inV (f l : Nat) (x : Nat × Nat × List UInt8) : Bool := decide (f ≤ x.1) && decide (x.1 ≤ l)
def thereV (V : Vw) (f l : Nat) : Nat := V.countP (inV f l)
def clashV (V : Vw) (f l r : Nat) : Bool := bothB r || V.any fun x => inV f l x && bothB (x.2.1 ||| r)
def longV (V : Vw) (f l : Nat) : Bool := decide (4096 ≤ l - f) || decide (4096 < V.length - thereV V f l + (l - f + 1))
theorem there_vw (L : List Ent) (f l : Nat) : thereN L f l = thereV (vw L) f l := by
  unfold thereN thereV vw
  rw [List.countP_map]
  rfl
theorem clash_vw (L : List Ent) (f l r : Nat) : clashB L f l r = clashV (vw L) f l r := by
  unfold clashB clashV vw
  rw [List.any_map]
  rfl
theorem long_vw (L : List Ent) (f l : Nat) : longB L f l = longV (vw L) f l := by
  unfold longB longV
  rw [there_vw, show (vw L).length = L.length from List.length_map _]
/-- Map: what there is behind it, and its error. -/
def mapR (V : Vw) (a n : Nat) (r : Int) : Vw × Int :=
  if r < 1 ∨ 7 < r ∨ n = 0 ∨ 18446744073709551616 < a + n then (V, 1)
  else if clashV V (a / 4096) ((a + n - 1) / 4096) r.toNat = true then (V, 21)
  else if longV V (a / 4096) ((a + n - 1) / 4096) = true then (V, 6)
  else (mapV r.toNat V (a / 4096) ((a + n - 1) / 4096 + 1 - a / 4096), 0)
theorem map_mem {base bp : Nat} {F : Nat → Prop} {V : Vw} (w : World) (h : Mem w base bp F V) (hbase : base ≤ w.heap.size) (hL : V.length ≤ 1000000) (a n : Nat) (r : Int) (ha : a < 18446744073709551616) (hn : n < 18446744073709551616) :
    Calls Try.prog 32 #[ptr bp, .int .u64 a, .int .u64 n, .int .i64 r] w fun e w' => e = .returned (.int .i64 (mapR V a n r).2) ∧ Mem w' base bp (more F w) (mapR V a n r).1 ∧ Stirs F w w' := by
  have h0 := h
  obtain ⟨bm, L, h1, hV, h3⟩ := h
  have hlen : V.length = L.length := by rw [← hV]; exact List.length_map _
  by_cases c1 : r < 1 ∨ 7 < r ∨ n = 0 ∨ 18446744073709551616 < a + n
  · have hr : mapR V a n r = (V, 1) := by unfold mapR; rw [if_pos c1]
    rw [hr]
    exact (map_arg (ptr bp) w a n r ha hn c1).mono fun e w' ⟨he, hw⟩ => ⟨he, hw ▸ h0.weak fun k hk => .inl hk, hw ▸ Stirs.refl _ _⟩
  obtain ⟨r, rfl⟩ := Int.eq_ofNat_of_zero_le (by omega : 0 ≤ r)
  by_cases c2 : clashV V (a / 4096) ((a + n - 1) / 4096) r = true
  · have hr : mapR V a n r = (V, 21) := by unfold mapR; rw [if_neg c1, Int.toNat_natCast, if_pos c2]
    rw [hr]
    exact (map_clash w h1 a n r (by omega) (by omega) (by omega) (by omega) (by rw [clash_vw, hV]; exact c2)).mono fun e w' ⟨he, hb⟩ => ⟨he, (h0.mono hb).weak fun k hk => .inl hk, Stirs.of_below hb⟩
  have c2' : clashB L (a / 4096) ((a + n - 1) / 4096) r = false := by rw [clash_vw, hV]; simpa using c2
  by_cases c3 : longV V (a / 4096) ((a + n - 1) / 4096) = true
  · have hr : mapR V a n r = (V, 6) := by unfold mapR; rw [if_neg c1, Int.toNat_natCast, if_neg c2, if_pos c3]
    rw [hr]
    exact (map_long w h1 (by omega) a n r (by omega) (by omega) (by omega) (by omega) c2' (by rw [long_vw, hV]; exact c3)).mono fun e w' ⟨he, hb⟩ => ⟨he, (h0.mono hb).weak fun k hk => .inl hk, Stirs.of_below hb⟩
  have hr : mapR V a n r = (mapV r V (a / 4096) ((a + n - 1) / 4096 + 1 - a / 4096), 0) := by unfold mapR; rw [if_neg c1, Int.toNat_natCast, if_neg c2, if_neg c3]
  rw [hr]
  refine (map_ok w h1 hbase (by omega) a n r (by omega) (by omega) (by omega) (by omega) c2' (by rw [long_vw, hV]; simpa using c3)).mono ?_
  rintro e w' ⟨he, L', hv, hm⟩
  refine ⟨he, ⟨bm, L', hm.is, by rw [hv, hV], fun k hk => ?_⟩, hm.st.sub fun k _ hk => h3 k hk⟩
  rcases hm.ft k hk with h | h
  · exact .inl (h3 k h)
  · exact .inr h
def rightsV (V : Vw) (k : Nat) : Nat := match findV V k with
  | some x => x.2.1
  | none => 0
theorem rights_mem {base bp : Nat} {F : Nat → Prop} {V : Vw} (w : World) (h : Mem w base bp F V) (a : Nat) (ha : a < 18446744073709551616) :
    Calls Try.prog 13 #[ptr bp, .int .u64 a] w fun e w' => e = .returned (.int .i64 (rightsV V (a / 4096))) ∧ w = w' := by
  obtain ⟨bm, L, h1, rfl, h3⟩ := h
  have : rightsV (vw L) (a / 4096) = rightsE (findE L (a / 4096)) := by
    unfold rightsV
    rw [findV_vw]
    cases findE L (a / 4096) <;> rfl
  rw [this]
  exact rights_is w h1 a ha
theorem count_mem {base bp : Nat} {F : Nat → Prop} {V : Vw} (w : World) (h : Mem w base bp F V) : Calls Try.prog 18 #[ptr bp] w fun e w' => e = .returned (.int .i64 V.length) ∧ w = w' := by
  obtain ⟨bm, L, h1, rfl, h3⟩ := h
  rw [show (vw L).length = L.length from List.length_map _]
  exact count_is w h1
theorem new_mem (w : World) : Calls Try.prog 16 #[] w fun e w' => ∃ bp, e = .returned (ptr bp) ∧ Mem w' w.heap.size bp (fun k => w.heap.size ≤ k) [] ∧ Below w.heap.size w w' := by
  refine (new_any w).mono ?_
  rintro e w' ⟨bp, bm, he, hp, hb⟩
  exact ⟨bp, he, ⟨bm, [], hp, rfl, fun k hk => (foot_base hp k hk).1⟩, hb⟩
end Go.Proofs.Ytmpelmjhimalpaa
namespace Go.Proofs.Ytmpelmjhimalpaa
open Go.RowKit Go.Fd
def fixed : Nat → Nat → List UInt8
  | _, 0 => []
  | n, k + 1 => UInt8.ofNat n :: fixed (n / 256) k
theorem length_fixed (n s : Nat) : (fixed n s).length = s := by
  induction s generalizing n with
  | zero => rfl
  | succ s ih => simp [fixed, ih]
theorem fixed_snoc (n s : Nat) : fixed n (s + 1) = fixed n s ++ [UInt8.ofNat (n / 256 ^ s)] := by
  induction s generalizing n with
  | zero => simp [fixed]
  | succ s ih => rw [fixed, ih (n / 256), fixed, List.cons_append, Nat.div_div_eq_div_mul]; congr 4; rw [Nat.pow_succ, Nat.mul_comm]
theorem fixed_any (n : Nat) (s : Nat) (w : World) (hn : n < 18446744073709551616) (hs : s ≤ 8) :
    Calls Try.prog 68 #[.int .u64 n, .int .i64 s] w fun e w' =>
      ∃ v, e = .returned v ∧ OB w' w.heap.size v (fixed n s) ∧ Below w.heap.size w w' := by
  go_enter Try.func68, Try.ntmps68
  go_wp2
  go_loopw [0, 5, 6] (fun m v i wr => ∃ k : Nat, k ≤ s ∧ i = .int .i64 k ∧ m = .int .u64 ((n / 256 ^ k : Nat)) ∧ OB wr w.heap.size v (fixed n k) ∧ Below w.heap.size w wr) (fun _ _ i _ => s - (intOf i).toNat)
  case atStart => exact ⟨0, Nat.zero_le _, rfl, by simp, OB.nil _ _, Below.refl _ _⟩
  case round =>
    obtain ⟨k, hk, rfl, rfl, hown, hb⟩ := hrel
    have hm : n / 256 ^ k < 18446744073709551616 := Nat.lt_of_le_of_lt (Nat.div_le_self _ _) hn
    have HF := Lib.hid (fixed_snoc n k)
    have HP := Lib.hid (show n / 256 ^ k / 256 = n / 256 ^ (k + 1) by rw [Nat.div_div_eq_div_mul, Nat.pow_succ])
    have hL := length_fixed n k
    have HL := Lib.hid hL
    clear hL
    generalize n / 256 ^ k = m at *
    by_cases hlt : k < s
    · go_wp2_with (at_builtin; refine wpList_pushB hown rfl rfl (UInt8.ofNat m) (by rw [u8_of]; omega) (by rw [HL.out]; omega) hb.size ?_; intro v1 w1 hown1 _ hb1)
      go_roundw
      case rel => exact ⟨k + 1, by omega, by go_num, by rw [← HP.out]; go_num, by rw [HF.out]; exact hown1, hb.trans hb1⟩
      case measure => simp [intOf] <;> omega
    · obtain rfl : k = s := by omega
      go_wp2
      go_ret
      exact ⟨_, rfl, hown, hb⟩
end Go.Proofs.Ytmpelmjhimalpaa
namespace Go.Proofs.Ytmpelmjhimalpaa
open Go.RowKit Go.Fd
def numLE : List UInt8 → Nat
  | [] => 0
  | c :: r => c.toNat + 256 * numLE r
theorem numLE_lt (l : List UInt8) : numLE l < 256 ^ l.length := by
  induction l with
  | nil => simp [numLE]
  | cons c r ih =>
    have := c.toNat_lt
    rw [numLE, List.length_cons, Nat.pow_succ]
    omega
theorem numLE_drop (l : List UInt8) (k : Nat) (h : k < l.length) : numLE (l.drop k) = (l[k]?.getD 0).toNat + 256 * numLE (l.drop (k + 1)) := by
  rw [List.drop_eq_getElem_cons h, numLE, List.getElem?_eq_getElem h]; rfl
theorem numLE_lt' (l : List UInt8) (m : Nat) (h : l.length ≤ m) : numLE l < 256 ^ m := Nat.lt_of_lt_of_le (numLE_lt l) (Nat.pow_le_pow_right (by omega) h)
theorem or_byte (n : Nat) (c : UInt8) (hn : n < 72057594037927936) : bits .or .u64 ((n : Int) * 256) (c.toNat : Int) = ((c.toNat + 256 * n : Nat) : Int) := by
  have hc := c.toNat_lt
  rw [show (n : Int) * 256 = ((n * 256 : Nat) : Int) by omega, u64_or_nat _ _ (by omega) (by omega), nat_join 8 _ _ (by omega) (by omega)]
  congr 1; omega
theorem num_any (l : List UInt8) (v : Value) (w : World) (hl : l.length ≤ 8) (hv : Bs w v l) : Calls Try.prog 66 #[v] w fun e w' =>
    e = .returned (.int .u64 (numLE l)) ∧ w = w' := by
  obtain ⟨a, cap, rfl, hcap, _, hc⟩ := hv.open
  have HC := Lib.hid hc
  clear hc
  go_enter Try.func66, Try.ntmps66
  go_wp2
  go_loop [3, 4] (fun n i => ∃ k : Nat, k ≤ l.length ∧ i = .int .i64 ((k : Int) - 1) ∧ n = .int .u64 (numLE (l.drop k))) (fun _ i => (intOf i + 1).toNat)
  case atStart => exact ⟨l.length, Nat.le_refl _, rfl, by simp [numLE]⟩
  case round =>
    obtain ⟨k, hk, rfl, rfl⟩ := hrel
    by_cases h : 0 < k
    · obtain ⟨k, rfl⟩ : ∃ j, k = j + 1 := ⟨k - 1, by omega⟩
      obtain ⟨b, off, rfl, hcell⟩ := HC.out k (by omega)
      have hb : numLE (l.drop (k + 1)) < 256 ^ 7 := numLE_lt' _ 7 (by rw [List.length_drop]; omega)
      have HB := Lib.hid (numLE_drop l k (by omega))
      have HO := Lib.hid (or_byte (numLE (l.drop (k + 1))) (l[k]?.getD 0) hb)
      have hb' : (numLE (l.drop (k + 1)) : Int) < 72057594037927936 := by omega
      have hu := (l[k]?.getD 0).toNat_lt
      generalize numLE (l.drop (k + 1)) = m at *
      go_wp2
      go_round
      case rel => exact ⟨k, by omega, by go_num, by rw [HB.out, ← HO.out]⟩
      case measure => simp [intOf] <;> omega
    · obtain rfl : k = 0 := by omega
      go_wp2
      go_ret
      exact ⟨rfl, rfl⟩
end Go.Proofs.Ytmpelmjhimalpaa
namespace Go.Proofs.Ytmpelmjhimalpaa
open Go.RowKit Go.Fd
def okV (r : Nat) : Option (Nat × Nat × List UInt8) → Bool
  | some x => x.2.1 &&& r == r
  | none => false
def mayFromV (V : Vw) (r : Nat) : Nat → Nat → Bool
  | _, 0 => true
  | k, n + 1 => okV r (findV V k) && mayFromV V r (k + 1) n
/-- May the bytes be used so? -/
def mayV (V : Vw) (a n r : Nat) : Bool :=
  if n = 0 then true else if 18446744073709551616 < a + n then false else mayFromV V r (a / 4096) ((a + n - 1) / 4096 + 1 - a / 4096)
theorem may_vw (L : List Ent) (a n r : Nat) : mayB L a n r = mayV (vw L) a n r := by
  unfold mayB mayV
  have : ∀ k m, mayFrom L r k m = mayFromV (vw L) r k m := by
    intro k m
    induction m generalizing k with
    | zero => rfl
    | succ m ih =>
      rw [mayFrom, mayFromV, ih, findV_vw]
      cases findE L k <;> rfl
  rw [this]
theorem mayFromV_get {V : Vw} {r : Nat} : ∀ {m k : Nat}, mayFromV V r k m = true → ∀ j, k ≤ j → j < k + m → okV r (findV V j) = true
  | 0, k, _, j, h1, h2 => by omega
  | m + 1, k, h, j, h1, h2 => by
    rw [mayFromV, Bool.and_eq_true] at h
    by_cases e : j = k
    · subst e; exact h.1
    · exact mayFromV_get h.2 j (by omega) (by omega)
theorem mayFromV_mk {V : Vw} {r : Nat} : ∀ {m k : Nat}, (∀ j, k ≤ j → j < k + m → okV r (findV V j) = true) → mayFromV V r k m = true
  | 0, k, _ => rfl
  | m + 1, k, h => by
    rw [mayFromV, h k (Nat.le_refl _) (by omega), Bool.true_and]
    exact mayFromV_mk fun j h1 h2 => h j (by omega) (by omega)
/-- Each byte lies in a page that may be used so. -/
theorem mayV_iff (V : Vw) (a n r : Nat) : mayV V a n r = true ↔ n = 0 ∨ (a + n ≤ 18446744073709551616 ∧ ∀ i, i < n → okV r (findV V ((a + i) / 4096)) = true) := by
  unfold mayV
  by_cases h0 : n = 0
  · simp [h0]
  rw [if_neg h0]
  by_cases h1 : 18446744073709551616 < a + n
  · rw [if_pos h1]
    simp; omega
  rw [if_neg h1]
  constructor
  · intro h
    refine .inr ⟨by omega, fun i hi => mayFromV_get h _ (Nat.div_le_div_right (by omega)) ?_⟩
    have : (a + i) / 4096 ≤ (a + n - 1) / 4096 := Nat.div_le_div_right (by omega)
    omega
  · rintro (h | ⟨_, h⟩)
    · exact absurd h h0
    · refine mayFromV_mk fun j h2 h3 => ?_
      have hj : j ≤ (a + n - 1) / 4096 := by omega
      by_cases e : j = a / 4096
      · have := h 0 (by omega)
        rw [Nat.add_zero, ← e] at this
        exact this
      · have := h (j * 4096 - a) (by omega)
        rw [show (a + (j * 4096 - a)) / 4096 = j by omega] at this
        exact this
/-- A byte is set. -/
def setBV (V : Vw) (a : Nat) (x : UInt8) : Vw := V.map fun p => if p.1 = a / 4096 then (p.1, p.2.1, p.2.2.set (a % 4096) x) else p
def setV : Vw → Nat → List UInt8 → Vw
  | V, _, [] => V
  | V, a, x :: l => setV (setBV V a x) (a + 1) l
theorem setV_snoc (V : Vw) (a : Nat) (l : List UInt8) (x : UInt8) : setV V a (l ++ [x]) = setBV (setV V a l) (a + l.length) x := by
  induction l generalizing V a with
  | nil => rfl
  | cons y l ih => rw [List.cons_append, setV, ih, setV, List.length_cons, Nat.add_assoc, Nat.add_comm 1]
theorem findV_set (V : Vw) (a : Nat) (x : UInt8) (k : Nat) : findV (setBV V a x) k = (findV V k).map fun p => if k = a / 4096 then (p.1, p.2.1, p.2.2.set (a % 4096) x) else p := by
  unfold findV setBV
  induction V with
  | nil => rfl
  | cons p V ih =>
    rw [List.map_cons, List.find?_cons, List.find?_cons]
    by_cases h1 : p.1 = k
    · rw [show ((if p.1 = a / 4096 then (p.1, p.2.1, p.2.2.set (a % 4096) x) else p).1 == k) = true by split <;> simpa using h1, show (p.1 == k) = true by simpa using h1]
      simp [h1]
    · rw [show ((if p.1 = a / 4096 then (p.1, p.2.1, p.2.2.set (a % 4096) x) else p).1 == k) = false by split <;> simpa using h1, show (p.1 == k) = false by simpa using h1]
      exact ih
theorem findV_setV_some (l : List UInt8) : ∀ (V : Vw) (a k : Nat), (findV (setV V a l) k).isSome = (findV V k).isSome := by
  induction l with
  | nil => intro V a k; rfl
  | cons x l ih => intro V a k; rw [setV, ih, findV_set]; simp
theorem vw_setB {L : List Ent} {a : Nat} {e0 : Ent} (hn : (L.map (·.n)).Nodup) (he : findE L (a / 4096) = some e0) (x : UInt8) : vw (setE L e0.n e0.r (e0.c.set (a % 4096) x)) = setBV (vw L) a x := by
  obtain ⟨hm, hk⟩ := findE_mem he
  unfold vw setE setBV
  rw [List.map_map, List.map_map]
  refine List.map_congr_left fun e hme => ?_
  simp only [Function.comp_apply]
  by_cases h : e.n = e0.n
  · obtain rfl := nodup_inj hn hme hm h
    simp [hk]
  · rw [if_neg h, if_neg (by rw [← hk]; exact h)]
theorem put_mem {base bp : Nat} {F : Nat → Prop} {V : Vw} (w : World) (h : Mem w base bp F V) (a : Nat) (ha : a < 18446744073709551616) (x : UInt8) (he : (findV V (a / 4096)).isSome = true) :
    Calls Try.prog 31 #[ptr bp, .int .u64 a, .int .u8 x.toNat] w fun e w' => e = .returned (.tuple #[]) ∧ Mem w' base bp F (setBV V a x) ∧ Stirs F w w' := by
  obtain ⟨bm, L, h1, rfl, h3⟩ := h
  rw [findV_vw] at he
  cases hf : findE L (a / 4096) with
  | none => rw [hf] at he; cases he
  | some e0 =>
    refine (put_is w h1 a ha x e0 hf).mono ?_
    rintro e w' ⟨h4, h5, h6, _⟩
    refine ⟨h4, ⟨bm, _, h5, vw_setB h1.nodup hf x, fun k hk => h3 k ((foot_set ..).1 hk)⟩, h6.sub fun k _ hk => ?_⟩
    subst hk
    exact h3 _ (.inr (.inr (List.mem_map.2 ⟨e0, (findE_mem hf).1, rfl⟩)))
theorem may_mem {base bp : Nat} {F : Nat → Prop} {V : Vw} (w : World) (h : Mem w base bp F V) (a n r : Nat) (ha : a < 18446744073709551616) (hn : n ≤ 1000000000) (hr : r < 8) :
    Calls Try.prog 28 #[ptr bp, .int .u64 a, .int .i64 n, .int .i64 r] w fun e w' => e = .returned (.bool (mayV V a n r)) ∧ w = w' := by
  obtain ⟨bm, L, h1, rfl, h3⟩ := h
  rw [← may_vw]
  exact may_is w h1 a n r ha hn hr
theorem none_mem {base bp : Nat} {F : Nat → Prop} {V : Vw} (w : World) (h : Mem w base bp F V) : Calls Try.prog 27 #[ptr bp] w fun e w' => e = .returned (.bool false) ∧ w = w' := by
  obtain ⟨bm, L, h1, rfl, h3⟩ := h
  exact none_is w h1
/-- Set: what there is behind it, and its error. -/
def setR (V : Vw) (a : Nat) (l : List UInt8) : Vw × Int := if mayV V a l.length 0 = true then (setV V a l, 0) else (V, 21)
set_option maxRecDepth 100000 in
theorem set_mem {base bp : Nat} {F : Nat → Prop} {V : Vw} (w : World) (h : Mem w base bp F V) (v : Value) (l : List UInt8) (hv : Bs w v l) (hl : l.length ≤ 1000000000) (hF : ∀ k, v.ownBlock = some k → ¬ F k) (a : Nat) (ha : a < 18446744073709551616) :
    Calls Try.prog 35 #[ptr bp, .int .u64 a, v] w fun e w' => e = .returned (.int .i64 (setR V a l).2) ∧ Mem w' base bp F (setR V a l).1 ∧ Stirs F w w' := by
  have HO := Lib.hid hv.open
  have HV := Lib.hid hv
  have HF := Lib.hid hF
  have HM := Lib.hid h
  obtain ⟨ad, cap, rfl, hcap, _, _⟩ := hv.open
  clear hF hv h
  cases hm : mayV V a l.length 0 with
  | false =>
    have HR := Lib.hid (show setR V a l = (V, 21) by unfold setR; rw [hm]; rfl)
    go_enter Try.func35, Try.ntmps35
    go_wp2_with (first
      | (go_at_call 27; go_must (refine (none_mem _ HM.out).mono ?_; rintro e w1 ⟨rfl, rfl⟩))
      | (go_at_call 28; go_must (refine (may_mem _ HM.out a l.length 0 ha hl (by omega)).mono ?_; rintro e w1 ⟨rfl, rfl⟩)))
    go_ret
    rw [HR.out]
    exact ⟨rfl, HM.out, Stirs.refl _ _⟩
  | true =>
    have HR := Lib.hid (show setR V a l = (setV V a l, 0) by unfold setR; rw [hm]; rfl)
    have hi := (mayV_iff V a l.length 0).1 hm
    have HI := Lib.hid hi
    clear hi
    go_enter Try.func35, Try.ntmps35
    go_wp2_with (first
      | (go_at_call 27; go_must (refine (none_mem _ HM.out).mono ?_; rintro e w1 ⟨rfl, rfl⟩))
      | (go_at_call 28; go_must (refine (may_mem _ HM.out a l.length 0 ha hl (by omega)).mono ?_; rintro e w1 ⟨rfl, rfl⟩)))
    clear hm
    go_loopw [21] (fun i wr => ∃ k : Nat, i = .int .i64 k ∧ k ≤ l.length ∧ Hid (Mem wr base bp F (setV V a (l.take k))) ∧ Hid (Stirs F w wr)) (fun i _ => l.length - (intOf i).toNat)
    case atStart => exact ⟨0, rfl, Nat.zero_le _, HM.out, Stirs.refl _ _⟩
    case round =>
      obtain ⟨k, rfl, hk, HK, HS⟩ := hrel
      by_cases hlt : k < l.length
      · obtain ⟨ad', cap', e1, _, _, hc⟩ := HO.out
        cases e1
        obtain ⟨b, off, rfl, hcell⟩ := hc k hlt
        have hc1 := HS.out.cell hcell (HF.out b rfl)
        have hak : a + k < 18446744073709551616 := by rcases HI.out with h | h <;> omega
        have HSM := Lib.hid (show (findV (setV V a (l.take k)) ((a + k) / 4096)).isSome = true by
          rw [findV_setV_some]
          rcases HI.out with h | h
          · omega
          · have := h.2 k hlt
            cases hf : findV V ((a + k) / 4096) with
            | none => rw [hf] at this; cases this
            | some x => rfl)
        have HT := Lib.hid (take_snoc' l k (l[k]?.getD 0) (by rw [List.getElem?_eq_getElem hlt]; rfl))
        have HTL := Lib.hid (show (l.take k).length = k by rw [List.length_take]; omega)
        clear hcell hc
        generalize l[k]?.getD 0 = x at *
        go_wp2_with (go_at_call 31; go_must (refine (put_mem _ HK.out (a + k) hak x HSM.out).mono ?_; rintro e w1 ⟨rfl, hm1, hs1⟩))
        go_roundw
        case rel => exact ⟨k + 1, by go_num, by omega, by rw [HT.out, setV_snoc, HTL.out]; exact hm1, HS.out.trans hs1 fun _ _ h => h⟩
        case measure => simp [intOf] <;> omega
      · obtain rfl : k = l.length := by omega
        go_wp2
        go_ret
        have := HK.out
        rw [List.take_length] at this
        rw [HR.out]
        exact ⟨rfl, this, HS.out⟩
end Go.Proofs.Ytmpelmjhimalpaa
namespace Go.Proofs.Ytmpelmjhimalpaa
open Go.RowKit Go.Fd
theorem szB_iff (n : Int) : szB n = true ↔ n = 1 ∨ n = 2 ∨ n = 4 ∨ n = 8 := by unfold szB; rw [decide_eq_true_iff]
/-- Store: what there is behind it, and its error. -/
def storeR (V : Vw) (a : Nat) (n : Int) (x : Nat) : Vw × Int := if szB n = true then (if mayV V a n.toNat 2 = true then (setV V a (fixed x n.toNat), 0) else (V, 21)) else (V, 1)
theorem store_bad (v : Value) (w : World) (a : Nat) (n : Int) (x : Nat) (h : szB n = false) : Calls Try.prog 11 #[v, .int .u64 a, .int .i64 n, .int .u64 x] w fun e w' => e = .returned (.int .i64 1) ∧ w = w' := by
  go_enter Try.func11, Try.ntmps11
  go_wp2_with (go_at_call 30; go_must (refine (sized_any n _).mono ?_; rintro e w1 ⟨rfl, rfl⟩))
  go_ret
  exact ⟨rfl, rfl⟩
theorem load_bad (v : Value) (w : World) (a : Nat) (n : Int) (h : szB n = false) : Calls Try.prog 10 #[v, .int .u64 a, .int .i64 n] w fun e w' => e = .returned (.tuple #[.int .u64 0, .int .i64 1]) ∧ w = w' := by
  go_enter Try.func10, Try.ntmps10
  go_wp2_with (go_at_call 30; go_must (refine (sized_any n _).mono ?_; rintro e w1 ⟨rfl, rfl⟩))
  go_ret2
  exact ⟨rfl, rfl⟩
theorem bytes_bad (v : Value) (w : World) (a : Nat) (n : Int) (h : n < 0 ∨ 1048576 < n) : Calls Try.prog 9 #[v, .int .u64 a, .int .i64 n] w fun e w' => e = .returned (.tuple #[.slice none 0 0, .int .i64 1]) ∧ w = w' := by
  by_cases h1 : n < 0
  all_goals
    go_enter Try.func9, Try.ntmps9
    go_wp2
    go_ret2
    exact ⟨rfl, rfl⟩
theorem byte_of (x k : Nat) : (((UInt8.ofNat (x / 256 ^ k)).toNat : Nat) : Int) = (x : Int) / 2 ^ (8 * k) % 256 := by
  rw [u8_of, show (2 : Int) ^ (8 * k) = ((256 ^ k : Nat) : Int) by rw [show (256 : Nat) = 2 ^ 8 from rfl, ← Nat.pow_mul]; simp]
  omega
set_option maxRecDepth 100000 in
theorem store_mem {base bp : Nat} {F : Nat → Prop} {V : Vw} (w : World) (h : Mem w base bp F V) (a : Nat) (ha : a < 18446744073709551616) (n : Int) (x : Nat) :
    Calls Try.prog 11 #[ptr bp, .int .u64 a, .int .i64 n, .int .u64 x] w fun e w' => e = .returned (.int .i64 (storeR V a n x).2) ∧ Mem w' base bp F (storeR V a n x).1 ∧ Stirs F w w' := by
  cases hs : szB n with
  | false =>
    have hr : storeR V a n x = (V, 1) := by unfold storeR; rw [hs]; rfl
    rw [hr]
    exact (store_bad _ w a n x hs).mono fun e w' ⟨he, hw⟩ => ⟨he, hw ▸ h, hw ▸ Stirs.refl _ _⟩
  | true =>
  have hn := (szB_iff n).1 hs
  obtain ⟨n, rfl⟩ := Int.eq_ofNat_of_zero_le (by omega : 0 ≤ n)
  have hn8 : n ≤ 8 := by omega
  clear hn
  have HM := Lib.hid h
  have HSZ := Lib.hid (sized_any n w)
  rw [hs] at HSZ
  clear h
  cases hm : mayV V a n 2 with
  | false =>
    have HR := Lib.hid (show storeR V a n x = (V, 21) by unfold storeR; rw [if_pos hs, Int.toNat_natCast, hm]; rfl)
    clear hs
    go_enter Try.func11, Try.ntmps11
    go_wp2_with (first
      | (go_at_call 30; go_must (refine HSZ.out.mono ?_; rintro e w1 ⟨rfl, rfl⟩))
      | (go_at_call 27; go_must (refine (none_mem _ HM.out).mono ?_; rintro e w1 ⟨rfl, rfl⟩))
      | (go_at_call 28; go_must (refine (may_mem _ HM.out a n 2 ha (by omega) (by omega)).mono ?_; rintro e w1 ⟨rfl, rfl⟩)))
    go_ret
    rw [HR.out]
    exact ⟨rfl, HM.out, Stirs.refl _ _⟩
  | true =>
    have HR := Lib.hid (show storeR V a n x = (setV V a (fixed x n), 0) by unfold storeR; rw [if_pos hs, Int.toNat_natCast, if_pos hm])
    have HI := Lib.hid ((mayV_iff V a n 2).1 hm)
    clear hs
    go_enter Try.func11, Try.ntmps11
    go_wp2_with (first
      | (go_at_call 30; go_must (refine HSZ.out.mono ?_; rintro e w1 ⟨rfl, rfl⟩))
      | (go_at_call 27; go_must (refine (none_mem _ HM.out).mono ?_; rintro e w1 ⟨rfl, rfl⟩))
      | (go_at_call 28; go_must (refine (may_mem _ HM.out a n 2 ha (by omega) (by omega)).mono ?_; rintro e w1 ⟨rfl, rfl⟩)))
    clear hm
    go_loopw [25] (fun i wr => ∃ k : Nat, i = .int .i64 k ∧ k ≤ n ∧ Hid (Mem wr base bp F (setV V a (fixed x k))) ∧ Hid (Stirs F w wr)) (fun i _ => n - (intOf i).toNat)
    case atStart => exact ⟨0, rfl, Nat.zero_le _, HM.out, Stirs.refl _ _⟩
    case round =>
      obtain ⟨k, rfl, hk, HK, HS⟩ := hrel
      by_cases hlt : k < n
      · have hak : a + k < 18446744073709551616 := by rcases HI.out with h | h <;> omega
        have HSM := Lib.hid (show (findV (setV V a (fixed x k)) ((a + k) / 4096)).isSome = true by
          rw [findV_setV_some]
          rcases HI.out with h | h
          · omega
          · have := h.2 k hlt
            cases hf : findV V ((a + k) / 4096) with
            | none => rw [hf] at this; cases this
            | some x => rfl)
        have HP := Lib.hid (put_mem wr HK.out (a + k) hak (UInt8.ofNat (x / 256 ^ k)) HSM.out)
        rw [byte_of] at HP
        have HFX := Lib.hid (fixed_snoc x k)
        have HL := Lib.hid (length_fixed x k)
        go_wp2_with (go_at_call 31; go_must (refine HP.out.mono ?_; rintro e w1 ⟨rfl, hm1, hs1⟩))
        go_roundw
        case rel => exact ⟨k + 1, by go_num, by omega, by rw [HFX.out, setV_snoc, HL.out]; exact hm1, HS.out.trans hs1 fun _ _ h => h⟩
        case measure => simp [intOf] <;> omega
      · obtain rfl : k = n := by omega
        go_wp2
        go_ret
        rw [HR.out]
        exact ⟨rfl, HK.out, HS.out⟩
/-- A byte of the memory. -/
def getV (V : Vw) (a : Nat) : UInt8 := match findV V (a / 4096) with
  | some x => x.2.2[a % 4096]?.getD 0
  | none => 0
def bytesV (V : Vw) (a n : Nat) : List UInt8 := (List.range n).map fun i => getV V (a + i)
theorem bytesV_len (V : Vw) (a n : Nat) : (bytesV V a n).length = n := by simp [bytesV]
theorem bytesV_succ (V : Vw) (a n : Nat) : bytesV V a (n + 1) = bytesV V a n ++ [getV V (a + n)] := by simp [bytesV, List.range_succ]
theorem bytesV_get (V : Vw) (a n k : Nat) (h : k < n) : (bytesV V a n)[k]?.getD 0 = getV V (a + k) := by simp [bytesV, h]
theorem get_mem {base bp : Nat} {F : Nat → Prop} {V : Vw} (w : World) (h : Mem w base bp F V) (a : Nat) (ha : a < 18446744073709551616) (he : (findV V (a / 4096)).isSome = true) :
    Calls Try.prog 29 #[ptr bp, .int .u64 a] w fun e w' => e = .returned (.int .u8 (getV V a).toNat) ∧ w = w' := by
  obtain ⟨bm, L, h1, rfl, h3⟩ := h
  have hg : getV (vw L) a = match findE L (a / 4096) with | some e => e.c[a % 4096]?.getD 0 | none => 0 := by
    unfold getV
    rw [findV_vw]
    cases findE L (a / 4096) <;> rfl
  rw [findV_vw] at he
  cases hf : findE L (a / 4096) with
  | none => rw [hf] at he; cases he
  | some e0 =>
    rw [hg, hf]
    exact get_is w h1 a ha e0 hf
theorem may_some {V : Vw} {a n r : Nat} (h : mayV V a n r = true) {k : Nat} (hk : k < n) : a + n ≤ 18446744073709551616 ∧ (findV V ((a + k) / 4096)).isSome = true := by
  rcases (mayV_iff V a n r).1 h with h | ⟨h1, h2⟩
  · omega
  · refine ⟨h1, ?_⟩
    have := h2 k hk
    cases hf : findV V ((a + k) / 4096) with
    | none => rw [hf] at this; cases this
    | some x => rfl
def loadR (V : Vw) (a : Nat) (n : Int) : Nat × Int := if szB n = true then (if mayV V a n.toNat 4 = true then (numLE (bytesV V a n.toNat), 0) else (0, 21)) else (0, 1)
set_option maxRecDepth 100000 in
theorem load_mem {base bp : Nat} {F : Nat → Prop} {V : Vw} (w : World) (h : Mem w base bp F V) (a : Nat) (ha : a < 18446744073709551616) (n : Int) :
    Calls Try.prog 10 #[ptr bp, .int .u64 a, .int .i64 n] w fun e w' => e = .returned (.tuple #[.int .u64 (loadR V a n).1, .int .i64 (loadR V a n).2]) ∧ w = w' := by
  cases hs : szB n with
  | false =>
    have hr : loadR V a n = (0, 1) := by unfold loadR; rw [hs]; rfl
    rw [hr]
    exact load_bad _ w a n hs
  | true =>
  have hn := (szB_iff n).1 hs
  obtain ⟨n, rfl⟩ := Int.eq_ofNat_of_zero_le (by omega : 0 ≤ n)
  have hn8 : n ≤ 8 := by omega
  clear hn
  have HM := Lib.hid h
  have HSZ := Lib.hid (sized_any n w)
  rw [hs] at HSZ
  clear h
  cases hm : mayV V a n 4 with
  | false =>
    have HR := Lib.hid (show loadR V a n = (0, 21) by unfold loadR; rw [if_pos hs, Int.toNat_natCast, hm]; rfl)
    clear hs
    go_enter Try.func10, Try.ntmps10
    go_wp2_with (first
      | (go_at_call 30; go_must (refine HSZ.out.mono ?_; rintro e w1 ⟨rfl, rfl⟩))
      | (go_at_call 27; go_must (refine (none_mem _ HM.out).mono ?_; rintro e w1 ⟨rfl, rfl⟩))
      | (go_at_call 28; go_must (refine (may_mem _ HM.out a n 4 ha (by omega) (by omega)).mono ?_; rintro e w1 ⟨rfl, rfl⟩)))
    go_ret2
    rw [HR.out]
    exact ⟨rfl, rfl⟩
  | true =>
    have HR := Lib.hid (show loadR V a n = (numLE (bytesV V a n), 0) by unfold loadR; rw [if_pos hs, Int.toNat_natCast, if_pos hm])
    have HI := Lib.hid (fun (k : Nat) (hk : k < n) => may_some hm hk)
    clear hs
    go_enter Try.func10, Try.ntmps10
    go_wp2_with (first
      | (go_at_call 30; go_must (refine HSZ.out.mono ?_; rintro e w1 ⟨rfl, rfl⟩))
      | (go_at_call 27; go_must (refine (none_mem _ HM.out).mono ?_; rintro e w1 ⟨rfl, rfl⟩))
      | (go_at_call 28; go_must (refine (may_mem _ HM.out a n 4 ha (by omega) (by omega)).mono ?_; rintro e w1 ⟨rfl, rfl⟩)))
    clear hm
    go_loop [8, 9] (fun x i => ∃ k : Nat, k ≤ n ∧ i = .int .i64 ((k : Int) - 1) ∧ x = .int .u64 (numLE ((bytesV V a n).drop k))) (fun _ i => (intOf i + 1).toNat)
    case atStart => exact ⟨n, Nat.le_refl _, rfl, by rw [List.drop_of_length_le (by rw [bytesV_len]; exact Nat.le_refl _)]; rfl⟩
    case round =>
      obtain ⟨k, hk, rfl, rfl⟩ := hrel
      by_cases h : 0 < k
      · obtain ⟨k, rfl⟩ : ∃ j, k = j + 1 := ⟨k - 1, by omega⟩
        have hi := HI.out k (by omega)
        have hak : a + k < 18446744073709551616 := by omega
        have HG := Lib.hid (get_mem w HM.out (a + k) hak hi.2)
        have hb : numLE ((bytesV V a n).drop (k + 1)) < 256 ^ 7 := numLE_lt' _ 7 (by rw [List.length_drop, bytesV_len]; omega)
        have HB := Lib.hid (numLE_drop (bytesV V a n) k (by rw [bytesV_len]; omega))
        rw [bytesV_get V a n k (by omega)] at HB
        have HO := Lib.hid (or_byte (numLE ((bytesV V a n).drop (k + 1))) (getV V (a + k)) hb)
        have hb' : (numLE ((bytesV V a n).drop (k + 1)) : Int) < 72057594037927936 := by omega
        have hu := (getV V (a + k)).toNat_lt
        clear hi hb
        generalize numLE ((bytesV V a n).drop (k + 1)) = m at *
        generalize getV V (a + k) = c at *
        go_wp2_with (go_at_call 29; go_must (refine HG.out.mono ?_; rintro e w1 ⟨rfl, rfl⟩))
        go_round
        case rel => exact ⟨k, by omega, by go_num, by rw [HB.out, ← HO.out]⟩
        case measure => simp [intOf] <;> omega
      · obtain rfl : k = 0 := by omega
        go_wp2
        go_ret2
        rw [HR.out]
        exact ⟨rfl, rfl⟩
def bytesR (V : Vw) (a : Nat) (n : Int) : List UInt8 × Int := if n < 0 ∨ 1048576 < n then ([], 1) else if mayV V a n.toNat 4 = true then (bytesV V a n.toNat, 0) else ([], 21)
theorem set_fill (A : List UInt8) (k n : Nat) (h : k < n) (hA : A.length = k) (x : UInt8) : (A ++ List.replicate (n - k) 0).set k x = A ++ [x] ++ List.replicate (n - (k + 1)) 0 := by
  subst hA
  rw [List.set_append_right _ _ (Nat.le_refl _), Nat.sub_self, show n - A.length = (n - (A.length + 1)) + 1 by omega, List.replicate_succ, List.set_cons_zero, List.append_assoc]
  rfl
set_option maxRecDepth 100000 in
theorem bytes_mem {base bp : Nat} {F : Nat → Prop} {V : Vw} (w : World) (h : Mem w base bp F V) (a : Nat) (ha : a < 18446744073709551616) (n : Int) :
    Calls Try.prog 9 #[ptr bp, .int .u64 a, .int .i64 n] w fun e w' => ∃ v, e = .returned (.tuple #[v, .int .i64 (bytesR V a n).2]) ∧ OB w' w.heap.size v (bytesR V a n).1 ∧ Below w.heap.size w w' := by
  by_cases hbad : n < 0 ∨ 1048576 < n
  · have hr : bytesR V a n = ([], 1) := by unfold bytesR; rw [if_pos hbad]
    rw [hr]
    exact (bytes_bad _ w a n hbad).mono fun e w' ⟨he, hw⟩ => ⟨_, he, OB.nil _ _, hw ▸ Below.refl _ _⟩
  obtain ⟨n, rfl⟩ := Int.eq_ofNat_of_zero_le (by omega : 0 ≤ n)
  have hn : n ≤ 1048576 := by omega
  have HM := Lib.hid h
  clear h
  cases hm : mayV V a n 4 with
  | false =>
    have HR := Lib.hid (show bytesR V a n = ([], 21) by unfold bytesR; rw [if_neg hbad, Int.toNat_natCast, hm]; rfl)
    clear hbad
    go_enter Try.func9, Try.ntmps9
    go_wp2_with (first
      | (go_at_call 27; go_must (refine (none_mem _ HM.out).mono ?_; rintro e w1 ⟨rfl, rfl⟩))
      | (go_at_call 28; go_must (refine (may_mem _ HM.out a n 4 ha (by omega) (by omega)).mono ?_; rintro e w1 ⟨rfl, rfl⟩)))
    go_ret2
    rw [HR.out]
    exact ⟨_, rfl, OB.nil _ _, Below.refl _ _⟩
  | true =>
    have HR := Lib.hid (show bytesR V a n = (bytesV V a n, 0) by unfold bytesR; rw [if_neg hbad, Int.toNat_natCast, if_pos hm])
    have HI := Lib.hid (fun (k : Nat) (hk : k < n) => may_some hm hk)
    clear hbad
    go_enter Try.func9, Try.ntmps9
    go_wp2_with (first
      | (go_at_call 27; go_must (refine (none_mem _ HM.out).mono ?_; rintro e w1 ⟨rfl, rfl⟩))
      | (go_at_call 28; go_must (refine (may_mem _ HM.out a n 4 ha (by omega) (by omega)).mono ?_; rintro e w1 ⟨rfl, rfl⟩))
      | (with_reducible show wpList _ _ _ (⟨some 28, _, _, _, _, _⟩ :: _) _ _; go_must (refine wpList_makeB n rfl rfl rfl rfl (by omega) ?_; intro v1 w1 hv1 hb1; obtain ⟨m, ad, cap, hmn, rfl, _, _⟩ := hv1.shape)))
    have hmn' : m = n := by have := hmn.out; rw [List.length_replicate] at this; exact this
    subst hmn'
    clear hm
    have HV1 := Lib.hid hv1
    clear hv1
    go_loopw [31] (fun i wr => ∃ k : Nat, i = .int .i64 k ∧ k ≤ m ∧ Hid (OB wr w.heap.size (.slice ad m cap) (bytesV V a k ++ List.replicate (m - k) 0)) ∧ Below w.heap.size w wr) (fun i _ => m - (intOf i).toNat)
    case atStart => exact ⟨0, rfl, Nat.zero_le _, by simpa [bytesV, Hid] using HV1.out, hb1⟩
    case round =>
      obtain ⟨k, rfl, hk, HK, hb⟩ := hrel
      by_cases hlt : k < m
      · have hi := HI.out k hlt
        have hak : a + k < 18446744073709551616 := by omega
        have HG := Lib.hid (get_mem wr (HM.out.mono hb) (a + k) hak hi.2)
        have HBS := Lib.hid (bytesV_succ V a k)
        have hlen : (bytesV V a k ++ List.replicate (m - k) 0).length = m := by rw [List.length_append, bytesV_len, List.length_replicate]; omega
        obtain ⟨g, cap', e1, hg0, hg1, _, _, hfz⟩ := HK.out.open (by omega)
        rw [hlen] at e1
        simp only [Value.slice.injEq, true_and] at e1
        obtain ⟨rfl, rfl⟩ := e1
        have hk1 := HK.out
        obtain ⟨v0, hc0⟩ : ∃ v0, wr.cell? ⟨g, k, none⟩ = some v0 := by
          have := HK.out.open (by omega)
          rw [hlen] at this
          obtain ⟨g', cap'', e2, _, _, _, hc, _⟩ := this
          simp only [Value.slice.injEq, true_and, Option.some.injEq, Addr.mk.injEq, and_true] at e2
          obtain ⟨rfl, rfl⟩ := e2
          exact ⟨_, hc k hlt⟩
        have hf0 := hfz k
        have HLEN := Lib.hid hlen
        clear hlen hfz hk1 hi
        generalize hc : getV V (a + k) = c at *
        clear hc
        go_wp2_with (go_at_call 29; go_must (refine HG.out.mono ?_; rintro e w1 ⟨rfl, rfl⟩))
        go_roundw
        case rel =>
          refine ⟨k + 1, by go_num, by omega, ?_, hb.setCell hg0 _⟩
          have h2 := OB.stored (l := bytesV V a k ++ List.replicate (m - k) 0) (w := wr) (base := w.heap.size) (g := g) (cap := cap) (by rw [HLEN.out]; exact HK.out) k c
          rw [HLEN.out, set_fill _ _ _ hlt (bytesV_len V a k), ← HBS.out] at h2
          exact h2
        case measure => simp [intOf] <;> omega
      · obtain rfl : k = m := by omega
        go_wp2
        go_ret2
        rw [HR.out]
        have := HK.out
        rw [Nat.sub_self, List.replicate_zero, List.append_nil] at this
        exact ⟨_, rfl, this, hb⟩
end Go.Proofs.Ytmpelmjhimalpaa
namespace Go.Proofs.Ytmpelmjhimalpaa
open Go.RowKit Go.Fd
/-- How many of the next n bytes may be executed. -/
def fetchK (V : Vw) (a : Nat) : Nat → Nat
  | 0 => 0
  | n + 1 => if fetchK V a n = n ∧ a + n < 18446744073709551616 ∧ mayV V (a + n) 1 1 = true then n + 1 else fetchK V a n
theorem fetchK_le (V : Vw) (a n : Nat) : fetchK V a n ≤ n := by
  induction n with
  | zero => exact Nat.le_refl _
  | succ n ih => rw [fetchK]; split <;> omega
theorem fetchK_stop {V : Vw} {a k : Nat} (h : fetchK V a k = k) (hs : ¬ (a + k < 18446744073709551616 ∧ mayV V (a + k) 1 1 = true)) : ∀ n, k ≤ n → fetchK V a n = k := by
  intro n hn
  induction n with
  | zero => rw [show k = 0 by omega]; rfl
  | succ n ih =>
    by_cases hk : k = n + 1
    · rw [← hk]; exact h
    · have := ih (by omega)
      rw [fetchK, this]
      rw [if_neg]
      rintro ⟨e, h1, h2⟩
      subst e
      exact hs ⟨h1, h2⟩
def fetchR (V : Vw) (a : Nat) (n : Int) : List UInt8 × Int := if n < 1 ∨ 16 < n then ([], 1) else if fetchK V a n.toNat = 0 then ([], 21) else (bytesV V a (fetchK V a n.toNat), 0)
set_option maxRecDepth 100000 in
theorem fetch_mem {base bp : Nat} {F : Nat → Prop} {V : Vw} (w : World) (h : Mem w base bp F V) (a : Nat) (ha : a < 18446744073709551616) (n : Int) :
    Calls Try.prog 40 #[ptr bp, .int .u64 a, .int .i64 n] w fun e w' => ∃ v, e = .returned (.tuple #[v, .int .i64 (fetchR V a n).2]) ∧ OB w' w.heap.size v (fetchR V a n).1 ∧ Below w.heap.size w w' := by
  by_cases hbad : n < 1 ∨ 16 < n
  · have HR := Lib.hid (show fetchR V a n = ([], 1) by unfold fetchR; rw [if_pos hbad])
    rcases hbad with hbad | hbad
    all_goals
      go_enter Try.func40, Try.ntmps40
      go_wp2
      go_ret2
      rw [HR.out]
      exact ⟨_, rfl, OB.nil _ _, Below.refl _ _⟩
  obtain ⟨n, rfl⟩ := Int.eq_ofNat_of_zero_le (by omega : 0 ≤ n)
  have hn : n ≤ 16 := by omega
  have hn1 : 1 ≤ n := by omega
  have HM := Lib.hid h
  have HR := Lib.hid (show fetchR V a n = if fetchK V a n = 0 then ([], 21) else (bytesV V a (fetchK V a n), 0) by unfold fetchR; rw [if_neg hbad, Int.toNat_natCast])
  clear h hbad
  go_enter Try.func40, Try.ntmps40
  go_wp2
  go_loopw [8, 18] (fun v i wr => ∃ k : Nat, i = .int .u64 k ∧ k ≤ n ∧ Hid (fetchK V a k = k) ∧ Hid (OB wr w.heap.size v (bytesV V a k)) ∧ Below w.heap.size w wr) (fun _ i _ => n - (intOf i).toNat)
  case atStart => exact ⟨0, rfl, Nat.zero_le _, rfl, OB.nil _ _, Below.refl _ _⟩
  case round =>
    obtain ⟨k, rfl, hk, HF, HO, hb⟩ := hrel
    have HMR := Lib.hid (HM.out.mono hb)
    obtain ⟨m, ad, cap, hm, rfl, _, _⟩ := HO.out.shape
    have HK0 := Lib.hid (show bytesV V a 0 = [] from rfl)
    have hmk : m = k := by have := hm.out; rw [bytesV_len] at this; exact this
    subst hmk
    clear hm
    by_cases hlt : m < n
    · have d0 : decide ((m : Int) < (n : Int)) = true := by simp; omega
      have hstop : ∀ (_ : ¬ (a + m < 18446744073709551616 ∧ mayV V (a + m) 1 1 = true)), fetchR V a n = if m = 0 then ([], 21) else (bytesV V a m, 0) := fun hs => by rw [HR.out, fetchK_stop HF.out hs n hk]
      by_cases hw : a + m < 18446744073709551616
      · have d1 : decide ((a : Int) + (m : Int) < (a : Int)) = false := by simp; omega
        have HMAY := Lib.hid (may_mem wr HMR.out (a + m) 1 1 hw (by omega) (by omega))
        cases hmay : mayV V (a + m) 1 1 with
        | false =>
          have HS := Lib.hid (hstop (by rintro ⟨-, h⟩; rw [hmay] at h; cases h))
          rw [hmay] at HMAY
          clear hstop HR HMR
          by_cases h0 : m = 0
          · subst h0
            go_wp2_with (go_at_call 28; go_must (refine HMAY.out.mono ?_; rintro e w1 ⟨rfl, rfl⟩))
            go_ret2
            rw [HS.out]
            exact ⟨_, rfl, OB.nil _ _, hb⟩
          · have d2 : ((m : Int) == 0) = false := by simpa using h0
            go_wp2_with (go_at_call 28; go_must (refine HMAY.out.mono ?_; rintro e w1 ⟨rfl, rfl⟩))
            go_ret2
            rw [HS.out, if_neg h0]
            exact ⟨_, rfl, HO.out, hb⟩
        | true =>
          have HG := Lib.hid (get_mem wr HMR.out (a + m) hw (may_some (k := 0) hmay (by omega)).2)
          rw [hmay] at HMAY
          have HNF := Lib.hid (show fetchK V a (m + 1) = m + 1 by rw [fetchK, if_pos ⟨HF.out, hw, hmay⟩])
          have HBS := Lib.hid (bytesV_succ V a m)
          generalize hc : getV V (a + m) = c at *
          clear hstop hmay hc
          go_wp2_with (first
            | (go_at_call 28; go_must (refine HMAY.out.mono ?_; rintro e w1 ⟨rfl, rfl⟩))
            | (go_at_call 29; go_must (refine HG.out.mono ?_; rintro e w1 ⟨rfl, rfl⟩))
            | (at_builtin; go_must (refine wpList_pushB HO.out rfl rfl c rfl (by rw [bytesV_len]; omega) hb.size ?_; intro v1 w1 hown1 _ hb1)))
          go_roundw
          case rel => exact ⟨m + 1, by go_num, by omega, HNF.out, by rw [HBS.out]; exact hown1, hb.trans hb1⟩
          case measure => simp [intOf] <;> omega
      · have d1 : decide (IntKind.u64.wrap ((a : Int) + (m : Int)) < (a : Int)) = true := by rw [IntKind.wrap_u64]; simp; omega
        have HS := Lib.hid (hstop (by rintro ⟨h, -⟩; exact hw h))
        have h0 : ¬ m = 0 := by omega
        have d2 : ((m : Int) == 0) = false := by simpa using h0
        clear hstop HR HMR
        go_wp2
        go_ret2
        rw [HS.out, if_neg h0]
        exact ⟨_, rfl, HO.out, hb⟩
    · obtain rfl : m = n := by omega
      have h0 : ¬ m = 0 := by omega
      have d2 : ((m : Int) == 0) = false := by simpa using h0
      have HS := Lib.hid (show fetchR V a m = (bytesV V a m, 0) by rw [HR.out, HF.out, if_neg h0])
      clear HR
      go_wp2
      go_ret2
      rw [HS.out]
      exact ⟨_, rfl, HO.out, hb⟩
end Go.Proofs.Ytmpelmjhimalpaa
namespace Go.Fd
open Go.RowKit
section
variable {α : Type} {mk : α → Value} {e : TypeId} {w w' : World} {base : Nat} {v : Value} {l : List α}
end
section
variable {P : Program} {ops : Array Oper} {rest : List Oper} {Q : Exit → Act → World → Prop} {a : Act} {w : World} {α : Type} {mk : α → Value} {e : TypeId}
end
/-- Rows of unlike elements lie in unlike blocks. -/
theorem own_apart {w : World} {b1 b2 e1 e2 s1 s2 n1 n2 : Nat} {v1 v2 : Value} {xs1 xs2 : List Value} (h1 : w.ownsRow b1 e1 s1 v1 n1 xs1) (h2 : w.ownsRow b2 e2 s2 v2 n2 xs2) (hne : e1 ≠ e2) {k : Nat} (hk : v1.ownBlock = some k) : v2.ownBlock ≠ some k := by
  intro hk2
  rcases h1.2 with ⟨rfl, _⟩ | ⟨g1, c1, u1, rfl, _, hg1, _⟩
  · cases hk
  rcases h2.2 with ⟨rfl, _⟩ | ⟨g2, c2, u2, rfl, _, hg2, _⟩
  · cases hk2
  simp only [Value.ownBlock, Option.some.injEq] at hk hk2
  subst hk hk2
  rw [hg1] at hg2
  simp at hg2
  exact hne hg2.2
end Go.Fd
namespace Go.Proofs.Ytmpelmjhimalpaa
open Go.RowKit Go.Fd
end Go.Proofs.Ytmpelmjhimalpaa
namespace Go.Fd
open Go.RowKit
/-- v reads as the list l, k cells an element. -/
def RdR {α : Type} (k : Nat) (enc : α → List Value) (w : World) (v : Value) (l : List α) : Prop := Reads w k v l.length (l.flatMap enc)
/-- v owns the list l. -/
def OwR {α : Type} (k : Nat) (enc : α → List Value) (e : TypeId) (w : World) (base : Nat) (v : Value) (l : List α) : Prop := w.ownsRow base e k v l.length (l.flatMap enc)
theorem flat_len {α : Type} {k : Nat} {enc : α → List Value} (hk : ∀ x, (enc x).length = k) (l : List α) : (l.flatMap enc).length = l.length * k := by
  induction l with
  | nil => simp
  | cons x l ih => rw [List.flatMap_cons, List.length_append, ih, hk, List.length_cons, Nat.succ_mul]; omega
theorem flat_get {α : Type} {k : Nat} {enc : α → List Value} (hk : ∀ x, (enc x).length = k) : ∀ (l : List α) (i c : Nat) (x : α), l[i]? = some x → c < k → (l.flatMap enc)[i * k + c]? = (enc x)[c]? := by
  intro l
  induction l with
  | nil => intro i c x h; simp at h
  | cons y l ih =>
    intro i c x h hc
    rw [List.flatMap_cons]
    cases i with
    | zero =>
      simp at h
      subst h
      rw [Nat.zero_mul, Nat.zero_add, List.getElem?_append_left (by rw [hk]; exact hc)]
    | succ i =>
      have e : (i + 1) * k + c - (enc y).length = i * k + c := by rw [hk, Nat.succ_mul]; omega
      rw [List.getElem?_append_right (by rw [hk, Nat.succ_mul]; omega), e]
      exact ih i c x (by simpa using h) hc
section
variable {α : Type} {k : Nat} {enc : α → List Value} {e : TypeId} {w w' : World} {base : Nat} {v : Value} {l : List α}
theorem OwR.rd (h : OwR k enc e w base v l) : RdR k enc w v l := Reads.of_owns h
theorem OwR.nil (k : Nat) (enc : α → List Value) (e : TypeId) (w : World) (base : Nat) : OwR k enc e w base (.slice none 0 0) [] := World.ownsRow_nil _ _ _ _
theorem RdR.nil (k : Nat) (enc : α → List Value) (w : World) : RdR k enc w (.slice none 0 0) [] := Reads.nil w k
theorem RdR.mono (h : RdR k enc w v l) (hb : Below w.heap.size w w') : RdR k enc w' v l := Reads.mono h hb
theorem OwR.mono (h : OwR k enc e w base v l) (hb : Below w.heap.size w w') : OwR k enc e w' base v l := owns_mono h hb
theorem RdR.shape (h : RdR k enc w v l) : ∃ m a cap, Hid (m = l.length) ∧ v = .slice a m cap ∧ m ≤ cap ∧ (a = none → cap = 0) := Reads.shape h
theorem OwR.shape (h : OwR k enc e w base v l) : ∃ m a cap, Hid (m = l.length) ∧ v = .slice a m cap ∧ m ≤ cap ∧ (a = none → cap = 0) := h.rd.shape
/-- Opened: the cells of the record at a place. -/
theorem RdR.open (h : RdR k enc w v l) (hk : ∀ x, (enc x).length = k) : ∃ a cap, v = .slice a l.length cap ∧ l.length ≤ cap ∧ (a = none → cap = 0) ∧
    ∀ i x, l[i]? = some x → 0 < k → ∃ b off, a = some ⟨b, off, none⟩ ∧ ∀ c, c < k → w.cell? ⟨b, off + (i * k + c), none⟩ = (enc x)[c]? := by
  obtain ⟨h1, a, cap, h2, h3, h0, h4⟩ := h
  refine ⟨a, cap, h2, h3, h0, fun i x hi hk0 => ?_⟩
  have hlt := (List.getElem?_eq_some_iff.1 hi).1
  have hin : ∀ c, c < k → i * k + c < (l.flatMap enc).length := fun c hc => by
    rw [flat_len hk]
    have : (i + 1) * k ≤ l.length * k := Nat.mul_le_mul_right k hlt
    rw [Nat.succ_mul] at this
    omega
  obtain ⟨b, off, e1, -⟩ := h4 (i * k + 0) (hin 0 hk0)
  refine ⟨b, off, e1, fun c hc => ?_⟩
  obtain ⟨b', off', e2, e3⟩ := h4 (i * k + c) (hin c hc)
  rw [e1] at e2
  cases e2
  rw [e3]
  exact flat_get hk l i c x hi hc
end
section
variable {P : Program} {ops : Array Oper} {rest : List Oper} {Q : Exit → Act → World → Prop} {a : Act} {w : World} {α : Type} {k : Nat} {enc : α → List Value} {e : TypeId}
/-- 'v = append(v, x)', x a record. -/
theorem wpList_pushR {t bytes : Nat} (T : SliceT P t e k bytes) {d : Option Tmp} {ty : TypeId} {pos : String} {aft : Array Edge} {s x : Operand} {v : Value} {base : Nat} {l : List α} (hown : OwR k enc e w base v l)
    (hs : a.eval s = v) (hx : a.eval x = .slice (some ⟨w.heap.size, 0, none⟩) 1 1) {cs : Array Value} (c : α) (hc : cs.toList = enc c) (hk : cs.size = k) (h1 : cs.toList.all (·.oneCell') = true)
    (hn : (l.length + 1) * bytes ≤ 140737488355328) (hm : l.length + 1 ≤ 140737488355328) (hb : base ≤ w.heap.size)
    (h : ∀ v' w', OwR k enc e w' base v' (l ++ [c]) → w.grownBy w' v.ownBlock → Below base w w' → wpList P ops Q rest (a.put d v') w') :
    wpList P ops Q (⟨d, .call { callee := .builtin .append, args := #[s, x], argTypes := #[t, t] }, ty, pos, aft, none⟩ :: rest) a (w.alloc (.cells cs e)) := by
  refine wpList_push T hown hs hx hk h1 hn hm hb fun v' w' h1 h2 h3 => h v' w' ?_ h2 h3
  unfold OwR
  rw [List.length_append, List.flatMap_append, List.flatMap_singleton, ← hc]
  exact h1
end
end Go.Fd
namespace Go.Fd
open Go.RowKit
/-- o depends on operation j. -/
def depB (o : Oper) (j : Nat) : Bool := o.after.any fun e => e.on == j && Region.binds .any e
/-- Slot t holds, when operation i is run, what it held ahead of the region. -/
def oldB (l : List Oper) (i t : Nat) : Bool := l.zipIdx.all fun (o, k) => o.dst != some t || k == i || depB o i
/-- Each operation has a slot of its own, below n, and depends on earlier ones alone. -/
def persB (l : List Oper) (n : Nat) : Bool :=
  l.zipIdx.all fun (o, k) => (match o.dst with | some d => decide (d < n) | none => false) && o.after.all (fun e => !Region.binds .any e || decide (e.on < k)) && l.zipIdx.all fun (o', k') => k == k' || o.dst != o'.dst
def putAll (vs : Nat → Value) : Nat → List Oper → Act → Act
  | _, [], a => a
  | k, o :: r, a => putAll vs (k + 1) r (a.put o.dst (vs k))
theorem put_size (a : Act) (d : Option Tmp) (v : Value) : (a.put d v).tmps.size = a.tmps.size := by cases d <;> simp [Act.put]
theorem put_defers (a : Act) (d : Option Tmp) (v : Value) : (a.put d v).defers = a.defers := by cases d <;> rfl
theorem put_get_ne (a : Act) (d : Option Tmp) (v : Value) (t : Nat) (h : d ≠ some t) : (a.put d v).eval (.tmp t) = a.eval (.tmp t) := by
  cases d with
  | none => rfl
  | some d =>
    have hne : d ≠ t := fun e => h (by rw [e])
    simp [Act.put, Act.eval, Array.getD_eq_getD_getElem?, hne]
theorem put_get_eq (a : Act) (d : Nat) (v : Value) (h : d < a.tmps.size) : (a.put (some d) v).eval (.tmp d) = v := by
  simp [Act.put, Act.eval, Array.getD_eq_getD_getElem?, h]
theorem act_ext {a b : Act} (h1 : a.tmps.size = b.tmps.size) (h2 : a.defers = b.defers) (h3 : ∀ t, a.eval (.tmp t) = b.eval (.tmp t)) : a = b := by
  cases a with
  | mk at_ ad =>
    cases b with
    | mk bt bd =>
      simp only at h1 h2
      subst h2
      congr 1
      apply Array.ext h1
      intro i hi1 hi2
      have := h3 i
      simpa [Act.eval, Array.getD_eq_getD_getElem?, Array.getElem?_eq_getElem hi1, Array.getElem?_eq_getElem hi2] using this
theorem putAll_size (vs : Nat → Value) : ∀ (k : Nat) (l : List Oper) (a : Act), (putAll vs k l a).tmps.size = a.tmps.size
  | _, [], _ => rfl
  | k, o :: r, a => by rw [putAll, putAll_size, put_size]
theorem putAll_defers (vs : Nat → Value) : ∀ (k : Nat) (l : List Oper) (a : Act), (putAll vs k l a).defers = a.defers
  | _, [], _ => rfl
  | k, o :: r, a => by rw [putAll, putAll_defers, put_defers]
theorem putAll_old (vs : Nat → Value) (t : Nat) : ∀ (k : Nat) (l : List Oper) (a : Act), (∀ o ∈ l, o.dst ≠ some t) → (putAll vs k l a).eval (.tmp t) = a.eval (.tmp t)
  | _, [], _, _ => rfl
  | k, o :: r, a, h => by rw [putAll, putAll_old vs t (k + 1) r _ (fun o ho => h o (by simp [ho])), put_get_ne _ _ _ _ (h o (by simp))]
theorem putAll_new (vs : Nat → Value) (t : Nat) : ∀ (k : Nat) (l : List Oper) (a : Act) (j : Nat) (o : Oper), l[j]? = some o → o.dst = some t → t < a.tmps.size → (∀ j' o', l[j']? = some o' → o'.dst = some t → j' = j) →
    (putAll vs k l a).eval (.tmp t) = vs (k + j)
  | _, [], _, _, _, h, _, _, _ => by simp at h
  | k, x :: r, a, 0, o, h, hd, hs, hu => by
    simp at h; subst h
    rw [putAll, putAll_old vs t (k + 1) r]
    · rw [hd]; exact put_get_eq _ _ _ hs
    · intro o' ho' e
      obtain ⟨j', hj'⟩ := List.getElem?_of_mem ho'
      have := hu (j' + 1) o' (by simpa using hj') e
      omega
  | k, x :: r, a, j + 1, o, h, hd, hs, hu => by
    rw [putAll, putAll_new vs t (k + 1) r _ j o (by simpa using h) hd (by rw [put_size]; exact hs) (fun j' o' h1 h2 => by have := hu (j' + 1) o' (by simpa using h1) h2; omega)]
    congr 1; omega
theorem persB_spec {l : List Oper} {n : Nat} (h : persB l n = true) {k : Nat} {o : Oper} (ho : l[k]? = some o) :
    (∃ d, o.dst = some d ∧ d < n) ∧ (∀ e ∈ o.after, Region.binds .any e = true → e.on < k) ∧ ∀ k' o', l[k']? = some o' → k' ≠ k → o'.dst ≠ o.dst := by
  unfold persB at h
  rw [List.all_eq_true] at h
  have hm : (o, k) ∈ l.zipIdx := by rw [List.mem_zipIdx_iff_getElem?]; exact ho
  have := h _ hm
  simp only [Bool.and_eq_true, Array.all_eq_true_iff_forall_mem, List.all_eq_true, Bool.or_eq_true, decide_eq_true_eq, Bool.not_eq_true'] at this
  obtain ⟨⟨h1, h2⟩, h3⟩ := this
  refine ⟨?_, fun e he hb => ?_, fun k' o' ho' hne he => ?_⟩
  · cases hd : o.dst with
    | none => rw [hd] at h1; simp at h1
    | some d => rw [hd] at h1; exact ⟨d, rfl, by simpa using h1⟩
  · rcases h2 e he with h | h
    · rw [hb] at h; cases h
    · exact h
  · have hm' : (o', k') ∈ l.zipIdx := by rw [List.mem_zipIdx_iff_getElem?]; exact ho'
    have := h3 _ hm'
    simp only [beq_iff_eq, bne_iff_ne, ne_eq] at this
    rcases this with h | h
    · exact hne h.symm
    · exact h he.symm
theorem depB_of {o : Oper} {j : Nat} (h : depB o j = true) : ∃ e ∈ o.after, e.on = j ∧ Region.binds .any e = true := by
  unfold depB at h
  rw [Array.any_eq_true'] at h
  obtain ⟨e, he, h⟩ := h
  simp only [Bool.and_eq_true, beq_iff_eq] at h
  exact ⟨e, he, h.1, h.2⟩
section
variable {P : Program} {l : List Oper} {V : Nat → Value → World → Prop} {a0 : Act} {w0 : World}
theorem getD_lt {listed : Array Bool} {i : Nat} (h : i < listed.size) : listed.getD i true = listed.getD i false := by
  simp [Array.getD_eq_getD_getElem?, Array.getElem?_eq_getElem h]
theorem getD_set_true' {listed : Array Bool} {i j : Nat} (h : listed.getD j true = true) : (listed.setIfInBounds i true).getD j true = true := by
  by_cases hij : i = j
  · subst hij
    by_cases hi : i < listed.size
    · simp [Array.getD_eq_getD_getElem?, hi]
    · simp [Array.getD_eq_getD_getElem?, hi]
  · rw [getD_set_ne _ hij]; exact h
theorem getD_set_self {listed : Array Bool} {i : Nat} (d : Bool) (h : i < listed.size) : (listed.setIfInBounds i true).getD i d = true := by
  simp [Array.getD_eq_getD_getElem?, h]
end
/-! ### One operation -/
section
variable {P : Program} {l : List Oper} {o : Oper} {a : Act} {w : World} {R : Value → World → Prop}
end
section
variable {P : Program} {l : List Oper} {a : Act} {w : World} {d : Option Tmp} {ty : TypeId} {pos : String} {aft : Array Edge} {g : Option (Nat × Bool)}
theorem run_call {f : FuncId} {fn : Func} {args : Array Operand} {ts : Array TypeId} {vals : Array Value} (hf : P.funcs[f]? = some fn) (hn : (fn.name == "runtime.NumGoroutine") = false) {c : Code} (hb : fn.body = some c) (hx : args.map a.eval = vals) :
    (execOp a.eval ⟨d, .call { callee := .value (.func f), args := args, argTypes := ts }, ty, pos, aft, g⟩).run P w = .ok (.enter f vals) w := by
  have h1 : fn.name ≠ "runtime.NumGoroutine" := by simpa using hn
  have hc : (callFunc f vals).run P w = .ok (.enter f vals) w := by
    simp [callFunc, hf, h1, hb]
  simp only [execOp, resolve, hx]
  show Sem.run P (do let d ← Deferred.ofValue (Value.func (.func f) #[] #[]) vals; invoke d.target d.args) w = _
  simp [Deferred.ofValue, invoke, hc]
end
end Go.Fd
namespace Go.Proofs.Ytmpelmjhimalpaa
open Go.RowKit Go.Fd
theorem below_drewN {B : Nat} {a w : World} (h : Below B a w) (n : Nat) : Below B a (w.drewN n) := ⟨h.os, h.tape, h.output, h.size, h.block⟩
end Go.Proofs.Ytmpelmjhimalpaa
namespace Go.Proofs.Ytmpelmjhimalpaa
open Go.RowKit Go.Fd
theorem _root_.Go.RowKit.Below.drewN {B : Nat} {a w : World} (h : Below B a w) (n : Nat) : Below B a (w.drewN n) := ⟨h.os, h.tape, h.output, h.size, h.block⟩
end Go.Proofs.Ytmpelmjhimalpaa
namespace Go.Proofs.Ytmpelmjhimalpaa
open Go.RowKit Go.Fd
/-- A twin: bytes in memory of their own, a mark behind. -/
def Twined (w : World) (base : Nat) (t : Value) (l : List UInt8) : Prop := ∃ g cap, t = .slice (some ⟨g, 0, none⟩) l.length cap ∧ l.length < cap ∧ base ≤ g ∧ OB w base (.slice (some ⟨g, 0, none⟩) (l.length + 1) cap) (l ++ [0x5a])
theorem Twined.bs {w : World} {base : Nat} {t : Value} {l : List UInt8} (h : Twined w base t l) : Bs w t l := by
  obtain ⟨g, cap, rfl, h2, h3, h4⟩ := h
  refine ⟨by simp, _, _, rfl, by omega, (fun h => by cases h), fun j hj => ⟨g, 0, rfl, ?_⟩⟩
  have := World.ownsRow.cellAt (g := g) (cap := cap) (n := (l ++ [0x5a]).length) (by simpa [OB] using h4) j (by simp at hj ⊢; omega)
  rw [Nat.zero_add, this]
  exact List.getElem?_append_left (by simpa using hj)
set_option maxRecDepth 100000 in
theorem twin_any (l : List UInt8) (v : Value) (w : World) (hl : l.length ≤ 1000000000) (hv : Bs w v l) :
    Calls Try.prog 34 #[v] w fun e w' => ∃ t, e = .returned t ∧ Twined w' w.heap.size t l ∧ Below w.heap.size w w' := by
  obtain ⟨m, a, cap, hm, rfl, hmc, _⟩ := hv.shape
  go_enter Try.func34, Try.ntmps34
  go_wp2_with (first
    | (with_reducible show wpList _ _ _ (⟨some 4, _, _, _, _, _⟩ :: _) _ _; go_must (refine wpList_catB (OB.nil _ w.heap.size) hv rfl rfl (by simp; omega) (Nat.le_refl _) ?_; intro v1 w1 hv1 _ hb1))
    | (with_reducible show wpList _ _ _ (⟨some 6, _, _, _, _, _⟩ :: _) _ _; go_must (refine wpList_pushB hv1 rfl rfl 0x5a rfl (by simp; omega) hb1.size ?_; intro v2 w2 hv2 _ hb2; obtain ⟨g, cap2, rfl, hg, _, hc2, _, _⟩ := hv2.open (by simp)))
    | (with_reducible show wpList _ _ _ (⟨some 9, _, _, _, _, _⟩ :: _) _ _; go_must (refine wpList_val rfl (exec_sliceTo (v' := .slice (some ⟨g, 0, none⟩) m cap2) (run_sliceTo_own g _ cap2 m (by have := hm.out; simp at hc2; omega)) rfl rfl) ?_)))
  go_ret
  have hm' := hm.out
  subst hm'
  simp at hc2 hv2
  exact ⟨_, rfl, ⟨g, cap2, rfl, by omega, hg, hv2⟩, hb1.trans hb2⟩
theorem ob_push {w : World} {base g k cap : Nat} {r : List UInt8} (hk : k = r.length) (c : UInt8) (h : w.ownsRow base 5 1 (.slice (some ⟨g, 0, none⟩) (k + 1) cap) (k + 1) (r.map B ++ [B c])) : OB w base (.slice (some ⟨g, 0, none⟩) (k + 1) cap) (r ++ [c]) := by
  subst hk
  unfold OB
  simpa using h
set_option maxHeartbeats 1000000 in
set_option maxRecDepth 100000 in
theorem spoil_any (l : List UInt8) (base : Nat) (v : Value) (w : World) (hl : l.length ≤ 1000000000) (hv : OB w base v l) :
    Calls Try.prog 42 #[v] w fun e w' => e = .returned (.tuple #[]) ∧ w.grownBy w' v.ownBlock := by
  obtain ⟨m, a, cap, hm, rfl, hmc, hnil⟩ := hv.shape
  cases a with
  | none =>
    obtain rfl := hnil rfl
    obtain rfl : m = 0 := by omega
    go_enter Try.func42, Try.ntmps42
    go_wp2
    refine wp_loop_rounds 1 ?_
    rw [rounds_succ]
    go_wp2
    refine wp_loop_rounds 1 ?_
    rw [rounds_succ]
    go_wp2
    go_end0
    exact ⟨rfl, World.grownBy.refl _ _⟩
  | some ad =>
    have hown := hv
    obtain ⟨_, h2⟩ := hown
    rcases h2 with ⟨h2, _⟩ | ⟨g, cap', cur, h2, hbg, hgw, hnc, hcm, _, _⟩
    · cases h2
    simp only [Value.slice.injEq, Option.some.injEq] at h2
    obtain ⟨rfl, rfl, rfl⟩ := h2
    unfold maxLen at hcm
    clear hm
    by_cases hmin : cap ≤ l.length + 2000
    all_goals
      go_enter Try.func42, Try.ntmps42
      go_wp2
      go_loopw [0] (fun v wr => ∃ (k : Nat) (r : List UInt8), v = .slice (some ⟨g, 0, none⟩) k cap ∧ k ≤ cap ∧ Hid (k = r.length) ∧ k ≤ 2000 + l.length ∧ OB wr base (.slice (some ⟨g, 0, none⟩) k cap) r ∧ w.grownBy wr (some g)) (fun v _ => cap - lenV v)
      case atStart => exact ⟨l.length, l, rfl, hmc, rfl, by omega, hv, World.grownBy.refl _ _⟩
      case round =>
        obtain ⟨k, r, rfl, hk, HK, hk2, hown, hg⟩ := hrel
        have HO := Lib.hid (show wr.ownsRow base 5 1 (.slice (some ⟨g, 0, none⟩) k cap) k (r.map B) by have := hown; unfold OB at this; rw [← HK.out] at this; exact this)
        have HOB := Lib.hid hown
        clear hown
        by_cases hlt : k < cap ∧ k < l.length + 2000
        · obtain ⟨hlt1, hlt2⟩ := hlt
          go_wp2_with (at_builtin; go_must (refine wpList_pushFits TB HO.out rfl rfl rfl rfl hlt1 ?_; intro w1 hw1 hg1))
          go_roundw
          case rel => exact ⟨k + 1, r ++ [0], rfl, by omega, by have := HK.out; show _ = _; simp; omega, by omega, ob_push HK.out 0 hw1, grownBy_trans hg hg1⟩
          case measure => simp [lenV] <;> omega
        · have HLT := Lib.hid hlt
          have hge : cap ≤ k ∨ l.length + 2000 ≤ k := by omega
          clear hlt
          have HGE := Lib.hid hge
          first
            | (have hx : cap ≤ k := by omega)
            | (have hx : l.length + 2000 ≤ k := by omega)
          clear hge
          go_wp2
          go_loopw [3] (fun i wr => ∃ (i' : Nat) (r : List UInt8), i = .int .i64 i' ∧ i' ≤ k ∧ Hid (k = r.length) ∧ OB wr base (.slice (some ⟨g, 0, none⟩) k cap) r ∧ w.grownBy wr (some g)) (fun i _ => k - (intOf i).toNat)
          case atStart => exact ⟨0, r, rfl, Nat.zero_le _, HK, HOB.out, hg⟩
          case round =>
            obtain ⟨i, r2, rfl, hi, HK2, hown2, hg2⟩ := hrel
            by_cases hlt2 : i < k
            · have hr2 := HK2.out
              obtain ⟨g', cap', e1, _, _, _, hcell, hfz⟩ := hown2.open (by omega)
              simp only [Value.slice.injEq, Option.some.injEq, Addr.mk.injEq, and_true] at e1
              obtain ⟨rfl, _, rfl⟩ := e1
              have hci := hcell i (by omega)
              have hfi := hfz i
              have HO2 := Lib.hid hown2
              clear hcell hfz hown2 hr2
              go_wp2
              go_roundw
              case rel => exact ⟨i + 1, r2.set i 0xee, by go_num, by omega, by show _ = _; rw [List.length_set]; exact HK2.out, by have := HO2.out; rw [HK2.out] at this ⊢; exact this.stored i 0xee, grownBy_trans hg2 (grownBy_setCell _ _ _ _)⟩
              case measure => simp [intOf] <;> omega
            · go_wp2
              go_end0
              exact ⟨rfl, hg2⟩
set_option maxRecDepth 100000 in
theorem kept_any (l : List UInt8) (base : Nat) (t v : Value) (w : World) (hl : l.length ≤ 1000000000) (ht : Twined w base t l) (hv : Bs w v l) :
    Calls Try.prog 37 #[t, v] w fun e w' => e = .returned (.bool true) ∧ w = w' := by
  have hs1 := run_str ht.bs
  have hs2 := run_str hv
  obtain ⟨g, cap, rfl, h2, h3, h4⟩ := ht
  obtain ⟨m, a, cap2, hm, rfl, hmc, _⟩ := hv.shape
  have hcell : w.cell? ⟨g, m, none⟩ = some (.int .u8 90) := by
    rw [hm.out]
    have := World.ownsRow.cellAt (g := g) (cap := cap) (n := (l ++ [0x5a]).length) (by simpa [OB] using h4) l.length (by simp)
    rw [this]
    simp
  have hsl := run_sliceTo_own g l.length cap (m + 1) (by have := hm.out; omega)
  rw [show ((m + 1 : Nat) : Int) = (m : Int) + 1 by omega] at hsl
  have HSL := Lib.hid hsl
  have hmb : m ≤ 1000000000 := by have := hm.out; omega
  clear hsl h4 hv
  go_enter Try.func37, Try.ntmps37
  go_wp2_with (with_reducible show wpList _ _ _ (⟨some 15, _, _, _, _, _⟩ :: _) _ _; go_must (refine wpList_val rfl (exec_sliceTo HSL.out rfl rfl) ?_))
  go_ret
  exact ⟨rfl, rfl⟩
end Go.Proofs.Ytmpelmjhimalpaa
namespace Go.Fd
open Go.RowKit
section
variable {P : Program} {ops : Array Oper} {rest : List Oper} {Q : Exit → Act → World → Prop} {a : Act} {w : World}
/-- A whole record into the block that was made last. -/
theorem wpList_storeNew {d : Option Tmp} {ty t : TypeId} {pos : String} {aft : Array Edge} {p x : Operand} {c c' : Array Value} (hp : a.eval p = .pointer (some ⟨w.heap.size, 0, none⟩)) (hx : a.eval x = .agg c')
    (hi : (P.info? t).map (·.size) = some c'.size) (ho : c.size = c'.size) (h1 : c'.all (·.oneCell') = true)
    (h : ∀ w1, w1.heap[w.heap.size]? = some (.cells c' t (0, 0)) → Below w.heap.size w w1 → wpList P ops Q rest (a.put d undef) w1) :
    wpList P ops Q (⟨d, .store t p x, ty, pos, aft, none⟩ :: rest) a (w.alloc (.cells c t)) := by
  refine wpList_did rfl ?_ (h (w.alloc (.cells c' t)) (heap_alloc_last w _) (below_alloc w _))
  simp only [execOp, hp, hx, Sem.run_bind, run_storeAt_new w t c c' hi ho h1, Result.andThen_ok]
  rfl
theorem cell_rec {w : World} {g : Nat} {cs : Array Value} {t : TypeId} {fr : Nat × Nat} (h : w.heap[g]? = some (.cells cs t fr)) (c : Nat) : w.cell? ⟨g, c, none⟩ = cs[c]? := cell_of_row w g c cs t fr h
end
end Go.Fd
namespace Go.Proofs.Ytmpelmjhimalpaa
open Go.RowKit Go.Fd
end Go.Proofs.Ytmpelmjhimalpaa
namespace Go.Fd
open Go.RowKit
theorem RangeIs.below {P : Program} {κ : Type} {k : TypeId} {mk : κ → Value} {w w' : World} {b r : Nat} {E left : List (κ × Value)} (h : RangeIs P k mk w b r E left) (hb : Below w.heap.size w w') : RangeIs P k mk w' b r E left := by
  have h1 := h.is.lt
  have h2 := h.lt
  obtain ⟨es, clock, since, seen, c0, hb0, he, hsz, hs, hk, hr, rest⟩ := h
  exact ⟨es, clock, since, seen, c0, (hb.block b h1).trans hb0, he, hsz, hs, hk, (hb.block r h2).trans hr, rest⟩
end Go.Fd
namespace Go.Proofs.Ytmpelmjhimalpaa
open Go.RowKit Go.Fd
theorem vw_app (L M : List Ent) : vw (L ++ M) = vw L ++ vw M := List.map_append
theorem perm_take {L : List Ent} {e : Ent} (hn : (L.map (·.n)).Nodup) (he : e ∈ L) : (vw L).Perm ((e.n, e.r, e.c) :: vw (L.filter (fun x => x.n ≠ e.n))) := by
  induction L with
  | nil => cases he
  | cons x L ih =>
    simp only [List.map_cons, List.nodup_cons] at hn
    rcases List.mem_cons.1 he with rfl | he
    · rw [List.filter_cons_of_neg (by simp), List.filter_eq_self.2 (fun y hy => by
        have : y.n ≠ e.n := fun h => hn.1 (List.mem_map.2 ⟨y, hy, h⟩)
        simpa using this)]
      exact List.Perm.refl _
    · have hx : x.n ≠ e.n := fun h => hn.1 (List.mem_map.2 ⟨e, he, h.symm⟩)
      rw [List.filter_cons_of_pos (by simpa using hx)]
      have := ih hn.2 he
      show ((x.n, x.r, x.c) :: vw L).Perm ((e.n, e.r, e.c) :: (x.n, x.r, x.c) :: vw _)
      exact (this.cons _).trans (List.Perm.swap _ _ _)
/-- A page of any kind is put into the map. -/
theorem PagesIs.put {w w1 w2 : World} {base bp bm : Nat} {L : List Ent} (h : PagesIs w base bp bm L) {r : Nat} {c : List UInt8} {g : Nat} (hp : w1.heap[g]? = some (.cells (pgCells r c) 89)) (hg0 : w.heap.size ≤ g) (hw1 : Below w.heap.size w w1) (hbase : base ≤ w.heap.size) {k : Nat} (hk : k < 18446744073709551616) (hr : r < 8) (hc : c.length = 4096) (hn : k ∉ L.map (·.n))
    (hm : MapIs Try.prog 24 K64 w2 bm (putE (L.map keyE) k (ptr g))) (hg : w1.grownBy w2 (some bm)) : PagesIs w2 base bp bm (L ++ [⟨k, g, r, c⟩]) := by
  have hne : bp ≠ bm := by
    intro e
    obtain ⟨es, clock, h2, _⟩ := h.hm
    have := h.hp
    rw [e, h2] at this
    cases this
  have hlt : ∀ {b : Nat} {o : Obj}, w.heap[b]? = some o → b ≠ bm → w2.heap[b]? = some o := by
    intro b o hb hbm
    have hl := (Array.getElem?_eq_some_iff.1 hb).1
    rw [hg.block b (Nat.lt_of_lt_of_le hl hw1.size) (by simpa using hbm), hw1.block b hl]
    exact hb
  have hgm : g ≠ bm := by have := h.hm.lt; omega
  refine ⟨hlt h.hp hne, ?_, h.bp, h.bm, fun e he => ?_, ?_⟩
  · have : putE (L.map keyE) k (ptr g) = (L ++ [(⟨k, g, r, c⟩ : Ent)]).map keyE := by
      rw [putE, if_neg (by rw [List.map_map]; exact hn), List.map_append]
      rfl
    rw [← this]
    exact hm
  · rcases List.mem_append.1 he with he | he
    · obtain ⟨h1, h2⟩ := h.pg e he
      exact ⟨hlt h1 (h.ne he).2, h2⟩
    · obtain rfl := List.mem_singleton.1 he
      refine ⟨?_, hc, Nat.le_trans hbase hg0, hk, hr⟩
      rw [hg.block _ (Array.getElem?_eq_some_iff.1 hp).1 (by simpa using hgm)]
      exact hp
  · rw [List.map_append]
    refine List.nodup_append.2 ⟨h.nd, by simp, fun x hx y hy => ?_⟩
    simp at hy
    subst hy
    obtain ⟨e, he, rfl⟩ := List.mem_map.1 hx
    have := (Array.getElem?_eq_some_iff.1 (h.pg e he).1).1
    omega
/-- A page's value stored into a new block. -/
theorem wpList_allocPage {ops : Array Oper} {rest : List Oper} {Q : Exit → Act → World → Prop} {a : Act} {w : World} {d : Option Tmp} {ty : TypeId} {pos : String} {aft : Array Edge}
    (h : wpList Try.prog ops Q rest (a.put d (.pointer (some ⟨w.heap.size, 0, none⟩))) (w.alloc (.cells (pgCells 0 zs) 89))) :
    wpList Try.prog ops Q (⟨d, .alloc 89, ty, pos, aft, none⟩ :: rest) a w :=
  wpList_val rfl (by kernel_rfl) h
/-- The block of a loop over a map is none of a memory's. -/
theorem iter_ne {w : World} {base bp bm r b : Nat} {D : List Ent} {E left : List (Nat × Value)} (h : PagesIs w base bp bm D) (hr : RangeIs Try.prog 24 K64 w b r E left) {k : Nat} (hk : foot bp bm D k) : ¬ k = r := by
  rintro rfl
  obtain ⟨es, clock, since, seen, c0, _, _, _, _, _, hi, _⟩ := hr
  rcases hk with rfl | rfl | hk
  · rw [h.hp] at hi
    cases hi
  · obtain ⟨es2, clock2, h2, _⟩ := h.hm
    rw [h2] at hi
    cases hi
  · obtain ⟨e, he, rfl⟩ := List.mem_map.1 hk
    rw [(h.pg e he).1] at hi
    cases hi
theorem pgCells_size {r : Nat} {c : List UInt8} (h : c.length = 4096) : (pgCells r c).size = 4097 := by simp [pgCells, h]
theorem pgCells_all (r : Nat) (c : List UInt8) : (pgCells r c).all (·.oneCell') = true := by
  unfold pgCells
  rw [Array.all_eq_true']
  intro x hx
  simp only [List.mem_toArray, List.mem_cons, List.mem_map] at hx
  rcases hx with rfl | ⟨y, -, rfl⟩ <;> rfl
set_option maxHeartbeats 1000000 in
set_option maxRecDepth 100000 in
theorem copy_is {base bp bm : Nat} {L : List Ent} (w : World) (h : PagesIs w base bp bm L) (hL : L.length ≤ 1000000) :
    Calls Try.prog 44 #[ptr bp] w fun e w' => ∃ bp2 bm2 D, e = .returned (ptr bp2) ∧ PagesIs w' w.heap.size bp2 bm2 D ∧ (vw D).Perm (vw L) ∧ Below w.heap.size w w' := by
  have HIS := Lib.hid h
  clear h
  go_enter Try.func44, Try.ntmps44
  go_wp2_with (first
    | (go_at_call 27; go_must (refine (none_is _ HIS.out).mono ?_; rintro e w1 ⟨rfl, rfl⟩))
    | (go_at_call 16; go_must (refine (new_any _).mono ?_; rintro e w1 ⟨bp2, bm2, rfl, hp2, hb1⟩; have HP2 := Lib.hid hp2; have HI1 := Lib.hid (HIS.out.mono hb1); obtain ⟨c0, c1⟩ := HI1.out.cells; clear hp2))
    | (with_reducible show wpList _ _ _ (⟨some 14, _, _, _, _, _⟩ :: _) _ _; go_must (refine wpList_rangeM TM.ht HI1.out.hm rfl ?_; intro w0 hr0 hg0 hs0)))
  go_frame
  have HRG := Lib.hid hr0
  have HB0 := Lib.hid (below_grown hg0)
  have HP0 := Lib.hid (HP2.out.mono HB0.out)
  have HB1 := Lib.hid (hb1.trans (HB0.out.mono hb1.size))
  have hs1 := hb1.size
  clear hr0 hg0 hb1 c0 c1
  go_loopw [6] (fun _ wr => ∃ (left D : List Ent), RangeIs Try.prog 24 K64 wr bm w1.heap.size (L.map keyE) (left.map keyE) ∧ (∀ e ∈ left, e ∈ L) ∧ (left.map (·.n)).Nodup ∧ Hid (PagesIs wr w.heap.size bp2 bm2 D) ∧ Hid ((vw D ++ vw left).Perm (vw L)) ∧ Hid (∀ e ∈ D, e.n ∉ left.map (·.n)) ∧ Below w.heap.size w wr)
    (fun _ wr => wr.rangeLeft bm w1.heap.size)
  case atStart => exact ⟨L, [], HRG.out, fun _ h => h, HIS.out.nodup, HP0.out, List.Perm.refl _, (fun e he => by cases he), HB1.out⟩
  case round =>
    obtain ⟨left, D, hrg, hsub, hnd, HPD, HPM, HDL, hb⟩ := hrel
    have HRG2 := Lib.hid hrg
    have HSUB := Lib.hid hsub
    have HND := Lib.hid hnd
    have hDn : D.length ≤ 1000000 := by
      have := HPM.out.length_eq
      simp only [List.length_append, vw, List.length_map] at this
      omega
    clear hrg hsub hnd
    go_wp2_with (first
      | (at_next; go_must (refine wpList_nextM TM HRG2.out rfl ?_ ?_); intro hl0; rotate_left; intro p w2 hp hr1 hg1 hs2 hen; obtain ⟨e, he, rfl⟩ := List.mem_map.1 hp; rw [filter_keyE] at hr1; simp only [keyE] at hen hr1 ⊢; have hb2 := hb.trans (below_of_grown hg1 hb.size (fun k hk => by cases hk; exact hs1)); have HR1 := Lib.hid hr1; have HB2 := Lib.hid hb2; have HE := Lib.hid (HIS.out.mono hb2); have HEP := Lib.hid (HE.out.pg e (HSUB.out e he)); have HP2' := Lib.hid (HPD.out.stirs (Stirs.of_grown (S := (· = w1.heap.size)) hg1 (fun k hk => by cases hk; rfl)) (fun k hk => iter_ne HPD.out HRG2.out hk)); clear hp hr1 hg1 hb2)
      | ((with_reducible show wpList _ _ _ (⟨some 22, .load _ _, _, _, _, _⟩ :: _) _ _); go_must (refine wpList_load_row rfl 89 _ rfl e.blk rfl 89 (pgCells e.r e.c) (0, 0) _ HEP.out.1 rfl rfl (by rw [pgCells_size HEP.out.2.1]; kernel_rfl) ?_))
      | ((with_reducible show wpList _ _ _ (⟨some 6, .alloc _, _, _, _, _⟩ :: _) _ _); go_must (refine wpList_allocPage ?_))
      | ((with_reducible show wpList _ _ _ (⟨none, .store _ _ _, _, _, _, _⟩ :: _) _ _); go_must (refine wpList_storeNew rfl rfl (by rw [pgCells_size HEP.out.2.1]; kernel_rfl) (by rw [pgCells_size HEP.out.2.1, pgCells_size zs_len]) (pgCells_all _ _) ?_; intro w3 hx3 hb3; have HX3 := Lib.hid hx3; have HB3 := Lib.hid hb3; have HP3 := Lib.hid (HP2'.out.mono hb3); obtain ⟨c0, c1⟩ := HP3.out.cells; clear hx3 hb3))
      | (at_mapUpdate; go_must (refine wpList_storeM TM HP3.out.hm (by unfold maxLen; rw [List.length_map]; omega) (key := e.n) (key64 e.n HEP.out.2.2.2.1) rfl rfl rfl ?_; intro w4 hm4 hg4 hs4; clear c0 c1; have HM4 := Lib.hid hm4; have HG4 := Lib.hid hg4; clear hm4 hg4)))
    · have HND2 := Lib.hid ((List.filter_sublist (p := fun x => decide (x.n ≠ e.n)) (l := left)).map (·.n) |>.nodup HND.out)
      have hnew : e.n ∉ D.map (·.n) := fun h => by
        obtain ⟨x, hx, e1⟩ := List.mem_map.1 h
        exact HDL.out x hx (by rw [e1]; exact List.mem_map.2 ⟨e, he, rfl⟩)
      have hbase2 : w.heap.size ≤ w2.heap.size := HB2.out.size
      have HPN := Lib.hid (HP2'.out.put (g := wr.heap.size) (by have := HX3.out; rw [hs2] at this; exact this) (by omega) HB3.out hbase2 HEP.out.2.2.2.1 HEP.out.2.2.2.2 HEP.out.2.1 hnew HM4.out HG4.out)
      have hbm := HIS.out.hm.lt
      have hbm2 := HPD.out.bm
      have HRN := Lib.hid ((HR1.out.below HB3.out).kept HG4.out (by simp; omega) (by
        intro e1
        have e1 : w1.heap.size = bm2 := by simpa using e1
        obtain ⟨es, clock, since, seen, c0, _, _, _, _, _, hr, _⟩ := HR1.out.below HB3.out
        obtain ⟨es2, clock2, h2, _⟩ := HP3.out.hm
        rw [e1, h2] at hr
        cases hr))
      have HBN := Lib.hid ((HB2.out.trans (HB3.out.mono HB2.out.size)).trans (below_of_grown HG4.out (Nat.le_trans HB2.out.size HB3.out.size) (fun k hk => by cases hk; exact hbm2)))
      go_roundw
      case rel =>
        refine ⟨_, _, _, _, _, _, _, _, _, _, _, _, _, _, _, _, ⟨left.filter (fun x => x.n ≠ e.n), D ++ [⟨e.n, wr.heap.size, e.r, e.c⟩], HRN.out, fun x hx => HSUB.out x (List.mem_filter.1 hx).1, HND2.out, HPN, ?_, ?_, HBN.out⟩, rfl⟩
        · show (vw (D ++ _) ++ _).Perm _
          rw [vw_app, List.append_assoc]
          exact ((perm_take HND.out he).symm.append_left (vw D)).trans HPM.out
        · intro x hx
          rcases List.mem_append.1 hx with hx | hx
          · exact fun h => HDL.out x hx (((List.filter_sublist (p := fun x => decide (x.n ≠ e.n)) (l := left)).map (·.n)).subset h)
          · rw [List.mem_singleton] at hx
            subst hx
            intro h
            obtain ⟨y, hy, e1⟩ := List.mem_map.1 h
            have := (List.mem_filter.1 hy).2
            simp at this
            exact this e1
      case measure => rw [HRN.out.left_eq, HRG2.out.left_eq, List.length_map, List.length_map]; exact filter_shorter he
    · go_ret
      obtain rfl : left = [] := List.map_eq_nil_iff.1 hl0
      have := HPM.out
      rw [show vw ([] : List Ent) = [] from rfl, List.append_nil] at this
      exact ⟨bp2, bm2, D, rfl, HPD.out, this, hb⟩
end Go.Proofs.Ytmpelmjhimalpaa
namespace Go.Fd
open Go.RowKit
section
variable {P : Program} {l : List Oper} {s : Oper} {V : Nat → Value → World → Prop} {a0 : Act} {w0 : World}
theorem ready_none {listed : Array Bool} {L : List Oper} (h : ∀ i, i < L.length → listed.getD i true = true) : Region.ready .any L.toArray listed = [] := by
  rw [List.eq_nil_iff_forall_not_mem]
  intro i hi
  rw [mem_ready] at hi
  obtain ⟨h1, o, ho, _⟩ := hi
  have := h i (by have := (Array.getElem?_eq_some_iff.1 ho).1; simpa using this)
  rw [h1] at this; cases this
end
section
variable {P : Program} {a : Act} {w : World}
/-- The store of a record into the block that was made. -/
theorem wp_store_made {d : Option Tmp} {ty t : TypeId} {pos : String} {aft : Array Edge} {p x : Operand} {c c' : Array Value} {g : Nat} {K : Act → World → Prop} {Q : Exit → Act → World → Prop} {B : Nat} (hg : w.heap[g]? = some (.cells c t (0, 0))) (hp : a.eval p = .pointer (some ⟨g, 0, none⟩)) (hx : a.eval x = .agg c')
    (hi : (P.info? t).map (·.size) = some c'.size) (ho : c.size = c'.size) (h1 : c'.all (·.oneCell') = true) (hB : B ≤ g) (_hBw : B ≤ w.heap.size)
    (h : ∀ w1, w1.heap[g]? = some (.cells c' t (0, 0)) → Below B w w1 → K (a.put d undef) w1) :
    Oper.wp P ⟨d, .store t p x, ty, pos, aft, none⟩ a w K Q := by
  have hr : (execOp a.eval ⟨d, .store t p x, ty, pos, aft, none⟩).run P w = .ok .skip (w.setRow g c') := by
    simp only [execOp, hp, hx, Instr.storeAt, Instr.sureAddr, Sem.run_bind, Sem.run_pure, Result.andThen, run_storeVar_row w g t t c c' hg hi ho h1]
  unfold Oper.wp Oper.upon
  rw [hr]
  refine h _ ?_ ?_
  · simp only [World.setRow]
    rw [Array.getElem?_modify, if_pos rfl, hg]
    rfl
  · refine ⟨rfl, rfl, rfl, by simp [World.setRow], fun k hk => ?_⟩
    have : g ≠ k := by omega
    simp only [World.setRow]
    rw [Array.getElem?_modify, if_neg this]
end
end Go.Fd
