/-
  Part 1 of 6: laws and walks for resolve_all; no condition of its own.
-/
import Derived.WalkKit
import Derived.WalkSpells
import Derived.WalkLawsBesides
import Derived.Lib.Hide
import Derived.Laws.AppendOwnNone
import Derived.Test.YtnhbgijecdeahaaProg
import Derived.BigQuiet
import Derived.Deep.QuietTactic
import Derived.Lib.AppendStr
import Derived.Orders
import Derived.Lib.BytesEntry
import Derived.Shelf.Small.Bits
import Derived.Shelf.Small.Strs
import Derived.Shelf.Strconv.Itoa0
import Derived.Shelf.Strings.Search1
import Derived.Shelf.Strings.Search2
import Derived.Shelf.Strings.Search3
import Derived.Shelf.LaysM
import Derived.Shelf.Strings.Shaped
import Derived.Shelf.Sort.Plain
import Derived.Shelf.Strings.Prefix
import Derived.Shelf.Slices.Turned
import Derived.Shelf.Slices.In.SortNone
import Derived.Lib.IndexAny
import Derived.Maps.RangeWalk
import Derived.Maps.OwnSet
import Derived.Maps.OwnOps
import Derived.Lib.IndexLaws
import Derived.Lib.IndexBytes
import Derived.Laws.BitsAllLaws
import Derived.Deep.WholeRow
import Derived.Deep.RegionWith
import Derived.StillTail
import Derived.Lib.ConvBytes
import Derived.ArgAppend
import Derived.Laws.OwnMore
import Derived.Laws.Pointers
import Derived.Deep.DeepCutAuto
namespace Go.Fd
open Go.RowKit
/-- The slice value v has n elements of 'size' cells each, and its cells in w are xs. -/
def Reads (w : World) (size : Nat) (v : Value) (n : Nat) (xs : List Value) : Prop :=
  xs.length = n * size ∧ ∃ a cap, v = .slice a n cap ∧ n ≤ cap ∧ (a = none → cap = 0) ∧ ∀ j, j < xs.length → ∃ b off, a = some ⟨b, off, none⟩ ∧ w.cell? ⟨b, off + j, none⟩ = xs[j]?
/-- What is needed of a slice type. -/
structure SliceT (P : Program) (t e size bytes : Nat) : Prop where
  ht : P.underlying t = some (.slice e)
  pos : 0 < size
  info : ∃ i z, P.info? e = some i ∧ i.zero = some z ∧ i.size = size ∧ i.bytes = bytes ∧ z.cells.size = size
theorem SliceT.mk' {P : Program} {t e size bytes : Nat} {z : Value} (ht : P.underlying t = some (.slice e)) (hi : (P.info? e).map (fun i => (i.zero, i.size, i.bytes)) = some (some z, size, bytes))
    (hz : z.cells.size = size) (hp : 0 < size) : SliceT P t e size bytes := by
  obtain ⟨i, h1, h2, h3, h4⟩ := info_parts hi
  exact ⟨ht, hp, i, z, h1, h2, h3, h4, hz⟩
theorem block_lt {w : World} {b o : Nat} {v : Value} (h : w.cell? ⟨b, o, none⟩ = some v) : b < w.heap.size := World.block_lt_of_cell? w ⟨b, o, none⟩ h
theorem Reads.mono {w w' : World} {size n : Nat} {v : Value} {xs : List Value} (h : Reads w size v n xs) (hb : Below w.heap.size w w') : Reads w' size v n xs := by
  obtain ⟨h1, a, cap, h2, h3, h0, h4⟩ := h
  refine ⟨h1, a, cap, h2, h3, h0, fun j hj => ?_⟩
  obtain ⟨b, off, e1, e2⟩ := h4 j hj
  refine ⟨b, off, e1, ?_⟩
  rw [hb.cell (p := ⟨b, off + j, none⟩) (block_lt (e2.trans (List.getElem?_eq_getElem hj)))]
  exact e2
theorem Reads.shape {w : World} {size n : Nat} {v : Value} {xs : List Value} (h : Reads w size v n xs) : ∃ m a cap, Hid (m = n) ∧ v = .slice a m cap ∧ m ≤ cap ∧ (a = none → cap = 0) := by
  obtain ⟨h1, a, cap, h2, h3, h0, h4⟩ := h
  exact ⟨n, a, cap, rfl, h2, h3, h0⟩
theorem Reads.of_owns {w : World} {base e size n : Nat} {v : Value} {xs : List Value} (h : w.ownsRow base e size v n xs) : Reads w size v n xs := by
  refine ⟨h.1, ?_⟩
  rcases h.2 with ⟨rfl, rfl⟩ | ⟨g, cap, cur, rfl, hb, hg, hn, hc, hs, ht⟩
  · exact ⟨none, 0, rfl, Nat.le_refl _, fun _ => rfl, fun j hj => by rw [h.1] at hj; simp at hj⟩
  · refine ⟨_, cap, rfl, hn, (fun h => by cases h), fun j hj => ⟨g, 0, rfl, ?_⟩⟩
    have := h.cellAt (g := g) (cap := cap) j (by rw [← h.1]; exact hj)
    rw [Nat.zero_add]; exact this
theorem Reads.nil (w : World) (size : Nat) : Reads w size (.slice none 0 0) 0 [] := ⟨by simp, none, 0, rfl, Nat.le_refl _, fun _ => rfl, fun j hj => by simp at hj⟩
/-- What is owned stays owned where nothing that was there has turned. -/
theorem owns_mono {w w' : World} {base e size n : Nat} {v : Value} {xs : List Value} (h : w.ownsRow base e size v n xs) (hb : Below w.heap.size w w') : w'.ownsRow base e size v n xs := by
  refine ⟨h.1, ?_⟩
  rcases h.2 with h2 | ⟨g, cap, cur, hv, hg, hh, r⟩
  · exact .inl h2
  · exact .inr ⟨g, cap, cur, hv, hg, by rw [hb.block g (Array.getElem?_eq_some_iff.1 hh).1]; exact hh, r⟩
theorem owns_base {w : World} {base base' e size n : Nat} {v : Value} {xs : List Value} (h : w.ownsRow base e size v n xs) (hb : base' ≤ base) : w.ownsRow base' e size v n xs := by
  refine ⟨h.1, ?_⟩
  rcases h.2 with h2 | ⟨g, cap, cur, hv, hg, r⟩
  · exact .inl h2
  · exact .inr ⟨g, cap, cur, hv, Nat.le_trans hb hg, r⟩
/-- An owned slice's growth leaves all below its base alone. -/
theorem owns_below {w w' : World} {base e size n : Nat} {v : Value} {xs : List Value} (h : w.ownsRow base e size v n xs) (hg : w.grownBy w' v.ownBlock) (hb : base ≤ w.heap.size) : Below base w w' :=
  (Below.refl base w).grown hg hb fun k hk => (h.lt k hk).1
theorem below_alloc (w : World) (o : Obj) : Below w.heap.size w (w.alloc o) := (Below.refl _ _).alloc (Nat.le_refl _) o
theorem grown_of_alloc {w w' : World} {o : Obj} {row : Option Nat} (hg : (w.alloc o).grownBy w' row) : w.grownBy w' row :=
  ⟨hg.os, hg.tape, hg.output, Nat.le_trans (by simp) hg.size, fun k hk hr => (hg.block k (by simp; omega) hr).trans (Below.heap_alloc w o k hk)⟩
theorem maxLen_of {n : Nat} (h : n ≤ 140737488355328) : n ≤ maxLen := by unfold maxLen; omega
section
variable {P : Program} {ops : Array Oper} {rest : List Oper} {Q : Exit → Act → World → Prop} {a : Act} {w : World}
theorem oneCell_list {xs : List Value} (h : xs.all (·.oneCell') = true) : ∀ u ∈ xs, u.oneCell' = true := by simpa using h
/-- 'v = append(v, x)': one element, out of the new block that holds it. -/
theorem wpList_push {t e size bytes : Nat} (T : SliceT P t e size bytes) {d : Option Tmp} {ty : TypeId} {pos : String} {aft : Array Edge} {s x : Operand} {v : Value} {n base : Nat} {xs : List Value} (hown : w.ownsRow base e size v n xs)
    (hs : a.eval s = v) (hx : a.eval x = .slice (some ⟨w.heap.size, 0, none⟩) 1 1) {cs : Array Value} (hcs : cs.size = size) (h1 : cs.toList.all (·.oneCell') = true)
    (hn : (n + 1) * bytes ≤ 140737488355328) (hm : n + 1 ≤ 140737488355328) (hb : base ≤ w.heap.size)
    (h : ∀ v' w', w'.ownsRow base e size v' (n + 1) (xs ++ cs.toList) → w.grownBy w' v.ownBlock → Below base w w' → wpList P ops Q rest (a.put d v') w') :
    wpList P ops Q (⟨d, .call { callee := .builtin .append, args := #[s, x], argTypes := #[t, t] }, ty, pos, aft, none⟩ :: rest) a (w.alloc (.cells cs e)) := by
  obtain ⟨i, z, h1', h2, h3, h4, h5⟩ := T.info
  refine wpList_append_own _ rfl s x t rfl base e i z size bytes T.ht h1' h2 h3 h4 h5 T.pos v n xs hs (hown.alloc _) ⟨w.heap.size, 0, none⟩ 1 1 cs.toList hx (by simp [hcs]) ?_ (oneCell_list h1) (maxLen_of hm) hn (by simp; omega) ?_
  · intro j u hj
    have e1 : (⟨w.heap.size, 0, none⟩ : Addr).add j = ⟨w.heap.size, j, none⟩ := by unfold Addr.add; split <;> simp_all
    rw [e1]
    simp only [World.cell?]
    rw [show (w.alloc (.cells cs e)).heap[w.heap.size]? = some (.cells cs e) from heap_alloc_new w _]
    simpa using hj
  · intro v' w' ho hg _
    exact h v' w' ho (grown_of_alloc hg) (owns_below hown (grown_of_alloc hg) hb)
/-- 'v = append(v, x...)': whatever slice x is. -/
theorem wpList_cat {t e size bytes : Nat} (T : SliceT P t e size bytes) {d : Option Tmp} {ty : TypeId} {pos : String} {aft : Array Edge} {s x : Operand} {v : Value} {n base : Nat} {xs : List Value} (hown : w.ownsRow base e size v n xs)
    {u : Value} {m : Nat} {ys : List Value} (hy : Reads w size u m ys) (hs : a.eval s = v) (hx : a.eval x = u) (h1 : ys.all (·.oneCell') = true)
    (hn : (n + m) * bytes ≤ 140737488355328) (hm : n + m ≤ 140737488355328) (hb : base ≤ w.heap.size)
    (h : ∀ v' w', w'.ownsRow base e size v' (n + m) (xs ++ ys) → w.grownBy w' v.ownBlock → Below base w w' → wpList P ops Q rest (a.put d v') w') :
    wpList P ops Q (⟨d, .call { callee := .builtin .append, args := #[s, x], argTypes := #[t, t] }, ty, pos, aft, none⟩ :: rest) a w := by
  obtain ⟨i, z, h1', h2, h3, h4, h5⟩ := T.info
  obtain ⟨hl, au, cap, rfl, hcap, h00, hc⟩ := hy
  rcases au with _ | ad
  · have hm0 : m * size = 0 := by
      rcases Nat.eq_zero_or_pos (m * size) with h0 | h0
      · exact h0
      · obtain ⟨b, off, h', _⟩ := hc 0 (by omega); cases h'
    have hys : ys = [] := List.eq_nil_of_length_eq_zero (by omega)
    subst hys
    have hm0' : m = 0 := by
      have := T.pos
      rcases Nat.mul_eq_zero.1 hm0 with h | h <;> omega
    subst hm0'
    obtain rfl := h00 rfl
    refine wpList_append_own_none rfl s x t rfl base e i size T.ht h1' v n xs hs hown hx ?_
    simpa using h v w (by simpa using hown) (World.grownBy.refl _ _) (Below.refl _ _)
  · refine wpList_append_own _ rfl s x t rfl base e i z size bytes T.ht h1' h2 h3 h4 h5 T.pos v n xs hs hown ad m cap ys hx hl ?_ (oneCell_list h1) (maxLen_of hm) hn hb ?_
    · intro j y hj
      have hlt : j < ys.length := (List.getElem?_eq_some_iff.1 hj).1
      obtain ⟨b, off, e1, e2⟩ := hc j hlt
      cases e1
      have e3 : (⟨b, off, none⟩ : Addr).add j = ⟨b, off + j, none⟩ := by unfold Addr.add; split <;> simp_all
      rw [e3, e2, hj]
    · intro v' w' ho hg _
      exact h v' w' ho hg (owns_below hown hg hb)
theorem wpList_val {o : Oper} {v : Value} {w' : World} (hg : Region.wanted o (yielded ops a.tmps) = true) (hr : (execOp a.eval o).run P w = .ok (.value v) w') (h : wpList P ops Q rest (a.put o.dst v) w') :
    wpList P ops Q (o :: rest) a w := by
  unfold wpList
  rw [if_pos hg]
  refine .inl ?_
  unfold Oper.wp Oper.upon
  rw [hr]
  exact h
theorem wpList_did {o : Oper} {w' : World} (hg : Region.wanted o (yielded ops a.tmps) = true) (hr : (execOp a.eval o).run P w = .ok .skip w') (h : wpList P ops Q rest (a.put o.dst undef) w') :
    wpList P ops Q (o :: rest) a w := by
  unfold wpList
  rw [if_pos hg]
  refine .inl ?_
  unfold Oper.wp Oper.upon
  rw [hr]
  exact h
theorem exec_sliceFrom {v v' i : Value} {d : Option Tmp} {t ty : TypeId} {pos : String} {aft : Array Edge} {g : Option (Nat × Bool)} {x lo : Operand} (hr : ∀ w', (Instr.sliceAt t v (some i) none none).run P w' = .ok v' w')
    (hx : a.eval x = v) (hlo : a.eval lo = i) : (execOp a.eval ⟨d, .slice t x (some lo) none none, ty, pos, aft, g⟩).run P w = .ok (.value v') w := by
  simp [execOp, hx, hlo, hr]
theorem below_grown {w w' : World} (hg : w.grownBy w' none) : Below w.heap.size w w' := ⟨hg.os, hg.tape, hg.output, hg.size, fun k hk => hg.block k hk (by simp)⟩
/-- 'make([]T, n)'. -/
theorem wpList_makeN {t e size bytes : Nat} (T : SliceT P t e size bytes) {z : Value} (hz : ∀ i, P.info? e = some i → i.zero = some z) {d : Option Tmp} {ty : TypeId} {pos : String} {aft : Array Edge} {x y : Operand} (n : Nat) {k k' : IntKind} {l c : Int} (hl : a.eval x = .int k l) (hc : a.eval y = .int k' c) (hn' : l = n) (hn : c = n)
    (hb : bytes * n ≤ 281474976710656) (hm : n ≤ 140737488355328)
    (h : ∀ v' w', w'.ownsRow w.heap.size e size v' n (madeCells z.cells (n * size)).toList → Below w.heap.size w w' → wpList P ops Q rest (a.put d v') w') :
    wpList P ops Q (⟨d, .makeSlice t x y, ty, pos, aft, none⟩ :: rest) a w := by
  obtain ⟨i, z', h1, h2, h3, h4, h5⟩ := T.info
  obtain rfl : z' = z := by have := hz i h1; rw [h2] at this; exact Option.some.inj this
  exact wpList_make_full w rfl x y t rfl w.heap.size e i z' size T.ht h1 h2 h3 k k' l c n hl hc hn' hn (by rw [h4]; exact hb) (maxLen_of hm) (Nat.le_refl _) fun w' r1 r2 => h _ _ r1 (below_grown r2)
theorem grownBy_trans {w1 w2 w3 : World} {row : Option Nat} (h1 : w1.grownBy w2 row) (h2 : w2.grownBy w3 row) : w1.grownBy w3 row :=
  ⟨h2.os.trans h1.os, h2.tape.trans h1.tape, h2.output.trans h1.output, Nat.le_trans h1.size h2.size, fun k hk hr => (h2.block k (Nat.lt_of_lt_of_le hk h1.size) hr).trans (h1.block k hk hr)⟩
theorem below_of_grown {w w' : World} {row : Option Nat} {B : Nat} (h : w.grownBy w' row) (hB : B ≤ w.heap.size) (hr : ∀ k, row = some k → B ≤ k) : Below B w w' :=
  (Below.refl B w).grown h hB hr
end
end Go.Fd
namespace Go.Proofs.Ytnhbgijecdeahaa
open Go.RowKit Go.Fd
/-- A byte as the model holds it. -/
abbrev B (c : UInt8) : Value := .int .u8 (c.toNat : Int)
/-- v reads as the bytes l. -/
def Bs (w : World) (v : Value) (l : List UInt8) : Prop := Reads w 1 v l.length (l.map B)
/-- v owns the bytes l, in a block from 'base' on. -/
def OB (w : World) (base : Nat) (v : Value) (l : List UInt8) : Prop := w.ownsRow base 5 1 v l.length (l.map B)
theorem TB : SliceT Try.prog 67 5 1 1 := SliceT.mk' (z := .int .u8 0) (by kernel_rfl) (by kernel_rfl) rfl (by omega)
theorem OB.bs {w : World} {base : Nat} {v : Value} {l : List UInt8} (h : OB w base v l) : Bs w v l := Reads.of_owns h
theorem OB.nil (w : World) (base : Nat) : OB w base (.slice none 0 0) [] := World.ownsRow_nil _ _ _ _
theorem Bs.mono {w w' : World} {v : Value} {l : List UInt8} (h : Bs w v l) (hb : Below w.heap.size w w') : Bs w' v l := Reads.mono h hb
theorem OB.mono {w w' : World} {base : Nat} {v : Value} {l : List UInt8} (h : OB w base v l) (hb : Below w.heap.size w w') : OB w' base v l := owns_mono h hb
theorem OB.base {w : World} {base base' : Nat} {v : Value} {l : List UInt8} (h : OB w base v l) (hb : base' ≤ base) : OB w base' v l := owns_base h hb
theorem Bs.shape {w : World} {v : Value} {l : List UInt8} (h : Bs w v l) : ∃ m a cap, Hid (m = l.length) ∧ v = .slice a m cap ∧ m ≤ cap ∧ (a = none → cap = 0) := Reads.shape h
theorem OB.shape {w : World} {base : Nat} {v : Value} {l : List UInt8} (h : OB w base v l) : ∃ m a cap, Hid (m = l.length) ∧ v = .slice a m cap ∧ m ≤ cap ∧ (a = none → cap = 0) := h.bs.shape
/-- A string as the model holds it. -/
abbrev S (l : List UInt8) : Value := .string ⟨l.toArray⟩
theorem take_snoc' {α : Type} (g : List α) (i : Nat) (d : α) (h : g[i]? = some d) : g.take (i + 1) = g.take i ++ [d] := by
  obtain ⟨h1, h2⟩ := List.getElem?_eq_some_iff.1 h
  rw [List.take_succ_eq_append_getElem h1, h2]
theorem u8_of (x : Nat) : (UInt8.ofNat x).toNat = x % 256 := by simp
section
variable {ops : Array Oper} {rest : List Oper} {Q : Exit → Act → World → Prop} {a : Act} {w : World}
theorem wpList_pushB {d : Option Tmp} {ty : TypeId} {pos : String} {aft : Array Edge} {s x : Operand} {v : Value} {base : Nat} {l : List UInt8} (hown : OB w base v l)
    (hs : a.eval s = v) (hx : a.eval x = .slice (some ⟨w.heap.size, 0, none⟩) 1 1) {k : Int} (c : UInt8) (hc : k = c.toNat) (hn : l.length + 1 ≤ 140737488355328) (hb : base ≤ w.heap.size)
    (h : ∀ v' w', OB w' base v' (l ++ [c]) → w.grownBy w' v.ownBlock → Below base w w' → wpList Try.prog ops Q rest (a.put d v') w') :
    wpList Try.prog ops Q (⟨d, .call { callee := .builtin .append, args := #[s, x], argTypes := #[67, 67] }, ty, pos, aft, none⟩ :: rest) a (w.alloc (.cells #[.int .u8 k] 5)) := by
  refine wpList_push TB hown hs hx rfl rfl (by omega) hn hb fun v' w' h1 h2 h3 => h v' w' ?_ h2 h3
  unfold OB
  rw [List.length_append, List.map_append]
  subst hc
  exact h1
theorem allB (l : List UInt8) : (l.map B).all (·.oneCell') = true := by
  rw [List.all_eq_true]
  intro x hx
  obtain ⟨c, _, rfl⟩ := List.mem_map.1 hx
  rfl
theorem wpList_catB {d : Option Tmp} {ty : TypeId} {pos : String} {aft : Array Edge} {s x : Operand} {v u : Value} {base : Nat} {l m : List UInt8} (hown : OB w base v l) (hy : Bs w u m)
    (hs : a.eval s = v) (hx : a.eval x = u) (hn : l.length + m.length ≤ 140737488355328) (hb : base ≤ w.heap.size)
    (h : ∀ v' w', OB w' base v' (l ++ m) → w.grownBy w' v.ownBlock → Below base w w' → wpList Try.prog ops Q rest (a.put d v') w') :
    wpList Try.prog ops Q (⟨d, .call { callee := .builtin .append, args := #[s, x], argTypes := #[67, 67] }, ty, pos, aft, none⟩ :: rest) a w := by
  refine wpList_cat TB hown hy hs hx (allB _) (by omega) hn hb fun v' w' h1 h2 h3 => h v' w' ?_ h2 h3
  unfold OB
  rw [List.length_append, List.map_append]
  exact h1
theorem made_zeros (n : Nat) : (madeCells (Value.int .u8 0).cells (n * 1)).toList = (List.replicate n (0 : UInt8)).map B := by
  rw [Nat.mul_one]
  apply List.ext_getElem?
  intro i
  by_cases h : i < n
  · simp [madeCells, Value.cells, h, Nat.mod_one]
  · simp [madeCells, h]
/-- 'make([]byte, n)'. -/
theorem wpList_makeB {d : Option Tmp} {ty : TypeId} {pos : String} {aft : Array Edge} {x y : Operand} (n : Nat) {k k' : IntKind} {l c : Int} (hl : a.eval x = .int k l) (hc : a.eval y = .int k' c) (hn' : l = n) (hn : c = n) (hm : n ≤ 140737488355328)
    (h : ∀ v' w', OB w' w.heap.size v' (List.replicate n 0) → Below w.heap.size w w' → wpList Try.prog ops Q rest (a.put d v') w') :
    wpList Try.prog ops Q (⟨d, .makeSlice 67 x y, ty, pos, aft, none⟩ :: rest) a w := by
  refine wpList_makeN TB (z := .int .u8 0) (fun i hi => ?_) n hl hc hn' hn (by omega) hm fun v' w' h1 h2 => h v' w' ?_ h2
  · have := info_parts (P := Try.prog) (e := 5) (z := .int .u8 0) (size := 1) (bytes := 1) (by kernel_rfl)
    obtain ⟨i', h1, h2, _⟩ := this
    rw [hi] at h1
    cases h1
    exact h2
  · unfold OB
    rw [made_zeros] at h1
    rw [List.length_replicate]
    exact h1
theorem foldl_push (l : List UInt8) (s : ByteArray) : (l.map fun c => (c.toNat : Int)).foldl (fun (r : ByteArray) (n : Int) => r.push (UInt8.ofNat n.toNat)) s = ⟨s.data ++ l.toArray⟩ := by
  induction l generalizing s with
  | nil => simp
  | cons c l ih =>
    rw [List.map_cons, List.foldl_cons, ih]
    have : (s.push (UInt8.ofNat ((c.toNat : Int)).toNat)).data = s.data.push c := by simp [ByteArray.push]
    rw [this]
    simp [List.push_append_toArray]
/-- 'string(b)'. -/
theorem run_str {v : Value} {l : List UInt8} (hv : Bs w v l) : (convert 67 9 v).run Try.prog w = .ok (.string ⟨l.toArray⟩) w := by
  obtain ⟨h1, a, cap, rfl, h3, h0, h4⟩ := hv
  rw [run_convert_bytes_string w 67 9 5 a l.length cap (by kernel_rfl) (by kernel_rfl) (by kernel_rfl)]
  cases a with
  | none =>
    have hl : l = [] := by
      cases l with
      | nil => rfl
      | cons c l => obtain ⟨b, off, h, _⟩ := h4 0 (by simp); cases h
    subst hl
    rfl
  | some ad =>
    rw [run_bytesToString w ad l.length cap (l.map fun c => (c.toNat : Int))]
    · rw [foldl_push]; simp
    · have h := run_loadCells_list (P := Try.prog) (w := w) ad (l.map B) (fun j v hj => by
        obtain ⟨b, off, e1, e2⟩ := h4 j (List.getElem?_eq_some_iff.1 hj).1
        cases e1
        have e3 : (⟨b, off, none⟩ : Addr).add j = ⟨b, off + j, none⟩ := by unfold Addr.add; split <;> simp_all
        rw [e3, e2, hj])
      rw [List.length_map] at h
      rw [h]
      simp [B]
/-- A literal of bytes. -/
theorem bs_lit (w : World) (l : List UInt8) (cs : Array Value) (n : Nat) (h : cs = (l.map B).toArray) (hn : n = l.length) : Bs (w.alloc (.cells cs 5)) (.slice (some ⟨w.heap.size, 0, none⟩) n n) l := by
  subst h hn
  refine ⟨by simp, _, _, rfl, Nat.le_refl _, (fun h => by cases h), fun j hj => ⟨w.heap.size, 0, rfl, ?_⟩⟩
  rw [Nat.zero_add]
  simp only [World.cell?]
  rw [show (w.alloc (.cells (l.map B).toArray 5)).heap[w.heap.size]? = some (.cells (l.map B).toArray 5) from heap_alloc_new w _]
  simp
/-- .. owned. -/
theorem ob_lit (w : World) (l : List UInt8) (cs : Array Value) (n : Nat) (h : cs = (l.map B).toArray) (hn : n = l.length) (hm : n ≤ 1000000) : OB (w.alloc (.cells cs 5)) w.heap.size (.slice (some ⟨w.heap.size, 0, none⟩) n n) l := by
  subst h hn
  exact ⟨by simp, .inr ⟨w.heap.size, l.length, _, rfl, Nat.le_refl _, heap_alloc_new w _, Nat.le_refl _, by unfold maxLen; omega, by simp, by rw [Nat.mul_one, List.take_of_length_le (by simp)]⟩⟩
end
end Go.Proofs.Ytnhbgijecdeahaa
namespace Go.Fd
open Go.RowKit
/-- Of the blocks that were there those alone in S may have turned. -/
structure Stirs (S : Nat → Prop) (w w' : World) : Prop where
  os : w'.os = w.os
  tape : w'.tape = w.tape
  output : w'.output = w.output
  size : w.heap.size ≤ w'.heap.size
  block : ∀ k, k < w.heap.size → ¬ S k → w'.heap[k]? = w.heap[k]?
section
variable {S S' : Nat → Prop} {a w w' w'' : World}
theorem Stirs.trans (h : Stirs S w w') (k : Stirs S' w' w'') (hs : ∀ i, i < w.heap.size → S' i → S i) : Stirs S w w'' :=
  ⟨k.os.trans h.os, k.tape.trans h.tape, k.output.trans h.output, Nat.le_trans h.size k.size, fun i hi hn => (k.block i (Nat.lt_of_lt_of_le hi h.size) fun e => hn (hs i hi e)).trans (h.block i hi hn)⟩
theorem Stirs.of_below (h : Below w.heap.size w w') : Stirs S w w' := ⟨h.os, h.tape, h.output, h.size, fun k hk _ => h.block k hk⟩
theorem Stirs.below (h : Stirs S w w') {B : Nat} (hB : B ≤ w.heap.size) (hs : ∀ k, S k → B ≤ k) : Below B w w' := ⟨h.os, h.tape, h.output, h.size, fun k hk => h.block k (by omega) fun e => by have := hs k e; omega⟩
theorem Stirs.of_grown {row : Option Nat} (h : w.grownBy w' row) (hs : ∀ k, row = some k → S k) : Stirs S w w' := ⟨h.os, h.tape, h.output, h.size, fun k hk hn => h.block k hk fun e => hn (hs k e.symm)⟩
theorem stirs_setCell (w : World) (b o : Nat) (v : Value) (hs : S b) : Stirs S w (w.setCell ⟨b, o, none⟩ v) :=
  ⟨rfl, rfl, rfl, by simp [World.setCell], fun k _ hn => Below.heap_setCell _ _ _ _ (fun e => hn (by subst e; exact hs))⟩
theorem Stirs.kept (h : Stirs S w w') {b : Nat} {o : Obj} (hb : w.heap[b]? = some o) (hn : ¬ S b) : w'.heap[b]? = some o := (h.block b (Array.getElem?_eq_some_iff.1 hb).1 hn).trans hb
theorem owns_stirs {base e size n : Nat} {v : Value} {xs : List Value} (h : w.ownsRow base e size v n xs) (ht : Stirs S w w') (hn : ∀ k, v.ownBlock = some k → ¬ S k) : w'.ownsRow base e size v n xs := by
  refine ⟨h.1, ?_⟩
  rcases h.2 with h2 | ⟨g, cap, cur, hv, hg, hh, r⟩
  · exact .inl h2
  · exact .inr ⟨g, cap, cur, hv, hg, ht.kept hh (hn g (by rw [hv]; rfl)), r⟩
end
theorem ret1 {a b : Value} (h : a = b) : Ending.returned a = .returned b := by rw [h]
theorem int_eq {k : IntKind} {a b : Int} (h : a = b) : Value.int k a = .int k b := by rw [h]
theorem bool_eq {a b : Bool} (h : a = b) : Value.bool a = .bool b := by rw [h]
end Go.Fd
namespace Go.Fd
open Go.RowKit
/-- v reads as the list l. -/
def Rd {α : Type} (mk : α → Value) (w : World) (v : Value) (l : List α) : Prop := Reads w 1 v l.length (l.map mk)
/-- v owns the list l, in a block from 'base' on. -/
def Ow {α : Type} (mk : α → Value) (e : TypeId) (w : World) (base : Nat) (v : Value) (l : List α) : Prop := w.ownsRow base e 1 v l.length (l.map mk)
section
variable {α : Type} {mk : α → Value} {e : TypeId} {w w' : World} {base : Nat} {v : Value} {l : List α}
theorem Ow.rd (h : Ow mk e w base v l) : Rd mk w v l := Reads.of_owns h
theorem Ow.nil (mk : α → Value) (e : TypeId) (w : World) (base : Nat) : Ow mk e w base (.slice none 0 0) [] := World.ownsRow_nil _ _ _ _
theorem Rd.nil (mk : α → Value) (w : World) : Rd mk w (.slice none 0 0) [] := Reads.nil w 1
theorem Rd.mono (h : Rd mk w v l) (hb : Below w.heap.size w w') : Rd mk w' v l := Reads.mono h hb
theorem Ow.mono (h : Ow mk e w base v l) (hb : Below w.heap.size w w') : Ow mk e w' base v l := owns_mono h hb
theorem Ow.stirs {S : Nat → Prop} (h : Ow mk e w base v l) (ht : Stirs S w w') (hn : ∀ k, v.ownBlock = some k → ¬ S k) : Ow mk e w' base v l := owns_stirs h ht hn
theorem Rd.open (d : α) (h : Rd mk w v l) : ∃ a cap, v = .slice a l.length cap ∧ l.length ≤ cap ∧ (a = none → cap = 0) ∧
    ∀ i, i < l.length → ∃ b off, a = some ⟨b, off, none⟩ ∧ w.cell? ⟨b, off + i, none⟩ = some (mk (l[i]?.getD d)) := by
  obtain ⟨h1, a, cap, h2, h3, h0, h4⟩ := h
  refine ⟨a, cap, h2, h3, h0, fun i hi => ?_⟩
  obtain ⟨b, off, e1, e2⟩ := h4 i (by simpa using hi)
  refine ⟨b, off, e1, e2.trans ?_⟩
  simp [List.getElem?_map, List.getElem?_eq_getElem hi]
theorem Rd.shape (h : Rd mk w v l) : ∃ m a cap, Hid (m = l.length) ∧ v = .slice a m cap ∧ m ≤ cap ∧ (a = none → cap = 0) := Reads.shape h
theorem Ow.shape (h : Ow mk e w base v l) : ∃ m a cap, Hid (m = l.length) ∧ v = .slice a m cap ∧ m ≤ cap ∧ (a = none → cap = 0) := h.rd.shape
end
section
variable {P : Program} {ops : Array Oper} {rest : List Oper} {Q : Exit → Act → World → Prop} {a : Act} {w : World} {α : Type} {mk : α → Value} {e : TypeId}
/-- 'v = append(v, x)'. -/
theorem wpList_pushE {t bytes : Nat} (T : SliceT P t e 1 bytes) {d : Option Tmp} {ty : TypeId} {pos : String} {aft : Array Edge} {s x : Operand} {v : Value} {base : Nat} {l : List α} (hown : Ow mk e w base v l)
    (hs : a.eval s = v) (hx : a.eval x = .slice (some ⟨w.heap.size, 0, none⟩) 1 1) {u : Value} (c : α) (hc : u = mk c) (h1 : (mk c).oneCell' = true) (hn : (l.length + 1) * bytes ≤ 140737488355328) (hb8 : 1 ≤ bytes) (hb : base ≤ w.heap.size)
    (h : ∀ v' w', Ow mk e w' base v' (l ++ [c]) → w.grownBy w' v.ownBlock → Below base w w' → wpList P ops Q rest (a.put d v') w') :
    wpList P ops Q (⟨d, .call { callee := .builtin .append, args := #[s, x], argTypes := #[t, t] }, ty, pos, aft, none⟩ :: rest) a (w.alloc (.cells #[u] e)) := by
  subst hc
  refine wpList_push T hown hs hx rfl (by simp [h1]) hn (by have := Nat.le_mul_of_pos_right (l.length + 1) hb8; omega) hb fun v' w' h1 h2 h3 => h v' w' ?_ h2 h3
  unfold Ow
  rw [List.length_append, List.map_append]
  exact h1
end
/-- Rows of unlike elements lie in unlike blocks. -/
theorem own_apart {w : World} {b1 b2 e1 e2 s1 s2 n1 n2 : Nat} {v1 v2 : Value} {xs1 xs2 : List Value} (h1 : w.ownsRow b1 e1 s1 v1 n1 xs1) (h2 : w.ownsRow b2 e2 s2 v2 n2 xs2) (hne : e1 ≠ e2) {k : Nat} (hk : v1.ownBlock = some k) : v2.ownBlock ≠ some k := by
  intro hk2
  rcases h1.2 with ⟨rfl, _⟩ | ⟨g1, c1, u1, rfl, _, hg1, _⟩
  · cases hk
  rcases h2.2 with ⟨rfl, _⟩ | ⟨g2, c2, u2, rfl, _, hg2, _⟩
  · cases hk2
  simp only [Value.ownBlock, Option.some.injEq] at hk hk2
  subst hk hk2
  rw [hg1] at hg2
  simp at hg2
  exact hne hg2.2
theorem owns_grown {w w' : World} {base e size n : Nat} {v : Value} {xs : List Value} {row : Option Nat} (h : w.ownsRow base e size v n xs) (hg : w.grownBy w' row) (hne : ∀ k, v.ownBlock = some k → row ≠ some k) : w'.ownsRow base e size v n xs :=
  owns_stirs (S := fun k => row = some k) h (Stirs.of_grown hg fun _ h => h) hne
/-- A row lies in no map's block. -/
theorem own_noMap {w : World} {base e size n : Nat} {v : Value} {xs : List Value} (h : w.ownsRow base e size v n xs) {b : Nat} {es : Array MapEntry} {c : Nat} (hb : w.heap[b]? = some (.map es c)) : v.ownBlock ≠ some b := by
  intro hk
  rcases h.2 with ⟨rfl, _⟩ | ⟨g1, c1, u1, rfl, _, hg1, _⟩
  · cases hk
  simp only [Value.ownBlock, Option.some.injEq] at hk
  subst hk
  rw [hg1] at hb
  cases hb
end Go.Fd
namespace Go.Proofs.Ytnhbgijecdeahaa
open Go.RowKit Go.Fd
theorem strCells_mk (m : List UInt8) : Lib.strCells ⟨m.toArray⟩ = m.map B := by simp [Lib.strCells]
/-- 'append(tab, s...)', s a string. -/
theorem wpList_catS {ops : Array Oper} {rest : List Oper} {Q : Exit → Act → World → Prop} {a : Act} {w : World} {d : Option Tmp} {ty : TypeId} {pos : String} {aft : Array Edge} {s x : Operand} {v : Value} {base : Nat} {l m : List UInt8} (hown : OB w base v l)
    (hs : a.eval s = v) (hx : a.eval x = S m) (hn : l.length + m.length ≤ 140737488355328) (hb : base ≤ w.heap.size)
    (h : ∀ v' w', OB w' base v' (l ++ m) → w.grownBy w' v.ownBlock → Below base w w' → wpList Try.prog ops Q rest (a.put d v') w') :
    wpList Try.prog ops Q (⟨d, .call { callee := .builtin .append, args := #[s, x], argTypes := #[67, 9] }, ty, pos, aft, none⟩ :: rest) a w := by
  obtain ⟨i, z, h1', h2, h3, h4, h5⟩ := TB.info
  have hz : i.zero = some (.int .u8 0) := by
    obtain ⟨i', g1, g2, _⟩ := info_parts (P := Try.prog) (e := 5) (z := .int .u8 0) (size := 1) (bytes := 1) (by kernel_rfl)
    rw [h1'] at g1
    cases g1
    exact g2
  have hsz : (⟨m.toArray⟩ : ByteArray).size = m.length := by simp [ByteArray.size]
  refine Lib.wpList_append_own_string _ rfl s x 67 9 rfl base 5 i TB.ht (by kernel_rfl) h1' hz h3 h4 v l.length (l.map B) hs hown ⟨m.toArray⟩ hx (by rw [hsz]; exact maxLen_of hn) (by rw [hsz]; exact hn) hb fun v' w' h1 h2 _ => ?_
  refine h v' w' ?_ h2 (owns_below hown h2 hb)
  unfold OB
  rw [List.length_append, List.map_append, ← strCells_mk, ← hsz]
  exact h1
end Go.Proofs.Ytnhbgijecdeahaa
namespace Go.Fd
open Go.RowKit
/-- v reads as the list l, k cells an element. -/
def RdR {α : Type} (k : Nat) (enc : α → List Value) (w : World) (v : Value) (l : List α) : Prop := Reads w k v l.length (l.flatMap enc)
/-- v owns the list l. -/
def OwR {α : Type} (k : Nat) (enc : α → List Value) (e : TypeId) (w : World) (base : Nat) (v : Value) (l : List α) : Prop := w.ownsRow base e k v l.length (l.flatMap enc)
theorem flat_len {α : Type} {k : Nat} {enc : α → List Value} (hk : ∀ x, (enc x).length = k) (l : List α) : (l.flatMap enc).length = l.length * k := by
  induction l with
  | nil => simp
  | cons x l ih => rw [List.flatMap_cons, List.length_append, ih, hk, List.length_cons, Nat.succ_mul]; omega
theorem flat_len' {α β : Type} {k : Nat} {f : α → List β} (hk : ∀ x, (f x).length = k) (l : List α) : (l.flatMap f).length = l.length * k := by
  induction l with
  | nil => simp
  | cons x l ih => rw [List.flatMap_cons, List.length_append, ih, hk, List.length_cons, Nat.succ_mul]; omega
theorem flat_get {α : Type} {k : Nat} {enc : α → List Value} (hk : ∀ x, (enc x).length = k) : ∀ (l : List α) (i c : Nat) (x : α), l[i]? = some x → c < k → (l.flatMap enc)[i * k + c]? = (enc x)[c]? := by
  intro l
  induction l with
  | nil => intro i c x h; simp at h
  | cons y l ih =>
    intro i c x h hc
    rw [List.flatMap_cons]
    cases i with
    | zero =>
      simp at h
      subst h
      rw [Nat.zero_mul, Nat.zero_add, List.getElem?_append_left (by rw [hk]; exact hc)]
    | succ i =>
      have e : (i + 1) * k + c - (enc y).length = i * k + c := by rw [hk, Nat.succ_mul]; omega
      rw [List.getElem?_append_right (by rw [hk, Nat.succ_mul]; omega), e]
      exact ih i c x (by simpa using h) hc
section
variable {α : Type} {k : Nat} {enc : α → List Value} {e : TypeId} {w w' : World} {base : Nat} {v : Value} {l : List α}
theorem OwR.rd (h : OwR k enc e w base v l) : RdR k enc w v l := Reads.of_owns h
theorem OwR.nil (k : Nat) (enc : α → List Value) (e : TypeId) (w : World) (base : Nat) : OwR k enc e w base (.slice none 0 0) [] := World.ownsRow_nil _ _ _ _
theorem RdR.nil (k : Nat) (enc : α → List Value) (w : World) : RdR k enc w (.slice none 0 0) [] := Reads.nil w k
theorem RdR.mono (h : RdR k enc w v l) (hb : Below w.heap.size w w') : RdR k enc w' v l := Reads.mono h hb
theorem OwR.mono (h : OwR k enc e w base v l) (hb : Below w.heap.size w w') : OwR k enc e w' base v l := owns_mono h hb
theorem OwR.rebase {base' : Nat} (h : OwR k enc e w base v l) (hb : base' ≤ base) : OwR k enc e w base' v l := owns_base h hb
theorem RdR.shape (h : RdR k enc w v l) : ∃ m a cap, Hid (m = l.length) ∧ v = .slice a m cap ∧ m ≤ cap ∧ (a = none → cap = 0) := Reads.shape h
theorem OwR.shape (h : OwR k enc e w base v l) : ∃ m a cap, Hid (m = l.length) ∧ v = .slice a m cap ∧ m ≤ cap ∧ (a = none → cap = 0) := h.rd.shape
/-- Opened: the cells of the record at a place. -/
theorem RdR.open (h : RdR k enc w v l) (hk : ∀ x, (enc x).length = k) : ∃ a cap, v = .slice a l.length cap ∧ l.length ≤ cap ∧ (a = none → cap = 0) ∧
    ∀ i x, l[i]? = some x → 0 < k → ∃ b off, a = some ⟨b, off, none⟩ ∧ ∀ c, c < k → w.cell? ⟨b, off + (i * k + c), none⟩ = (enc x)[c]? := by
  obtain ⟨h1, a, cap, h2, h3, h0, h4⟩ := h
  refine ⟨a, cap, h2, h3, h0, fun i x hi hk0 => ?_⟩
  have hlt := (List.getElem?_eq_some_iff.1 hi).1
  have hin : ∀ c, c < k → i * k + c < (l.flatMap enc).length := fun c hc => by
    rw [flat_len hk]
    have : (i + 1) * k ≤ l.length * k := Nat.mul_le_mul_right k hlt
    rw [Nat.succ_mul] at this
    omega
  obtain ⟨b, off, e1, -⟩ := h4 (i * k + 0) (hin 0 hk0)
  refine ⟨b, off, e1, fun c hc => ?_⟩
  obtain ⟨b', off', e2, e3⟩ := h4 (i * k + c) (hin c hc)
  rw [e1] at e2
  cases e2
  rw [e3]
  exact flat_get hk l i c x hi hc
end
section
variable {P : Program} {ops : Array Oper} {rest : List Oper} {Q : Exit → Act → World → Prop} {a : Act} {w : World} {α : Type} {k : Nat} {enc : α → List Value} {e : TypeId}
/-- 'v = append(v, x)', x a record. -/
theorem wpList_pushR {t bytes : Nat} (T : SliceT P t e k bytes) {d : Option Tmp} {ty : TypeId} {pos : String} {aft : Array Edge} {s x : Operand} {v : Value} {base : Nat} {l : List α} (hown : OwR k enc e w base v l)
    (hs : a.eval s = v) (hx : a.eval x = .slice (some ⟨w.heap.size, 0, none⟩) 1 1) {cs : Array Value} (c : α) (hc : cs.toList = enc c) (hk : cs.size = k) (h1 : cs.toList.all (·.oneCell') = true)
    (hn : (l.length + 1) * bytes ≤ 140737488355328) (hm : l.length + 1 ≤ 140737488355328) (hb : base ≤ w.heap.size)
    (h : ∀ v' w', OwR k enc e w' base v' (l ++ [c]) → w.grownBy w' v.ownBlock → Below base w w' → wpList P ops Q rest (a.put d v') w') :
    wpList P ops Q (⟨d, .call { callee := .builtin .append, args := #[s, x], argTypes := #[t, t] }, ty, pos, aft, none⟩ :: rest) a (w.alloc (.cells cs e)) := by
  refine wpList_push T hown hs hx hk h1 hn hm hb fun v' w' h1 h2 h3 => h v' w' ?_ h2 h3
  unfold OwR
  rw [List.length_append, List.flatMap_append, List.flatMap_singleton, ← hc]
  exact h1
end
end Go.Fd
namespace Go.Fd
open Go.RowKit
/-- o depends on operation j. -/
def depB (o : Oper) (j : Nat) : Bool := o.after.any fun e => e.on == j && Region.binds .any e
/-- Slot t holds, when operation i is run, what it held ahead of the region. -/
def oldB (l : List Oper) (i t : Nat) : Bool := l.zipIdx.all fun (o, k) => o.dst != some t || k == i || depB o i
/-- Each operation has a slot of its own, below n, and depends on earlier ones alone. -/
def persB (l : List Oper) (n : Nat) : Bool :=
  l.zipIdx.all fun (o, k) => (match o.dst with | some d => decide (d < n) | none => false) && o.after.all (fun e => !Region.binds .any e || decide (e.on < k)) && l.zipIdx.all fun (o', k') => k == k' || o.dst != o'.dst
def putAll (vs : Nat → Value) : Nat → List Oper → Act → Act
  | _, [], a => a
  | k, o :: r, a => putAll vs (k + 1) r (a.put o.dst (vs k))
theorem put_size (a : Act) (d : Option Tmp) (v : Value) : (a.put d v).tmps.size = a.tmps.size := by cases d <;> simp [Act.put]
theorem put_defers (a : Act) (d : Option Tmp) (v : Value) : (a.put d v).defers = a.defers := by cases d <;> rfl
theorem put_get_ne (a : Act) (d : Option Tmp) (v : Value) (t : Nat) (h : d ≠ some t) : (a.put d v).eval (.tmp t) = a.eval (.tmp t) := by
  cases d with
  | none => rfl
  | some d =>
    have hne : d ≠ t := fun e => h (by rw [e])
    simp [Act.put, Act.eval, Array.getD_eq_getD_getElem?, hne]
theorem put_get_eq (a : Act) (d : Nat) (v : Value) (h : d < a.tmps.size) : (a.put (some d) v).eval (.tmp d) = v := by
  simp [Act.put, Act.eval, Array.getD_eq_getD_getElem?, h]
theorem act_ext {a b : Act} (h1 : a.tmps.size = b.tmps.size) (h2 : a.defers = b.defers) (h3 : ∀ t, a.eval (.tmp t) = b.eval (.tmp t)) : a = b := by
  cases a with
  | mk at_ ad =>
    cases b with
    | mk bt bd =>
      simp only at h1 h2
      subst h2
      congr 1
      apply Array.ext h1
      intro i hi1 hi2
      have := h3 i
      simpa [Act.eval, Array.getD_eq_getD_getElem?, Array.getElem?_eq_getElem hi1, Array.getElem?_eq_getElem hi2] using this
theorem putAll_size (vs : Nat → Value) : ∀ (k : Nat) (l : List Oper) (a : Act), (putAll vs k l a).tmps.size = a.tmps.size
  | _, [], _ => rfl
  | k, o :: r, a => by rw [putAll, putAll_size, put_size]
theorem putAll_defers (vs : Nat → Value) : ∀ (k : Nat) (l : List Oper) (a : Act), (putAll vs k l a).defers = a.defers
  | _, [], _ => rfl
  | k, o :: r, a => by rw [putAll, putAll_defers, put_defers]
theorem putAll_old (vs : Nat → Value) (t : Nat) : ∀ (k : Nat) (l : List Oper) (a : Act), (∀ o ∈ l, o.dst ≠ some t) → (putAll vs k l a).eval (.tmp t) = a.eval (.tmp t)
  | _, [], _, _ => rfl
  | k, o :: r, a, h => by rw [putAll, putAll_old vs t (k + 1) r _ (fun o ho => h o (by simp [ho])), put_get_ne _ _ _ _ (h o (by simp))]
theorem putAll_new (vs : Nat → Value) (t : Nat) : ∀ (k : Nat) (l : List Oper) (a : Act) (j : Nat) (o : Oper), l[j]? = some o → o.dst = some t → t < a.tmps.size → (∀ j' o', l[j']? = some o' → o'.dst = some t → j' = j) →
    (putAll vs k l a).eval (.tmp t) = vs (k + j)
  | _, [], _, _, _, h, _, _, _ => by simp at h
  | k, x :: r, a, 0, o, h, hd, hs, hu => by
    simp at h; subst h
    rw [putAll, putAll_old vs t (k + 1) r]
    · rw [hd]; exact put_get_eq _ _ _ hs
    · intro o' ho' e
      obtain ⟨j', hj'⟩ := List.getElem?_of_mem ho'
      have := hu (j' + 1) o' (by simpa using hj') e
      omega
  | k, x :: r, a, j + 1, o, h, hd, hs, hu => by
    rw [putAll, putAll_new vs t (k + 1) r _ j o (by simpa using h) hd (by rw [put_size]; exact hs) (fun j' o' h1 h2 => by have := hu (j' + 1) o' (by simpa using h1) h2; omega)]
    congr 1; omega
theorem persB_spec {l : List Oper} {n : Nat} (h : persB l n = true) {k : Nat} {o : Oper} (ho : l[k]? = some o) :
    (∃ d, o.dst = some d ∧ d < n) ∧ (∀ e ∈ o.after, Region.binds .any e = true → e.on < k) ∧ ∀ k' o', l[k']? = some o' → k' ≠ k → o'.dst ≠ o.dst := by
  unfold persB at h
  rw [List.all_eq_true] at h
  have hm : (o, k) ∈ l.zipIdx := by rw [List.mem_zipIdx_iff_getElem?]; exact ho
  have := h _ hm
  simp only [Bool.and_eq_true, Array.all_eq_true_iff_forall_mem, List.all_eq_true, Bool.or_eq_true, decide_eq_true_eq, Bool.not_eq_true'] at this
  obtain ⟨⟨h1, h2⟩, h3⟩ := this
  refine ⟨?_, fun e he hb => ?_, fun k' o' ho' hne he => ?_⟩
  · cases hd : o.dst with
    | none => rw [hd] at h1; simp at h1
    | some d => rw [hd] at h1; exact ⟨d, rfl, by simpa using h1⟩
  · rcases h2 e he with h | h
    · rw [hb] at h; cases h
    · exact h
  · have hm' : (o', k') ∈ l.zipIdx := by rw [List.mem_zipIdx_iff_getElem?]; exact ho'
    have := h3 _ hm'
    simp only [beq_iff_eq, bne_iff_ne, ne_eq] at this
    rcases this with h | h
    · exact hne h.symm
    · exact h he.symm
theorem depB_of {o : Oper} {j : Nat} (h : depB o j = true) : ∃ e ∈ o.after, e.on = j ∧ Region.binds .any e = true := by
  unfold depB at h
  rw [Array.any_eq_true'] at h
  obtain ⟨e, he, h⟩ := h
  simp only [Bool.and_eq_true, beq_iff_eq] at h
  exact ⟨e, he, h.1, h.2⟩
section
variable {P : Program} {l : List Oper} {V : Nat → Value → World → Prop} {a0 : Act} {w0 : World}
theorem getD_lt {listed : Array Bool} {i : Nat} (h : i < listed.size) : listed.getD i true = listed.getD i false := by
  simp [Array.getD_eq_getD_getElem?, Array.getElem?_eq_getElem h]
theorem getD_set_true' {listed : Array Bool} {i j : Nat} (h : listed.getD j true = true) : (listed.setIfInBounds i true).getD j true = true := by
  by_cases hij : i = j
  · subst hij
    by_cases hi : i < listed.size
    · simp [Array.getD_eq_getD_getElem?, hi]
    · simp [Array.getD_eq_getD_getElem?, hi]
  · rw [getD_set_ne _ hij]; exact h
theorem getD_set_self {listed : Array Bool} {i : Nat} (d : Bool) (h : i < listed.size) : (listed.setIfInBounds i true).getD i d = true := by
  simp [Array.getD_eq_getD_getElem?, h]
end
/-! ### One operation -/
section
variable {P : Program} {l : List Oper} {o : Oper} {a : Act} {w : World} {R : Value → World → Prop}
end
section
variable {P : Program} {l : List Oper} {a : Act} {w : World} {d : Option Tmp} {ty : TypeId} {pos : String} {aft : Array Edge} {g : Option (Nat × Bool)}
theorem run_bin {x y : Operand} {t t' : TypeId} {op : BinOp} {u v c : Value} (hx : a.eval x = u) (hy : a.eval y = v) (hr : (do eqGuard op t x y u v; binOp op t u v : Sem Value).run P w = .ok c w) : (execOp a.eval ⟨d, .binOp op t x y t', ty, pos, aft, g⟩).run P w = .ok (.value c) w := by
  simp only [execOp, hx, hy]
  rw [Sem.run_bind, hr]
  rfl
theorem run_call {f : FuncId} {fn : Func} {args : Array Operand} {ts : Array TypeId} {vals : Array Value} (hf : P.funcs[f]? = some fn) (hn : (fn.name == "runtime.NumGoroutine") = false) {c : Code} (hb : fn.body = some c) (hx : args.map a.eval = vals) :
    (execOp a.eval ⟨d, .call { callee := .value (.func f), args := args, argTypes := ts }, ty, pos, aft, g⟩).run P w = .ok (.enter f vals) w := by
  have h1 : fn.name ≠ "runtime.NumGoroutine" := by simpa using hn
  have hc : (callFunc f vals).run P w = .ok (.enter f vals) w := by
    simp [callFunc, hf, h1, hb]
  simp only [execOp, resolve, hx]
  show Sem.run P (do let d ← Deferred.ofValue (Value.func (.func f) #[] #[]) vals; invoke d.target d.args) w = _
  simp [Deferred.ofValue, invoke, hc]
end
end Go.Fd
namespace Go.Proofs.Ytnhbgijecdeahaa
open Go.RowKit Go.Fd
/-- The bytes ahead of the next 0. -/
def upto0 : List UInt8 → Option (List UInt8)
  | [] => none
  | c :: r => if c = 0 then some [] else (upto0 r).map (c :: ·)
end Go.Proofs.Ytnhbgijecdeahaa
namespace Go.Proofs
open Go.Shelf
def Try.lays137_ren : Go.Shelf.Ren := ⟨fun | 137 => 53 | 217 => 73 | 266 => 82 | n => n, fun | 9 => 9 | 5 => 5 | 3 => 3 | n => n, fun | n => n⟩
theorem Try.lays137 : Go.Proofs.Lays.n137 Try.prog Try.lays137_ren := {
  mixed := by kernel_rfl
  f137 := Try.func53.trans (congrArg some (by kernel_rfl))
  f217 := Try.func73.trans (congrArg some (by kernel_rfl))
  f266 := Try.func82.trans (congrArg some (by kernel_rfl))
  t3 := Try.underlying3
  a3 := Try.isAgg3
  z3 := Try.sizeOf3
  v3 := Try.zeroValue3
  t5 := Try.underlying5
  a5 := Try.isAgg5
  z5 := Try.sizeOf5
  v5 := Try.zeroValue5
  t9 := Try.underlying9
  a9 := Try.isAgg9
  z9 := Try.sizeOf9
  v9 := Try.zeroValue9 }
open Go.RowKit in
/-- strings.IndexByte: "IndexByte returns the index of the first instance of c in s, or -1 if c is not present in s.": IT RETURNS 'Lib.indexByte s c'; the world is as it was. (LAID: no walk: one application.) -/
theorem Try.strings_IndexByte (s : ByteArray) (c : Int) (w : World) :
    Calls Try.prog 53 #[.string s, .int .u8 c] w fun e w' => e = .returned (.int .i64 (Lib.indexByte s.data.toList c.toNat.toUInt8)) ∧ w' = w := Any.strings_IndexByte Try.lays137 s c w
def Try.lays219_ren : Go.Shelf.Ren := ⟨fun | 219 => 83 | 217 => 73 | 225 => 86 | 224 => 87 | 267 => 88 | 266 => 82 | 314 => 89 | n => n, fun | 9 => 9 | 3 => 3 | 4 => 4 | 5 => 5 | 46 => 116 | 146 => 153 | 51 => 135 | n => n, fun | 1 => 0 | n => n⟩
def Try.lays144_ren : Go.Shelf.Ren := ⟨fun | 144 => 54 | 143 => 74 | 219 => 83 | 217 => 73 | 225 => 86 | 224 => 87 | 267 => 88 | 266 => 82 | 314 => 89 | n => n, fun | 9 => 9 | 4 => 4 | 3 => 3 | 5 => 5 | 46 => 116 | 146 => 153 | 51 => 135 | n => n, fun | 1 => 0 | n => n⟩
theorem Try.lays144 : Go.Proofs.Lays.n144 Try.prog Try.lays144_ren := {
  mixed := by kernel_rfl
  f143 := Try.func74.trans (congrArg some (by kernel_rfl))
  f144 := Try.func54.trans (congrArg some (by kernel_rfl))
  f217 := Try.func73.trans (congrArg some (by kernel_rfl))
  f219 := Try.func83.trans (congrArg some (by kernel_rfl))
  f224 := Try.func87.trans (congrArg some (by kernel_rfl))
  f225 := Try.func86.trans (congrArg some (by kernel_rfl))
  f266 := Try.func82.trans (congrArg some (by kernel_rfl))
  f267 := Try.func88.trans (congrArg some (by kernel_rfl))
  f314 := Try.func89.trans (congrArg some (by kernel_rfl))
  t3 := Try.underlying3
  a3 := Try.isAgg3
  z3 := Try.sizeOf3
  v3 := Try.zeroValue3
  t4 := Try.underlying4
  a4 := Try.isAgg4
  z4 := Try.sizeOf4
  v4 := Try.zeroValue4
  t5 := Try.underlying5
  a5 := Try.isAgg5
  z5 := Try.sizeOf5
  v5 := Try.zeroValue5
  t9 := Try.underlying9
  a9 := Try.isAgg9
  z9 := Try.sizeOf9
  v9 := Try.zeroValue9
  t46 := Try.underlying116
  a46 := Try.isAgg116
  z46 := Try.sizeOf116
  v46 := Try.zeroValue116
  t51 := Try.underlying135
  a51 := Try.isAgg135
  z51 := Try.sizeOf135
  v51 := Try.zeroValue135
  t146 := Try.underlying153
  a146 := Try.isAgg153
  z146 := Try.sizeOf153
  v146 := Try.zeroValue153
  g1 := by kernel_rfl }
open Go.RowKit Go.Lib in
/-- strings.Contains: "Contains reports whether substr is within s.": AT A substr OF ONE BYTE c: IT RETURNS 'decide (0 ≤ Lib.indexByte s c)'; the world is as it was. (LAID: no walk: one application.) -/
theorem Try.strings_Contains_one (s : ByteArray) (c : UInt8) (w : World) :
    Calls Try.prog 54 #[.string s, .string ⟨#[c]⟩] w fun e w' => e = .returned (.bool (decide (0 ≤ Lib.indexByte s.data.toList c))) ∧ w' = w := Any.strings_Contains_one Try.lays144 s c w
def Try.lays190_ren : Go.Shelf.Ren := ⟨fun | 190 => 36 | 125 => 49 | 258 => 48 | 128 => 65 | 129 => 66 | 302 => 56 | 303 => 57 | 304 => 58 | 305 => 59 | 306 => 60 | 307 => 61 | 308 => 62 | 309 => 63 | 310 => 64 | 333 => 75 | 329 => 76 | 330 => 77 | 334 => 78 | 335 => 79 | 336 => 80 | 344 => 84 | n => n, fun | 31 => 26 | 9 => 9 | 3 => 3 | 46 => 116 | 0 => 0 | 51 => 135 | 53 => 40 | 4 => 4 | 183 => 129 | 182 => 128 | 131 => 110 | 5 => 5 | 218 => 142 | 222 => 146 | 228 => 148 | 229 => 149 | n => n, fun | n => n⟩
theorem Try.lays190 : Go.Proofs.Lays.n190 Try.prog Try.lays190_ren := {
  mixed := by kernel_rfl
  f125 := Try.func49.trans (congrArg some (by kernel_rfl))
  f128 := Try.func65.trans (congrArg some (by kernel_rfl))
  f129 := Try.func66.trans (congrArg some (by kernel_rfl))
  f190 := Try.func36.trans (congrArg some (by kernel_rfl))
  f258 := Try.func48.trans (congrArg some (by kernel_rfl))
  f302 := Try.func56.trans (congrArg some (by kernel_rfl))
  f303 := Try.func57.trans (congrArg some (by kernel_rfl))
  f304 := Try.func58.trans (congrArg some (by kernel_rfl))
  f305 := Try.func59.trans (congrArg some (by kernel_rfl))
  f306 := Try.func60.trans (congrArg some (by kernel_rfl))
  f307 := Try.func61.trans (congrArg some (by kernel_rfl))
  f308 := Try.func62.trans (congrArg some (by kernel_rfl))
  f309 := Try.func63.trans (congrArg some (by kernel_rfl))
  f310 := Try.func64.trans (congrArg some (by kernel_rfl))
  f329 := Try.func76.trans (congrArg some (by kernel_rfl))
  f330 := Try.func77.trans (congrArg some (by kernel_rfl))
  f333 := Try.func75.trans (congrArg some (by kernel_rfl))
  f334 := Try.func78.trans (congrArg some (by kernel_rfl))
  f335 := Try.func79.trans (congrArg some (by kernel_rfl))
  f336 := Try.func80.trans (congrArg some (by kernel_rfl))
  f344 := Try.func84.trans (congrArg some (by kernel_rfl))
  t0 := Try.underlying0
  a0 := Try.isAgg0
  z0 := Try.sizeOf0
  v0 := Try.zeroValue0
  t3 := Try.underlying3
  a3 := Try.isAgg3
  z3 := Try.sizeOf3
  v3 := Try.zeroValue3
  t4 := Try.underlying4
  a4 := Try.isAgg4
  z4 := Try.sizeOf4
  v4 := Try.zeroValue4
  t5 := Try.underlying5
  a5 := Try.isAgg5
  z5 := Try.sizeOf5
  v5 := Try.zeroValue5
  t9 := Try.underlying9
  a9 := Try.isAgg9
  z9 := Try.sizeOf9
  v9 := Try.zeroValue9
  t31 := Try.underlying26
  a31 := Try.isAgg26
  z31 := Try.sizeOf26
  v31 := Try.zeroValue26
  t46 := Try.underlying116
  a46 := Try.isAgg116
  z46 := Try.sizeOf116
  v46 := Try.zeroValue116
  t51 := Try.underlying135
  a51 := Try.isAgg135
  z51 := Try.sizeOf135
  v51 := Try.zeroValue135
  t53 := Try.underlying40
  a53 := Try.isAgg40
  z53 := Try.sizeOf40
  v53 := Try.zeroValue40
  t131 := Try.underlying110
  a131 := Try.isAgg110
  z131 := Try.sizeOf110
  v131 := Try.zeroValue110
  t182 := Try.underlying128
  a182 := Try.isAgg128
  z182 := Try.sizeOf128
  v182 := Try.zeroValue128
  t183 := Try.underlying129
  a183 := Try.isAgg129
  z183 := Try.sizeOf129
  v183 := Try.zeroValue129
  t218 := Try.underlying142
  a218 := Try.isAgg142
  z218 := Try.sizeOf142
  v218 := Try.zeroValue142
  t222 := Try.underlying146
  a222 := Try.isAgg146
  z222 := Try.sizeOf146
  v222 := Try.zeroValue146
  t228 := Try.underlying148
  a228 := Try.isAgg148
  z228 := Try.sizeOf148
  v228 := Try.zeroValue148
  t229 := Try.underlying149
  a229 := Try.isAgg149
  z229 := Try.sizeOf149
  v229 := Try.zeroValue149 }
open Go.Sort Go.RowKit in
theorem Try.slices_Sort_string (blk off cap : Nat) (ss : List (List UInt8)) (w : World) (hH : Holds encStr w blk off ss.toArray) (hblk : blk < w.heap.size) (hsz : ss.length < 4611686018427387904) :
    Calls Try.prog 36 #[.slice (some ⟨blk, off, none⟩) ss.length cap] w fun e w' =>
      e = .returned (.tuple #[]) ∧ ∃ n os, w' = grow (putRow encStr (Sort.ahead w n) blk off (ss.mergeSort fun x y => decide (x ≤ y)).toArray) os := Any.slices_Sort_string Try.lays190 blk off cap ss w hH hblk hsz
def Try.lays206_ren : Go.Shelf.Ren := ⟨fun | 206 => 72 | n => n, fun | 9 => 9 | 4 => 4 | 3 => 3 | n => n, fun | n => n⟩
def Try.lays99_ren : Go.Shelf.Ren := ⟨fun | 99 => 52 | 206 => 72 | n => n, fun | 9 => 9 | 4 => 4 | 3 => 3 | n => n, fun | n => n⟩
theorem Try.lays99 : Go.Proofs.Lays.n99 Try.prog Try.lays99_ren := {
  mixed := by kernel_rfl
  f99 := Try.func52.trans (congrArg some (by kernel_rfl))
  f206 := Try.func72.trans (congrArg some (by kernel_rfl))
  t3 := Try.underlying3
  a3 := Try.isAgg3
  z3 := Try.sizeOf3
  v3 := Try.zeroValue3
  t4 := Try.underlying4
  a4 := Try.isAgg4
  z4 := Try.sizeOf4
  v4 := Try.zeroValue4
  t9 := Try.underlying9
  a9 := Try.isAgg9
  z9 := Try.sizeOf9
  v9 := Try.zeroValue9 }
open Go.RowKit Go.Lib in
/-- strings.HasPrefix: "HasPrefix reports whether the string s begins with prefix.": IT RETURNS 'Lib.hasPrefix s prefix'; the world is as it was. (LAID: no walk: one application.) -/
theorem Try.strings_HasPrefix (s p : ByteArray) (w : World) :
    Calls Try.prog 52 #[.string s, .string p] w fun e w' => e = .returned (.bool (Lib.hasPrefix s.data.toList p.data.toList)) ∧ w' = w := Any.strings_HasPrefix Try.lays99 s p w
def Try.lays110_ren : Go.Shelf.Ren := ⟨fun | 110 => 35 | 109 => 47 | n => n, fun | 31 => 26 | 9 => 9 | 4 => 4 | 3 => 3 | 0 => 0 | n => n, fun | n => n⟩
theorem Try.lays110 : Go.Proofs.Lays.n110 Try.prog Try.lays110_ren := {
  mixed := by kernel_rfl
  f109 := Try.func47.trans (congrArg some (by kernel_rfl))
  f110 := Try.func35.trans (congrArg some (by kernel_rfl))
  t0 := Try.underlying0
  a0 := Try.isAgg0
  z0 := Try.sizeOf0
  v0 := Try.zeroValue0
  t3 := Try.underlying3
  a3 := Try.isAgg3
  z3 := Try.sizeOf3
  v3 := Try.zeroValue3
  t4 := Try.underlying4
  a4 := Try.isAgg4
  z4 := Try.sizeOf4
  v4 := Try.zeroValue4
  t9 := Try.underlying9
  a9 := Try.isAgg9
  z9 := Try.sizeOf9
  v9 := Try.zeroValue9
  t31 := Try.underlying26
  a31 := Try.isAgg26
  z31 := Try.sizeOf26
  v31 := Try.zeroValue26 }
open Go.Lib in
/-- slices.Contains at []string: "Contains reports whether v is present in s.": IT RETURNS 'Lib.containsS (the elements) v', which is true just where v is among them ('Lib.containsS_iff'); the world is as it was. ITS CALLEE slices.Index IS MET BY ITS OWN CONTRACT OFF THE SHELF (lay that first): no loop is walked here. (LAID: no walk: one application.) -/
theorem Try.slices_Contains_string (b off n c : Nat) (zs : List ByteArray) (x : ByteArray) (w : World) (hz : n ≤ zs.length) (hbig : n ≤ 9223372036854775807) (hc : ∀ j, j < zs.length → w.cell? ⟨b, off + j, none⟩ = some (.string (zs.getD j ByteArray.empty))) :
    Calls Try.prog 35 #[.slice (some ⟨b, off, none⟩) n c, .string x] w fun e w' => e = .returned (.bool (Lib.containsS (zs.take n) x)) ∧ w' = w := Any.slices_Contains_string Try.lays110 b off n c zs x w hz hbig hc
open Go.Lib in
/-- The same at a slice of length 0, a nil one too. (LAID: no walk: one application.) -/
theorem Try.slices_Contains_string_empty (a : Option Addr) (c : Nat) (x : ByteArray) (w : World) :
    Calls Try.prog 35 #[.slice a 0 c, .string x] w fun e w' => e = .returned (.bool false) ∧ w' = w := Any.slices_Contains_string_empty Try.lays110 a c x w
open Go.RowKit Go.Sort in
/-- .. and plain. (LAID: no walk: one application.) -/
theorem Try.slices_Sort_string_none (p : Option Addr) (cap : Nat) (w : World) :
    Calls Try.prog 36 #[.slice p 0 cap] w fun e w' => e = .returned (.tuple #[]) ∧ w' = w := Any.slices_Sort_string_none Try.lays190 p cap w
end Go.Proofs
namespace Go.Proofs.Ytnhbgijecdeahaa
open Go.RowKit Go.Fd
/-- May it be a name? -/
def mayS (s : List UInt8) : Bool := decide (s.length ≤ 128) && !decide (0 ∈ s)
theorem mayS_len {s : List UInt8} (h : mayS s = true) : s.length ≤ 128 := by unfold mayS at h; simp at h; exact h.1
theorem contains0 (s : List UInt8) (w : World) : Calls Try.prog 54 #[S s, .string ⟨#[0]⟩] w fun e w' => e = .returned (.bool (decide (0 ∈ s))) ∧ w = w' := by
  refine (Try.strings_Contains_one ⟨s.toArray⟩ 0 w).mono fun e w' ⟨he, hw⟩ => ⟨?_, hw.symm⟩
  rw [he]
  simp only [← Lib.contains_iff_indexByte, List.contains_eq_mem]
theorem sizeS (s : List UInt8) : (⟨s.toArray⟩ : ByteArray).size = s.length := by simp [ByteArray.size]
theorem strsMay_any (s : List UInt8) (w : World) : Calls Try.prog 55 #[S s] w fun e w' => e = .returned (.bool (mayS s)) ∧ w = w' := by
  by_cases h : s.length ≤ 128
  · have HR := Lib.hid (show mayS s = !decide (0 ∈ s) by unfold mayS; rw [decide_eq_true h, Bool.true_and])
    have h2 : (⟨s.toArray⟩ : ByteArray).size ≤ 128 := by rw [sizeS]; exact h
    go_enter Try.func55, Try.ntmps55
    go_wp2_with (go_at_call 54; go_must (refine (contains0 s _).mono ?_; rintro e w1 ⟨rfl, rfl⟩))
    go_ret
    exact ⟨by rw [HR.out]; rfl, rfl⟩
  · have HR := Lib.hid (show mayS s = false by unfold mayS; rw [decide_eq_false h, Bool.false_and])
    have h2 : ¬ (⟨s.toArray⟩ : ByteArray).size ≤ 128 := by rw [sizeS]; exact h
    go_enter Try.func55, Try.ntmps55
    go_wp2
    go_ret
    exact ⟨by rw [HR.out]; rfl, rfl⟩
end Go.Proofs.Ytnhbgijecdeahaa
namespace Go.Fd
open Go.RowKit Go.MapKept
open Go.ChangeMaps (setBlock heap_setBlock_same heap_setBlock_other modify_eq_set)
open Go.Maps (Keyed)
section
variable {κ : Type}
/-- A map's type, and how its keys are written. -/
structure KeyT (P : Program) (t k e : TypeId) (mk : κ → Value) : Prop where
  ht : P.underlying t = some (.map k e)
  K : Keyed P k
  inj : ∀ a b, mk a = mk b → a = b
/-- Block b is a map with the entries E, in the order in which they came. -/
def MapIs (P : Program) (k : TypeId) (mk : κ → Value) (w : World) (b : Nat) (E : List (κ × Value)) : Prop :=
  ∃ es clock, w.heap[b]? = some (.map es clock) ∧ es.toList.map (fun x => (x.key, x.val)) = E.map (fun p => (mk p.1, p.2)) ∧ es.size ≤ maxLen ∧ Stamped es clock ∧ ∀ x ∈ es.toList, ∃ l, keyOf P k x.key = some l
/-- An entry put in: in its key's place, or behind. -/
def putE [DecidableEq κ] (E : List (κ × Value)) (x : κ) (v : Value) : List (κ × Value) :=
  if x ∈ E.map (·.1) then E.map (fun p => if p.1 = x then (x, v) else p) else E ++ [(x, v)]
theorem lookup_of_mem [DecidableEq κ] {E : List (κ × Value)} (hn : (E.map (·.1)).Nodup) {x : κ} {v : Value} (h : (x, v) ∈ E) : E.lookup x = some v := by
  induction E with
  | nil => cases h
  | cons p E ih =>
    obtain ⟨y, u⟩ := p
    simp only [List.map_cons, List.nodup_cons] at hn
    rw [List.lookup_cons]
    rcases List.mem_cons.1 h with h | h
    · cases h; simp
    · have hne : ¬ x = y := fun e => hn.1 (e ▸ List.mem_map.2 ⟨_, h, rfl⟩)
      rw [show (x == y) = false by simpa using hne]
      exact ih hn.2 h
theorem lookup_none_of [DecidableEq κ] {E : List (κ × Value)} {x : κ} (h : x ∉ E.map (·.1)) : E.lookup x = none := by
  induction E with
  | nil => rfl
  | cons p E ih =>
    obtain ⟨y, u⟩ := p
    simp only [List.map_cons, List.mem_cons, not_or] at h
    rw [List.lookup_cons, show (x == y) = false by simpa using h.1]
    exact ih h.2
theorem lookup_mem [DecidableEq κ] {E : List (κ × Value)} {x : κ} {v : Value} (h : E.lookup x = some v) : (x, v) ∈ E := by
  induction E with
  | nil => cases h
  | cons p E ih =>
    obtain ⟨y, u⟩ := p
    rw [List.lookup_cons] at h
    by_cases e : x = y
    · subst e; simp at h; subst h; simp
    · rw [show (x == y) = false by simpa using e] at h
      exact List.mem_cons_of_mem _ (ih h)
theorem lookup_key [DecidableEq κ] {E : List (κ × Value)} {x : κ} : (∃ v, E.lookup x = some v) ↔ x ∈ E.map (·.1) := by
  constructor
  · rintro ⟨v, h⟩
    exact List.mem_map.2 ⟨_, lookup_mem h, rfl⟩
  · intro h
    cases hl : E.lookup x with
    | some v => exact ⟨v, rfl⟩
    | none =>
      exfalso
      induction E with
      | nil => cases h
      | cons p E ih =>
        obtain ⟨y, u⟩ := p
        rw [List.lookup_cons] at hl
        by_cases e : x = y
        · subst e; simp at hl
        · rw [show (x == y) = false by simpa using e] at hl
          simp only [List.map_cons, List.mem_cons] at h
          rcases h with h | h
          · exact e h
          · exact ih h hl
variable {P : Program} {t k e : TypeId} {mk : κ → Value} {w : World} {b : Nat} {E : List (κ × Value)}
theorem MapIs.lt (h : MapIs P k mk w b E) : b < w.heap.size := by
  obtain ⟨es, clock, hb, _⟩ := h
  exact (Array.getElem?_eq_some_iff.1 hb).1
theorem MapIs.kept {w' : World} {row : Option Nat} (h : MapIs P k mk w b E) (hg : w.grownBy w' row) (hne : some b ≠ row) : MapIs P k mk w' b E := by
  have hlt := h.lt
  obtain ⟨es, clock, hb, r⟩ := h
  exact ⟨es, clock, (hg.block b hlt hne).trans hb, r⟩
theorem MapIs.mono {w' : World} (h : MapIs P k mk w b E) (hb : Below w.heap.size w w') : MapIs P k mk w' b E := by
  have hlt := h.lt
  obtain ⟨es, clock, hb', r⟩ := h
  exact ⟨es, clock, (hb.block b hlt).trans hb', r⟩
theorem MapIs.nodup (h : MapIs P k mk w b E) : (E.map (·.1)).Nodup := by
  obtain ⟨es, clock, _, he, _, hs, _⟩ := h
  have h2 : (es.toList.map (·.key)).Nodup := hs.2.2
  have e1 : es.toList.map (·.key) = (E.map (·.1)).map mk := by
    have := congrArg (List.map (·.1)) he
    simpa [List.map_map, Function.comp_def] using this
  rw [e1] at h2
  unfold List.Nodup at h2 ⊢
  rw [List.pairwise_map] at h2
  exact h2.imp (fun hne e => hne (by rw [e]))
theorem MapIs.made (w : World) : MapIs P k mk (w.alloc (.map #[] 0)) w.heap.size ([] : List (κ × Value)) :=
  ⟨#[], 0, (MapKept.heap_alloc w _).1, by simp, by simp, stamped_empty 0, by simp⟩
/-- What a look-up gives. -/
def lookV (c : Bool) (z : Value) : Option Value → Value
  | some v => if c then .tuple #[v, .bool true] else v
  | none => if c then .tuple #[z, .bool false] else z
theorem MapIs.look [DecidableEq κ] (c : Bool) (h : MapIs P k mk w b E) (T : KeyT P t k e mk) {z : Value} (hz : (zeroValue e).run P w = .ok z w) {x : κ} {l : Lit} (hkey : keyOf P k (mk x) = some l) :
    (Instr.lookup t (.map (some b)) (mk x) c).run P w = .ok (lookV c z (E.lookup x)) w := by
  have hn := h.nodup
  obtain ⟨es, clock, hb, he, hsz, hs, hk⟩ := h
  rcases T.K.find w hkey es.toList hk with ⟨h1, h2⟩ | ⟨j, e0, h1, h2, h3⟩
  · have : E.lookup x = none := lookup_none_of fun hm => by
      obtain ⟨p, hp, rfl⟩ := List.mem_map.1 hm
      have : (mk p.1, p.2) ∈ es.toList.map (fun x => (x.key, x.val)) := by rw [he]; exact List.mem_map.2 ⟨p, hp, rfl⟩
      obtain ⟨y, hy, e1⟩ := List.mem_map.1 this
      exact h2 y hy (congrArg Prod.fst e1)
    rw [this]
    simp [Instr.lookup, run_underlying T.ht, MapKept.run_getObj_map hb, T.K.check w _ hkey, h1, hz, Result.andThen, lookV]
  · have hE : (E.map (fun p => (mk p.1, p.2)))[j]? = some (e0.key, e0.val) := by rw [← he, List.getElem?_map, h2]; rfl
    rw [List.getElem?_map] at hE
    obtain ⟨p, hp, e1⟩ := Option.map_eq_some_iff.1 hE
    obtain ⟨y, v⟩ := p
    simp only [Prod.mk.injEq] at e1
    obtain ⟨e1, rfl⟩ := e1
    obtain rfl := T.inj _ _ (e1.trans h3)
    rw [lookup_of_mem hn (List.mem_of_getElem? hp)]
    simp [Instr.lookup, run_underlying T.ht, MapKept.run_getObj_map hb, T.K.check w _ hkey, h1, Result.andThen, lookV]
theorem set_eq_map [DecidableEq κ] {E : List (κ × Value)} (hn : (E.map (·.1)).Nodup) {j : Nat} {x : κ} {u v : Value} (h : E[j]? = some (x, u)) : E.set j (x, v) = E.map (fun p => if p.1 = x then (x, v) else p) := by
  apply List.ext_getElem?
  intro i
  rw [List.getElem?_set, List.getElem?_map]
  have hj := (List.getElem?_eq_some_iff.1 h).1
  by_cases hij : j = i
  · subst hij
    rw [if_pos rfl, if_pos hj, h]
    simp
  · rw [if_neg hij]
    cases hi : E[i]? with
    | none => rfl
    | some p =>
      have hne : p.1 ≠ x := by
        intro e
        have hi' := (List.getElem?_eq_some_iff.1 hi).1
        unfold List.Nodup at hn
        rw [List.pairwise_map, List.pairwise_iff_getElem] at hn
        have g1 : E[i] = p := (List.getElem?_eq_some_iff.1 hi).2
        have g2 : E[j] = (x, u) := (List.getElem?_eq_some_iff.1 h).2
        rcases Nat.lt_or_gt_of_ne hij with hlt | hlt
        · exact hn j i hj hi' hlt (by rw [g1, g2, e])
        · exact hn i j hi' hj hlt (by rw [g1, g2, e])
      simp [hne]
theorem MapIs.store [DecidableEq κ] (h : MapIs P k mk w b E) (T : KeyT P t k e mk) (hroom : E.length < maxLen) {x : κ} {l : Lit} (hkey : keyOf P k (mk x) = some l) (v : Value) :
    ∃ w', (Instr.mapUpdate t (.map (some b)) (mk x) v).run P w = .ok () w' ∧ MapIs P k mk w' b (putE E x v) ∧ w.grownBy w' (some b) ∧ w'.heap.size = w.heap.size := by
  have hn := h.nodup
  obtain ⟨es, clock, hb, he, hsz, hs, hk⟩ := h
  have hlen : es.size = E.length := by have := congrArg List.length he; simpa using this
  rcases T.K.find w hkey es.toList hk with ⟨h1, h2⟩ | ⟨j, e0, h1, h2, h3⟩
  · have hnot : x ∉ E.map (·.1) := fun hm => by
      obtain ⟨p, hp, rfl⟩ := List.mem_map.1 hm
      have : (mk p.1, p.2) ∈ es.toList.map (fun x => (x.key, x.val)) := by rw [he]; exact List.mem_map.2 ⟨p, hp, rfl⟩
      obtain ⟨y, hy, e1⟩ := List.mem_map.1 this
      exact h2 y hy (congrArg Prod.fst e1)
    refine ⟨setBlock w b (.map (es.push ⟨mk x, v, clock⟩) (clock + 1)), ?_, ⟨_, _, heap_setBlock_same hb _, ?_, by simp; omega, stamped_push hs h2, ?_⟩, ⟨rfl, rfl, rfl, by simp [setBlock], fun i _ hi => heap_setBlock_other hb _ (fun e => hi (by rw [e]))⟩, by simp [setBlock]⟩
    · simp [Instr.mapUpdate, run_underlying T.ht, MapKept.run_getObj_map hb, T.K.check w false hkey, h1, MapKept.run_setObj_map _ hb, Result.andThen, setBlock]
    · rw [putE, if_neg hnot, Array.toList_push, List.map_append, he]; simp
    · intro y hy
      simp only [Array.toList_push, List.mem_append, List.mem_singleton] at hy
      rcases hy with hy | rfl
      · exact hk y hy
      · exact ⟨l, hkey⟩
  · have hj : es[j]? = some e0 := by simpa using h2
    have hE : (E.map (fun p => (mk p.1, p.2)))[j]? = some (e0.key, e0.val) := by rw [← he, List.getElem?_map, h2]; rfl
    rw [List.getElem?_map] at hE
    obtain ⟨p, hp, e1⟩ := Option.map_eq_some_iff.1 hE
    obtain ⟨y, u⟩ := p
    simp only [Prod.mk.injEq] at e1
    obtain ⟨e1, rfl⟩ := e1
    obtain rfl := T.inj _ _ (e1.trans h3)
    have hin : y ∈ E.map (·.1) := List.mem_map.2 ⟨_, List.mem_of_getElem? hp, rfl⟩
    have hkeyf : ∀ e', es[j]? = some e' → ({ e' with key := mk y, val := v } : MapEntry).key = e'.key := fun e' he' => by rw [hj] at he'; cases he'; exact h3.symm
    have hlist : (es.modify j (fun e' => { e' with key := mk y, val := v })).toList = es.toList.set j { e0 with key := mk y, val := v } := by rw [Array.toList_modify, modify_eq_set _ _ _ _ h2]
    refine ⟨setBlock w b (.map (es.modify j (fun e' => { e' with key := mk y, val := v })) clock), ?_, ⟨_, _, heap_setBlock_same hb _, ?_, by simpa using hsz, stamped_modify hs _ _ (fun _ _ => rfl) (fun e' _ he' => hkeyf e' he'), ?_⟩, ⟨rfl, rfl, rfl, by simp [setBlock], fun i _ hi => heap_setBlock_other hb _ (fun e => hi (by rw [e]))⟩, by simp [setBlock]⟩
    · simp [Instr.mapUpdate, run_underlying T.ht, MapKept.run_getObj_map hb, T.K.check w false hkey, h1, hj, h3, T.K.stays w hkey, MapKept.run_setObj_map _ hb, Result.andThen, setBlock]
    · rw [putE, if_pos hin, hlist, List.map_set, he, ← set_eq_map hn hp, List.map_set]
    · intro z hz
      rw [hlist] at hz
      rcases List.mem_or_eq_of_mem_set hz with hz | rfl
      · exact hk z hz
      · exact ⟨l, hkey⟩
/-- A loop over a map under way: 'left' is still to come. -/
def RangeIs (P : Program) (k : TypeId) (mk : κ → Value) (w : World) (b r : Nat) (E left : List (κ × Value)) : Prop :=
  ∃ es clock since seen c0, w.heap[b]? = some (.map es clock) ∧ es.toList.map (fun x => (x.key, x.val)) = E.map (fun p => (mk p.1, p.2)) ∧ es.size ≤ maxLen ∧ Stamped es clock ∧ (∀ x ∈ es.toList, ∃ l, keyOf P k x.key = some l) ∧
    w.heap[r]? = some (.mapIter (some b) since seen c0) ∧ (∀ x ∈ es.toList, x.born < since) ∧ since ≤ c0 ∧ since ≤ clock ∧ (leftOf es seen).toList.map (fun x => (x.key, x.val)) = left.map (fun p => (mk p.1, p.2))
theorem RangeIs.is {r : Nat} {left : List (κ × Value)} (h : RangeIs P k mk w b r E left) : MapIs P k mk w b E := by
  obtain ⟨es, clock, since, seen, c0, hb, he, hsz, hs, hk, _⟩ := h
  exact ⟨es, clock, hb, he, hsz, hs, hk⟩
theorem RangeIs.lt {r : Nat} {left : List (κ × Value)} (h : RangeIs P k mk w b r E left) : r < w.heap.size := by
  obtain ⟨es, clock, since, seen, c0, _, _, _, _, _, hr, _⟩ := h
  exact (Array.getElem?_eq_some_iff.1 hr).1
theorem RangeIs.ne {r : Nat} {left : List (κ × Value)} (h : RangeIs P k mk w b r E left) : r ≠ b := by
  obtain ⟨es, clock, since, seen, c0, hb, _, _, _, _, hr, _⟩ := h
  intro e
  rw [e, hb] at hr
  cases hr
theorem RangeIs.kept {w' : World} {row : Option Nat} {r : Nat} {left : List (κ × Value)} (h : RangeIs P k mk w b r E left) (hg : w.grownBy w' row) (hb' : some b ≠ row) (hr' : some r ≠ row) : RangeIs P k mk w' b r E left := by
  have h1 := h.is.lt
  have h2 := h.lt
  obtain ⟨es, clock, since, seen, c0, hb, he, hsz, hs, hk, hr, rest⟩ := h
  exact ⟨es, clock, since, seen, c0, (hg.block b h1 hb').trans hb, he, hsz, hs, hk, (hg.block r h2 hr').trans hr, rest⟩
theorem map_inj_left {α β : Type} {f : α → β} (hf : ∀ a b, f a = f b → a = b) : ∀ {l m : List α}, l.map f = m.map f → l = m
  | [], [], _ => rfl
  | [], _ :: _, h => by simp at h
  | _ :: _, [], h => by simp at h
  | a :: l, b :: m, h => by
    simp only [List.map_cons, List.cons.injEq] at h
    rw [hf _ _ h.1, map_inj_left hf h.2]
theorem filter_related {α β γ : Type} {f : α → γ} {g : β → γ} {p : α → Bool} {q : β → Bool} : ∀ {l : List α} {m : List β}, l.map f = m.map g → (∀ a b, a ∈ l → b ∈ m → f a = g b → p a = q b) → (l.filter p).map f = (m.filter q).map g
  | [], [], _, _ => rfl
  | [], _ :: _, h, _ => by simp at h
  | _ :: _, [], h, _ => by simp at h
  | a :: l, b :: m, h, hpq => by
    simp only [List.map_cons, List.cons.injEq] at h
    have ih := filter_related h.2 (p := p) (q := q) fun a' b' ha hb => hpq a' b' (by simp [ha]) (by simp [hb])
    rw [List.filter_cons, List.filter_cons, hpq a b (by simp) (by simp) h.1]
    split
    · rw [List.map_cons, List.map_cons, h.1, ih]
    · exact ih
theorem RangeIs.sub {r : Nat} {left : List (κ × Value)} (T : KeyT P t k e mk) (h : RangeIs P k mk w b r E left) : left.Sublist E := by
  obtain ⟨es, clock, since, seen, c0, hb, he, hsz, hs, hk, hr, _, _, _, hl⟩ := h
  have h1 : ((leftOf es seen).toList.map (fun x => (x.key, x.val))).Sublist (es.toList.map (fun x => (x.key, x.val))) := by
    unfold leftOf
    rw [Array.toList_filter]
    exact List.filter_sublist.map _
  rw [hl, he] at h1
  obtain ⟨l', h2, h3⟩ := List.sublist_map_iff.1 h1
  have : left = l' := map_inj_left (fun a b hab => by
    simp only [Prod.mk.injEq] at hab
    exact Prod.ext (T.inj _ _ hab.1) hab.2) h3
  rw [this]
  exact h2
theorem RangeIs.left_eq {r : Nat} {left : List (κ × Value)} (h : RangeIs P k mk w b r E left) : w.rangeLeft b r = left.length := by
  obtain ⟨es, clock, since, seen, c0, hb, _, _, _, _, hr, _, _, _, hl⟩ := h
  have := congrArg List.length hl
  simp only [List.length_map] at this
  simp only [World.rangeLeft, hb, hr]
  simpa using this
theorem MapIs.range (h : MapIs P k mk w b E) (ht : P.underlying t = some (.map k e)) :
    ∃ w', (Instr.range t (.map (some b))).run P w = .ok (.pointer (some ⟨w.heap.size, 0, none⟩)) w' ∧ RangeIs P k mk w' b w.heap.size E E ∧ w.grownBy w' none ∧ w'.heap.size = w.heap.size + 1 := by
  have hlt := h.lt
  obtain ⟨es, clock, hb, he, hsz, hs, hk⟩ := h
  refine ⟨_, run_range_map w t k e b es clock ht hb, ⟨es, clock, clock, #[], clock, ((MapKept.heap_alloc w _).2 b hlt).trans hb, he, hsz, hs, hk, (MapKept.heap_alloc w _).1, hs.1, Nat.le_refl _, Nat.le_refl _, ?_⟩, World.grownBy_alloc w _ none, by simp⟩
  rw [← he]
  congr 1
  simp [leftOf]
theorem RangeIs.next [DecidableEq κ] {r : Nat} {left : List (κ × Value)} (h : RangeIs P k mk w b r E left) (T : KeyT P t k e mk) (ty : TypeId) :
    (left = [] ∧ (Instr.next (.pointer (some ⟨r, 0, none⟩)) false ty).run P w = .ok (.tuple #[.bool false]) w) ∨
    ∃ p w', p ∈ left ∧ (Instr.next (.pointer (some ⟨r, 0, none⟩)) false ty).run P w = .ok (.tuple #[.bool true, mk p.1, p.2]) w' ∧ RangeIs P k mk w' b r E (left.filter (fun q => q.1 ≠ p.1)) ∧ w.grownBy w' (some r) ∧ w'.heap.size = w.heap.size ∧
      (Instr.entry (.pointer (some ⟨r, 0, none⟩))).run P w' = .ok (.tuple #[mk p.1, p.2]) w' := by
  have hne := h.ne
  obtain ⟨es, clock, since, seen, c0, hb, he, hsz, hs, hk, hr, hold, hsc, hsk, hl⟩ := h
  rcases run_next_at (P := P) w ty r b since c0 seen es clock hr hb hold hsc with ⟨h0, hrun⟩ | ⟨x, hx, w1, hal, hrun⟩
  · refine Or.inl ⟨?_, hrun⟩
    have := congrArg List.length hl
    simp at this
    cases left with
    | nil => rfl
    | cons p l => simp at this; omega
  · obtain ⟨hem, hes⟩ := mem_left hx
    have hp : (x.key, x.val) ∈ left.map (fun p => (mk p.1, p.2)) := by rw [← hl]; exact List.mem_map.2 ⟨x, hx, rfl⟩
    obtain ⟨p, hp, e1⟩ := List.mem_map.1 hp
    simp only [Prod.mk.injEq] at e1
    obtain ⟨e1, e2⟩ := e1
    have hr1 : w1.heap[r]? = some (.mapIter (some b) since seen c0) := by rcases hal with rfl | rfl <;> exact hr
    have hb1 : w1.heap[b]? = some (.map es clock) := by rcases hal with rfl | rfl <;> exact hb
    have hset := heap_set (o' := .mapIter (some b) since (seen.push x.born) clock) hr1
    have hb' : (setBlock w1 r (.mapIter (some b) since (seen.push x.born) clock)).heap[b]? = some (.map es clock) := (hset.2 b (fun e1 => hne e1.symm)).trans hb1
    have hst := (stamped_iff es clock).1 hs
    rw [← e1, ← e2] at hrun
    refine Or.inr ⟨p, _, hp, hrun, ⟨es, clock, since, seen.push x.born, clock, hb', he, hsz, hs, hk, hset.1, hold, hsk, hsk, ?_⟩, ?_, ?_, ?_⟩
    · have e3 : (leftOf es (seen.push x.born)).toList = (leftOf es seen).toList.filter (fun y => y.born != x.born) := by
        unfold leftOf
        simp only [Array.toList_filter, List.filter_filter]
        refine List.filter_congr fun y _ => ?_
        rw [contains_push]
        cases seen.contains y.born <;> simp [bne]
      rw [e3]
      refine filter_related hl fun y q hy _ hyq => ?_
      simp only [Prod.mk.injEq] at hyq
      have hym := (mem_left hy).1
      by_cases h : q.1 = p.1
      · have : y = x := entry_eq_of_key hst.2.2 hym hem (by rw [hyq.1, h, e1])
        subst this
        simp [h]
      · have : y.born ≠ x.born := fun e => by
          have := born_inj hst.2.1 hym hem e
          subst this
          exact h (T.inj _ _ (hyq.1.symm.trans e1.symm))
        simp [h, this]
    · rcases hal with rfl | rfl <;> exact ⟨rfl, rfl, rfl, by simp [setBlock], fun i _ hi => hset.2 i (fun e1 => hi (by rw [e1]))⟩
    · rcases hal with rfl | rfl <;> simp [setBlock]
    · rw [e1, e2]
      exact run_entry_at _ r b since seen es clock x hset.1 hb' hem hst.2.1
theorem RangeIs.nodup {r : Nat} {left : List (κ × Value)} (T : KeyT P t k e mk) (h : RangeIs P k mk w b r E left) : (left.map (·.1)).Nodup := (h.sub T).map _ |>.nodup h.is.nodup
section
variable {ops : Array Oper} {rest : List Oper} {Q : Exit → Act → World → Prop} {a : Act} {d : Option Tmp} {ty : TypeId} {pos : String} {aft : Array Edge} {m x : Operand}
/-- 'range m'. -/
theorem wpList_rangeM (ht : P.underlying t = some (.map k e)) (h : MapIs P k mk w b E) (hm : a.eval m = .map (some b))
    (hK : ∀ w', RangeIs P k mk w' b w.heap.size E E → w.grownBy w' none → w'.heap.size = w.heap.size + 1 → wpList P ops Q rest (a.put d (.pointer (some ⟨w.heap.size, 0, none⟩))) w') :
    wpList P ops Q (⟨d, .range t m, ty, pos, aft, none⟩ :: rest) a w := by
  obtain ⟨w', hrun, r1, r2, r3⟩ := h.range ht
  refine wpList_val rfl (v := .pointer (some ⟨w.heap.size, 0, none⟩)) (w' := w') ?_ (hK w' r1 r2 r3)
  simp [execOp, hm, hrun, Result.andThen]
/-- The loop's step. -/
theorem wpList_nextM [DecidableEq κ] {r : Nat} {left : List (κ × Value)} (T : KeyT P t k e mk) (h : RangeIs P k mk w b r E left) (hm : a.eval m = .pointer (some ⟨r, 0, none⟩))
    (hDone : left = [] → wpList P ops Q rest (a.put d (.tuple #[.bool false])) w)
    (hMore : ∀ p w', p ∈ left → RangeIs P k mk w' b r E (left.filter (fun q => q.1 ≠ p.1)) → w.grownBy w' (some r) → w'.heap.size = w.heap.size →
      (Instr.entry (.pointer (some ⟨r, 0, none⟩))).run P w' = .ok (.tuple #[mk p.1, p.2]) w' → wpList P ops Q rest (a.put d (.tuple #[.bool true, mk p.1, p.2])) w') :
    wpList P ops Q (⟨d, .next m false, ty, pos, aft, none⟩ :: rest) a w := by
  rcases h.next T ty with ⟨h0, hrun⟩ | ⟨p, w', h1, hrun, h2, h3, h4, h5⟩
  · refine wpList_val rfl (v := .tuple #[.bool false]) (w' := w) ?_ (hDone h0)
    simp [execOp, hm, hrun, Result.andThen]
  · refine wpList_val rfl (v := .tuple #[.bool true, mk p.1, p.2]) (w' := w') ?_ (hMore p w' h1 h2 h3 h4 h5)
    simp [execOp, hm, hrun, Result.andThen]
/-- 'm[k]', 'v, ok := m[k]'. -/
theorem wpList_lookM [DecidableEq κ] (T : KeyT P t k e mk) (h : MapIs P k mk w b E) {z : Value} (hz : (zeroValue e).run P w = .ok z w) {key : κ} {l : Lit} (hkey : keyOf P k (mk key) = some l) {c : Bool} {v : Value} (hv : lookV c z (E.lookup key) = v) (hm : a.eval m = .map (some b)) (hx : a.eval x = mk key)
    (hK : wpList P ops Q rest (a.put d v) w) : wpList P ops Q (⟨d, .lookup t m x c, ty, pos, aft, none⟩ :: rest) a w := by
  refine wpList_val rfl (v := v) (w' := w) ?_ hK
  have := h.look c T hz hkey
  rw [hv] at this
  simp [execOp, hm, hx, this, Result.andThen]
/-- A map literal's entry. -/
theorem wpList_insertM [DecidableEq κ] (T : KeyT P t k e mk) (h : MapIs P k mk w b E) (hroom : E.length < maxLen) {v : Operand} {key : κ} {l : Lit} {val : Value} (hkey : keyOf P k (mk key) = some l) (hm : a.eval m = .map (some b)) (hx : a.eval x = mk key) (hv : a.eval v = val)
    (hK : ∀ w', MapIs P k mk w' b (putE E key val) → w.grownBy w' (some b) → w'.heap.size = w.heap.size → wpList P ops Q rest (a.put d undef) w') :
    wpList P ops Q (⟨d, .insert t m x v, ty, pos, aft, none⟩ :: rest) a w := by
  obtain ⟨w', hrun, r1, r2, r3⟩ := h.store T hroom hkey val
  refine wpList_did rfl (w' := w') ?_ (hK w' r1 r2 r3)
  simp [execOp, hm, hx, hv, hrun, Result.andThen]
/-- 'm[k] = v'. -/
theorem wpList_storeM [DecidableEq κ] (T : KeyT P t k e mk) (h : MapIs P k mk w b E) (hroom : E.length < maxLen) {v : Operand} {key : κ} {l : Lit} {val : Value} (hkey : keyOf P k (mk key) = some l) (hm : a.eval m = .map (some b)) (hx : a.eval x = mk key) (hv : a.eval v = val)
    (hK : ∀ w', MapIs P k mk w' b (putE E key val) → w.grownBy w' (some b) → w'.heap.size = w.heap.size → wpList P ops Q rest (a.put d undef) w') :
    wpList P ops Q (⟨d, .mapUpdate t m x v, ty, pos, aft, none⟩ :: rest) a w := by
  obtain ⟨w', hrun, r1, r2, r3⟩ := h.store T hroom hkey val
  refine wpList_did rfl (w' := w') ?_ (hK w' r1 r2 r3)
  simp [execOp, hm, hx, hv, hrun, Result.andThen]
end
end
end Go.Fd
namespace Go.Proofs.Ytnhbgijecdeahaa
open Go.RowKit Go.Fd
abbrev I64 (n : Nat) : Value := .int .i64 (n : Int)
theorem TI : SliceT Try.prog 112 3 1 8 := SliceT.mk' (z := .int .i64 0) (by kernel_rfl) (by kernel_rfl) rfl (by omega)
/-- A name's place in a list of them. -/
abbrev lkp {κ ν : Type} [DecidableEq κ] (E : List (κ × ν)) (x : κ) : Option ν := @List.lookup κ ν instBEqOfDecidableEq x E
/-- A table under way: its bytes, the places of names, what is told. -/
structure Tab where
  tab : List UInt8
  at_ : List (List UInt8 × Nat)
  out : List Nat
def stepB (t : Tab) (s : List UInt8) : Tab := match lkp t.at_ s with
  | some p => ⟨t.tab, t.at_, t.out ++ [p]⟩
  | none => ⟨t.tab ++ s ++ [0], t.at_ ++ [(s, t.tab.length)], t.out ++ [t.tab.length]⟩
def startB : Tab := ⟨[0], [([], 0)], []⟩
def buildT (names : List (List UInt8)) : Tab := names.foldl stepB startB
def buildR (names : List (List UInt8)) : List UInt8 × List Nat × Int :=
  if names.all mayS = true then (if 1048576 < (buildT names).tab.length then ([], [], 6) else ((buildT names).tab, (buildT names).out, 0)) else ([], [], 7)
theorem buildT_snoc (l : List (List UInt8)) (s : List UInt8) : buildT (l ++ [s]) = stepB (buildT l) s := by simp [buildT]
theorem step_len (t : Tab) (s : List UInt8) : (stepB t s).tab.length ≤ t.tab.length + s.length + 1 ∧ (stepB t s).out.length = t.out.length + 1 ∧ (stepB t s).at_.length ≤ t.at_.length + 1 := by
  unfold stepB
  split <;> simp <;> omega
theorem buildT_len (l : List (List UInt8)) (h : ∀ s ∈ l, s.length ≤ 128) : (buildT l).tab.length ≤ 1 + 129 * l.length ∧ (buildT l).out.length = l.length ∧ (buildT l).at_.length ≤ 1 + l.length := by
  unfold buildT
  have : ∀ (l : List (List UInt8)) (t : Tab), (∀ s ∈ l, s.length ≤ 128) → (l.foldl stepB t).tab.length ≤ t.tab.length + 129 * l.length ∧ (l.foldl stepB t).out.length = t.out.length + l.length ∧ (l.foldl stepB t).at_.length ≤ t.at_.length + l.length := by
    intro l
    induction l with
    | nil => intro t _; simp
    | cons s l ih =>
      intro t h
      have h1 := step_len t s
      have h2 := ih (stepB t s) (fun x hx => h x (by simp [hx]))
      have h3 := h s (by simp)
      rw [List.foldl_cons, List.length_cons]
      omega
  have h1 := this l startB h
  have e1 : startB.tab.length = 1 := rfl
  have e2 : startB.out.length = 0 := rfl
  have e3 : startB.at_.length = 1 := rfl
  omega
def entE (p : List UInt8 × Nat) : List UInt8 × Value := (p.1, I64 p.2)
theorem lkp_map {κ ν ν' : Type} [DecidableEq κ] (f : ν → ν') (A : List (κ × ν)) (s : κ) : lkp (A.map fun p => (p.1, f p.2)) s = (lkp A s).map f := by
  induction A with
  | nil => rfl
  | cons p A ih =>
    obtain ⟨q, n⟩ := p
    unfold lkp at *
    rw [List.map_cons, List.lookup_cons, List.lookup_cons]
    by_cases h : s = q
    · simp [h]
    · rw [show (s == q) = false by simpa using h]
      exact ih
theorem lookup_ent (A : List (List UInt8 × Nat)) (s : List UInt8) : lkp (A.map entE) s = (lkp A s).map I64 := lkp_map I64 A s
theorem putE_ent {A : List (List UInt8 × Nat)} {s : List UInt8} (h : lkp A s = none) (n : Nat) : putE (A.map entE) s (I64 n) = (A ++ [(s, n)]).map entE := by
  rw [putE, if_neg, List.map_append]
  · rfl
  · intro hm
    obtain ⟨v, hv⟩ := lookup_key.2 hm
    have hv2 : lkp (A.map entE) s = some v := hv
    rw [lookup_ent, h] at hv2
    cases hv2
theorem lkp_app {κ ν : Type} [DecidableEq κ] {A : List (κ × ν)} {s : κ} (h : lkp A s = none) (n : ν) : lkp (A ++ [(s, n)]) s = some n := by
  induction A with
  | nil => simp [lkp]
  | cons p A ih =>
    obtain ⟨q, x⟩ := p
    unfold lkp at *
    rw [List.lookup_cons] at h
    rw [List.cons_append, List.lookup_cons]
    by_cases e : s = q
    · rw [show (s == q) = true by simpa using e] at h
      cases h
    · rw [show (s == q) = false by simpa using e] at h ⊢
      exact ih h
theorem own_noMap' {κ : Type} {mk : κ → Value} {w : World} {base e size n : Nat} {v : Value} {xs : List Value} {P : Program} {k : TypeId} {b : Nat} {E : List (κ × Value)} (h : w.ownsRow base e size v n xs) (hm : MapIs P k mk w b E) : some b ≠ v.ownBlock := by
  obtain ⟨es, c, hb, _⟩ := hm
  exact fun e => own_noMap h hb e.symm
theorem TMS : KeyT Try.prog 93 9 3 S := ⟨by kernel_rfl, Maps.string_keyed (by kernel_rfl), fun a b h => by simpa [S] using h⟩
theorem zeroI (w : World) : (zeroValue 3).run Try.prog w = .ok (.int .i64 0) w := by kernel_rfl
theorem keyS (s : List UInt8) (h : s.length ≤ 128) : ∃ l, keyOf Try.prog 9 (S s) = some l := ⟨_, Go.WideMaps.keyOf_string_mk (by kernel_rfl) (by rw [sizeS]; unfold maxLen; omega)⟩
set_option maxRecDepth 100000 in
set_option maxHeartbeats 1000000 in
theorem build_any (names : List (List UInt8)) (v : Value) (w : World) (hn : names.length ≤ 100000) (hv : Rd S w v names) :
    Calls Try.prog 44 #[v] w fun e w' => ∃ v1 v2, e = .returned (.tuple #[v1, v2, .int .i64 (buildR names).2.2]) ∧ OB w' w.heap.size v1 (buildR names).1 ∧ Ow I64 3 w' w.heap.size v2 (buildR names).2.1 ∧ Below w.heap.size w w' := by
  have HV := Lib.hid hv
  obtain ⟨m, ad, cap, hm, rfl, hmc, _⟩ := hv.shape
  have hm' : m ≤ 100000 := by have := hm.out; omega
  have hmm := @run_makeMap Try.prog
  obtain ⟨k0, hk0⟩ := keyS [] (by simp)
  have hmd := MapIs.made (P := Try.prog) (k := 9) (mk := S) (w.alloc (.cells #[.int .u8 0] 5))
  rw [World.size_alloc] at hmd
  have HMD := Lib.hid hmd
  clear hmd
  go_enter Try.func44, Try.ntmps44
  go_wp2_with (with_reducible show wpList _ _ _ (⟨_, .insert _ _ _ _, _, _, _, _⟩ :: _) _ _; go_must (refine wpList_insertM TMS HMD.out (by unfold maxLen; simp) (key := []) hk0 rfl rfl rfl ?_; intro w1 hm1 hg1 hs1))
  have hbm := hm1.lt
  have HB0 : Hid (Below w.heap.size w w1) := by
    refine ((below_alloc w (.cells #[.int .u8 0] 5)).trans ((below_alloc (w.alloc (.cells #[.int .u8 0] 5)) (.map #[] 0)).mono (by simp))).trans (below_of_grown hg1 (by simp; omega) fun k hk => by cases hk; omega)
  have hob : OB (w.alloc (.cells #[.int .u8 0] 5)) w.heap.size (.slice (some ⟨w.heap.size, 0, none⟩) 1 1) [0] := ob_lit w [0] _ 1 rfl rfl (by omega)
  have HOB := Lib.hid (show OB w1 w.heap.size (.slice (some ⟨w.heap.size, 0, none⟩) 1 1) [0] from owns_grown (hob.mono (below_alloc _ _)) hg1 fun k hk h => by simp only [Value.ownBlock, Option.some.injEq] at hk h; omega)
  have HM1 := Lib.hid hm1
  clear hm1 hg1 hs1 hob
  go_loopw [5, 7, 17] (fun vt vl i wr => ∃ k : Nat, i = .int .i64 k ∧ k ≤ m ∧ Hid ((names.take k).all mayS = true) ∧ Hid (OB wr w.heap.size vt (buildT (names.take k)).tab) ∧ Hid (Ow I64 3 wr w.heap.size vl (buildT (names.take k)).out) ∧
    Hid (MapIs Try.prog 9 S wr (w.heap.size + 1) ((buildT (names.take k)).at_.map entE)) ∧ Hid (Below w.heap.size w wr)) (fun _ _ i _ => m - (intOf i).toNat)
  case atStart => exact ⟨0, rfl, Nat.zero_le _, rfl, HOB.out, Ow.nil _ _ _ _, HM1.out, HB0.out⟩
  case round =>
    obtain ⟨k, rfl, hk, HALL, HOW, HOL, HMP, HB⟩ := hrel
    by_cases hlt : k < m
    · obtain ⟨ad', cap', e1, _, _, hc⟩ := (HV.out.mono HB.out).open []
      simp only [Value.slice.injEq] at e1
      obtain ⟨rfl, -, rfl⟩ := e1
      obtain ⟨b, off, rfl, hcell⟩ := hc k (by have := hm.out; omega)
      have HT := Lib.hid (take_snoc' names k (names[k]?.getD []) (by rw [List.getElem?_eq_getElem (by have := hm.out; omega)]; rfl))
      clear hc
      generalize names[k]?.getD [] = s at *
      cases hmay : mayS s with
      | false =>
        have HR := Lib.hid (show buildR names = ([], [], 7) by
          unfold buildR
          rw [if_neg]
          intro hall
          have h1 : (names.take (k + 1)).all mayS = true := by
            rw [List.all_eq_true] at hall ⊢
            exact fun x hx => hall x (List.mem_of_mem_take hx)
          rw [HT.out, List.all_append] at h1
          simp [hmay] at h1)
        have HC := Lib.hid (strsMay_any s wr)
        rw [hmay] at HC
        clear hmay
        go_wp2_with (go_at_call 55; go_must (refine HC.out.mono ?_; rintro e w2 ⟨rfl, rfl⟩))
        go_ret3
        rw [HR.out]
        exact ⟨_, _, rfl, OB.nil _ _, Ow.nil _ _ _ _, HB.out⟩
      | true =>
        have HC := Lib.hid (strsMay_any s wr)
        rw [hmay] at HC
        have HLS := Lib.hid (mayS_len hmay)
        have HALL2 := Lib.hid (show (names.take (k + 1)).all mayS = true by rw [HT.out, List.all_append, HALL.out]; simp [hmay])
        have HLEN := Lib.hid (buildT_len (names.take k) (fun x hx => mayS_len (List.all_eq_true.1 HALL.out x hx)))
        have HKL := Lib.hid (show (names.take k).length = k by rw [List.length_take]; have := hm.out; omega)
        have HBT := Lib.hid (show buildT (names.take (k + 1)) = stepB (buildT (names.take k)) s by rw [HT.out, buildT_snoc])
        clear hmay
        obtain ⟨kl, hkl⟩ := keyS s HLS.out
        generalize buildT (names.take k) = t at *
        have hlenT : t.tab.length ≤ 12900001 := by have := HLEN.out.1; have := HKL.out; omega
        have hlenO : t.out.length ≤ 100000 := by have := HLEN.out.2.1; have := HKL.out; omega
        have hlenA : (t.at_.map entE).length < maxLen := by have := HLEN.out.2.2; have := HKL.out; rw [List.length_map]; unfold maxLen; omega
        have HLA := Lib.hid hlenA
        clear hlenA
        have hls := HLS.out
        have hBw : w.heap.size ≤ wr.heap.size := HB.out.size
        cases hlk : lkp t.at_ s with
        | some p =>
          have HK1 := Lib.hid (show lkp (t.at_.map entE) s = some (I64 p) by rw [lookup_ent, hlk]; rfl)
          have HL1 : Hid (lookV true (.int .i64 0) (lkp (t.at_.map entE) s) = .tuple #[I64 p, .bool true]) := congrArg (lookV true (.int .i64 0)) HK1.out
          have HL2 : Hid (lookV false (.int .i64 0) (lkp (t.at_.map entE) s) = I64 p) := congrArg (lookV false (.int .i64 0)) HK1.out
          have HST := Lib.hid (show stepB t s = ⟨t.tab, t.at_, t.out ++ [p]⟩ by unfold stepB; rw [hlk])
          clear hlk
          go_wp2_with (first
            | (go_at_call 55; go_must (refine HC.out.mono ?_; rintro e w2 ⟨rfl, rfl⟩))
            | ((with_reducible show wpList _ _ _ (⟨some 27, _, _, _, _, _⟩ :: _) _ _); go_must (refine wpList_lookM TMS HMP.out (zeroI _) hkl HL1.out rfl rfl ?_))
            | ((with_reducible show wpList _ _ _ (⟨some 44, _, _, _, _, _⟩ :: _) _ _); go_must (refine wpList_lookM TMS HMP.out (zeroI _) hkl HL2.out rfl rfl ?_))
            | ((with_reducible show wpList _ _ _ (⟨some 46, _, _, _, _, _⟩ :: _) _ _); go_must (refine wpList_pushE TI HOL.out rfl rfl p rfl rfl (by omega) (by omega) hBw ?_; intro v3 w3 hv3 hg3 hb3)))
          have ht : buildT (names.take (k + 1)) = ⟨t.tab, t.at_, t.out ++ [p]⟩ := HBT.out.trans HST.out
          have G1 : Hid (OB w3 w.heap.size u5 (buildT (names.take (k + 1))).tab) := by rw [ht]; exact owns_grown HOW.out hg3 (fun q hq h => own_apart HOW.out HOL.out (by decide) hq h)
          have G2 : Hid (Ow I64 3 w3 w.heap.size v3 (buildT (names.take (k + 1))).out) := by rw [ht]; exact hv3
          have G3 : Hid (MapIs Try.prog 9 S w3 (w.heap.size + 1) ((buildT (names.take (k + 1))).at_.map entE)) := by rw [ht]; exact HMP.out.kept hg3 (own_noMap' HOL.out HMP.out)
          have G4 := Lib.hid (HB.out.trans hb3)
          clear ht
          go_roundw
          case rel =>
            first
              | exact ⟨k + 1, by go_num, by omega, HALL2.out, G1.out, G2.out, G3.out, G4.out⟩
              | ((repeat apply Exists.intro); exact ⟨⟨k + 1, by go_num, by omega, HALL2.out, G1.out, G2.out, G3.out, G4.out⟩, rfl⟩)
          case measure => simp [intOf] <;> omega
        | none =>
          have HK1 := Lib.hid (show lkp (t.at_.map entE) s = none by rw [lookup_ent, hlk]; rfl)
          have HL1 : Hid (lookV true (.int .i64 0) (lkp (t.at_.map entE) s) = .tuple #[.int .i64 0, .bool false]) := congrArg (lookV true (.int .i64 0)) HK1.out
          have HPE := Lib.hid (putE_ent hlk t.tab.length)
          have HK2 := Lib.hid (show lkp ((t.at_ ++ [(s, t.tab.length)]).map entE) s = some (I64 t.tab.length) by rw [lookup_ent, lkp_app hlk]; rfl)
          have HL2 : Hid (lookV false (.int .i64 0) (lkp ((t.at_ ++ [(s, t.tab.length)]).map entE) s) = I64 t.tab.length) := congrArg (lookV false (.int .i64 0)) HK2.out
          have HST := Lib.hid (show stepB t s = ⟨t.tab ++ s ++ [0], t.at_ ++ [(s, t.tab.length)], t.out ++ [t.tab.length]⟩ by unfold stepB; rw [hlk])
          obtain ⟨mt, vta, capt, hmt, rfl, _, _⟩ := HOW.out.shape
          clear hlk
          go_wp2_with (first
            | (go_at_call 55; go_must (refine HC.out.mono ?_; rintro e w2 ⟨rfl, rfl⟩))
            | ((with_reducible show wpList _ _ _ (⟨some 27, _, _, _, _, _⟩ :: _) _ _); go_must (refine wpList_lookM TMS HMP.out (zeroI _) hkl HL1.out rfl rfl ?_))
            | (at_mapUpdate; go_must (refine wpList_storeM TMS HMP.out HLA.out (key := s) (val := I64 mt) hkl rfl rfl rfl ?_; intro w3 hm3 hg3 hs3; rw [hmt.out, HPE.out] at hm3; have hb3 := below_of_grown (B := w.heap.size) hg3 hBw (fun q hq => by cases hq; omega); have HM3 := Lib.hid hm3; have HO3 := Lib.hid (show OB w3 w.heap.size (.slice vta mt capt) t.tab from owns_grown HOW.out hg3 (fun q hq h => by cases h; exact own_noMap' HOW.out HMP.out hq.symm)); have HL3 := Lib.hid (show Ow I64 3 w3 w.heap.size u7 t.out from owns_grown HOL.out hg3 (fun q hq h => by cases h; exact own_noMap' HOL.out HMP.out hq.symm)); have hB3 : w.heap.size ≤ w3.heap.size := (by omega); clear hm3 hg3 hs3))
            | ((with_reducible show wpList _ _ _ (⟨some 38, _, _, _, _, _⟩ :: _) _ _); go_must (refine wpList_catS HO3.out rfl rfl (by omega) hB3 ?_; intro v4 w4 hv4 hg4 hb4; have HO4 := Lib.hid hv4; have HL4 := Lib.hid (show Ow I64 3 w4 w.heap.size u7 t.out from owns_grown HL3.out hg4 (fun q hq h => own_apart HL3.out HO3.out (by decide) hq h)); have HM4 := Lib.hid (HM3.out.kept hg4 (own_noMap' HO3.out HM3.out)); have hB4 : w.heap.size ≤ w4.heap.size := Nat.le_trans hB3 hg4.size; clear hv4 hg4))
            | ((with_reducible show wpList _ _ _ (⟨some 40, _, _, _, _, _⟩ :: _) _ _); go_must (refine wpList_pushB HO4.out rfl rfl 0 rfl (by simp; omega) hB4 ?_; intro v5 w5 hv5 hg5 hb5; have HO5 := Lib.hid hv5; have HL5 := Lib.hid (show Ow I64 3 w5 w.heap.size u7 t.out from owns_grown HL4.out hg5 (fun q hq h => own_apart HL4.out HO4.out (by decide) hq h)); have HM5 := Lib.hid (HM4.out.kept hg5 (own_noMap' HO4.out HM4.out)); have hB5 : w.heap.size ≤ w5.heap.size := Nat.le_trans hB4 hg5.size; clear hv5 hg5))
            | ((with_reducible show wpList _ _ _ (⟨some 44, _, _, _, _, _⟩ :: _) _ _); go_must (refine wpList_lookM TMS HM5.out (zeroI _) hkl HL2.out rfl rfl ?_))
            | ((with_reducible show wpList _ _ _ (⟨some 46, _, _, _, _, _⟩ :: _) _ _); go_must (refine wpList_pushE TI HL5.out rfl rfl t.tab.length rfl rfl (by omega) (by omega) hB5 ?_; intro v6 w6 hv6 hg6 hb6)))
          have ht : buildT (names.take (k + 1)) = ⟨t.tab ++ s ++ [0], t.at_ ++ [(s, t.tab.length)], t.out ++ [t.tab.length]⟩ := HBT.out.trans HST.out
          have G1 : Hid (OB w6 w.heap.size v5 (buildT (names.take (k + 1))).tab) := by rw [ht]; exact owns_grown HO5.out hg6 (fun q hq h => own_apart HO5.out HL5.out (by decide) hq h)
          have G2 : Hid (Ow I64 3 w6 w.heap.size v6 (buildT (names.take (k + 1))).out) := by rw [ht]; exact hv6
          have G3 : Hid (MapIs Try.prog 9 S w6 (w.heap.size + 1) ((buildT (names.take (k + 1))).at_.map entE)) := by rw [ht]; exact HM5.out.kept hg6 (own_noMap' HL5.out HM5.out)
          have G4 := Lib.hid (HB.out.trans (hb3.trans (hb4.trans (hb5.trans hb6))))
          clear ht
          go_roundw
          case rel =>
            first
              | exact ⟨k + 1, by go_num, by omega, HALL2.out, G1.out, G2.out, G3.out, G4.out⟩
              | ((repeat apply Exists.intro); exact ⟨⟨k + 1, by go_num, by omega, HALL2.out, G1.out, G2.out, G3.out, G4.out⟩, rfl⟩)
          case measure => simp [intOf] <;> omega
    · have hkm : k = m := by omega
      have HKM := Lib.hid (show names.take k = names by rw [hkm, hm.out, List.take_length])
      rw [HKM.out] at HALL HOW HOL
      have HLN := Lib.hid (buildT_len names (fun x hx => mayS_len (List.all_eq_true.1 HALL.out x hx)))
      obtain ⟨mt, vta, capt, hmt, rfl, _, _⟩ := HOW.out.shape
      clear hkm
      by_cases hbig : 1048576 < mt
      · have HR := Lib.hid (show buildR names = ([], [], 6) by unfold buildR; rw [if_pos HALL.out, if_pos (by rw [← hmt.out]; exact hbig)])
        go_wp2
        go_ret3
        rw [HR.out]
        exact ⟨_, _, rfl, OB.nil _ _, Ow.nil _ _ _ _, HB.out⟩
      · have HR := Lib.hid (show buildR names = ((buildT names).tab, (buildT names).out, 0) by unfold buildR; rw [if_pos HALL.out, if_neg (by rw [← hmt.out]; exact hbig)])
        go_wp2
        go_ret3
        rw [HR.out]
        exact ⟨_, _, rfl, HOW.out, HOL.out, HB.out⟩
end Go.Proofs.Ytnhbgijecdeahaa
namespace Go.Proofs.Ytnhbgijecdeahaa
open Go.RowKit Go.Fd
theorem snoc_ind {α : Type} {P : List α → Prop} (h0 : P []) (h1 : ∀ l x, P l → P (l ++ [x])) (l : List α) : P l := by
  have h : ∀ l : List α, P l.reverse := by
    intro l
    induction l with
    | nil => exact h0
    | cons x l ih => rw [List.reverse_cons]; exact h1 _ _ ih
  have := h l.reverse
  rwa [List.reverse_reverse] at this
theorem lkp_cons {κ ν : Type} [DecidableEq κ] (q : κ) (n : ν) (A : List (κ × ν)) (x : κ) : lkp ((q, n) :: A) x = if x = q then some n else lkp A x := by
  unfold lkp
  rw [List.lookup_cons]
  by_cases e : x = q
  · simp [e]
  · rw [show (x == q) = false by simpa using e, if_neg e]
theorem lkp_other {κ ν : Type} [DecidableEq κ] {x s : κ} (h : x ≠ s) (n : ν) (A : List (κ × ν)) : lkp (A ++ [(s, n)]) x = lkp A x := by
  induction A with
  | nil => rw [List.nil_append, lkp_cons, if_neg h]
  | cons q A ih =>
    obtain ⟨q, m⟩ := q
    rw [List.cons_append, lkp_cons, lkp_cons, ih]
theorem step_at (t : Tab) (s x : List UInt8) : lkp (stepB t s).at_ x = if x = s then some (match lkp t.at_ s with | some p => p | none => t.tab.length) else lkp t.at_ x := by
  unfold stepB
  cases h : lkp t.at_ s with
  | some p =>
    simp only
    by_cases e : x = s
    · subst e; rw [if_pos rfl, h]
    · rw [if_neg e]
  | none =>
    simp only
    by_cases e : x = s
    · subst e; rw [if_pos rfl, lkp_app h]
    · rw [if_neg e]
      exact lkp_other e _ _
theorem step_out (t : Tab) (s : List UInt8) : (stepB t s).out = t.out ++ [match lkp t.at_ s with | some p => p | none => t.tab.length] := by
  unfold stepB
  cases lkp t.at_ s <;> rfl
theorem step_mono (t : Tab) (s : List UInt8) : t.tab.length ≤ (stepB t s).tab.length := by
  unfold stepB
  split <;> simp <;> omega
/-- No place lies behind the table. -/
theorem build_bound (names : List (List UInt8)) : (∀ p ∈ (buildT names).out, p ≤ (buildT names).tab.length) ∧ (∀ s p, lkp (buildT names).at_ s = some p → p ≤ (buildT names).tab.length) := by
  refine snoc_ind (P := fun names => (∀ p ∈ (buildT names).out, p ≤ (buildT names).tab.length) ∧ (∀ s p, lkp (buildT names).at_ s = some p → p ≤ (buildT names).tab.length)) ?_ (fun names x ih => ?_) names
  · refine ⟨(fun p h => by cases h), fun s p h => ?_⟩
    have h' : lkp [([], 0)] s = some p := h
    rw [lkp_cons] at h'
    split at h'
    · cases h'; exact Nat.zero_le _
    · cases h'
  · obtain ⟨h1, h2⟩ := ih
    have hm := step_mono (buildT names) x
    rw [buildT_snoc]
    have hx : (match lkp (buildT names).at_ x with | some p => p | none => (buildT names).tab.length) ≤ (stepB (buildT names) x).tab.length := by
      cases hl : lkp (buildT names).at_ x with
      | some p => exact Nat.le_trans (h2 x p hl) hm
      | none => exact hm
    refine ⟨fun p hp => ?_, fun s p hp => ?_⟩
    · rw [step_out] at hp
      rcases List.mem_append.1 hp with hp | hp
      · exact Nat.le_trans (h1 p hp) hm
      · rw [List.mem_singleton.1 hp]; exact hx
    · rw [step_at] at hp
      split at hp
      · cases hp; exact hx
      · exact Nat.le_trans (h2 s p hp) hm
end Go.Proofs.Ytnhbgijecdeahaa
namespace Go.Proofs.Ytnhbgijecdeahaa
open Go.RowKit Go.Fd
theorem below_drewN {B : Nat} {a w : World} (h : Below B a w) (n : Nat) : Below B a (w.drewN n) := ⟨h.os, h.tape, h.output, h.size, h.block⟩
end Go.Proofs.Ytnhbgijecdeahaa
namespace Go.Proofs.Ytnhbgijecdeahaa
open Go.RowKit Go.Fd
/-- The name at a place. -/
def atR (tab : List UInt8) (at_ : Int) : List UInt8 × Int :=
  if at_ < 0 ∨ (tab.length : Int) ≤ at_ then ([], 5) else match upto0 (tab.drop at_.toNat) with
    | none => ([], 4)
    | some g => if 128 < g.length then ([], 7) else (g, 0)
theorem _root_.Go.RowKit.Below.drewN {B : Nat} {a w : World} (h : Below B a w) (n : Nat) : Below B a (w.drewN n) := ⟨h.os, h.tape, h.output, h.size, h.block⟩
end Go.Proofs.Ytnhbgijecdeahaa
namespace Go.Proofs.Ytnhbgijecdeahaa
open Go.RowKit Go.Fd
theorem rd_lit {α : Type} (mk : α → Value) (w : World) (l : List α) (cs : Array Value) (n : Nat) (e : TypeId) (h : cs = (l.map mk).toArray) (hn : n = l.length) : Rd mk (w.alloc (.cells cs e)) (.slice (some ⟨w.heap.size, 0, none⟩) n n) l := by
  subst h hn
  refine ⟨by simp, _, _, rfl, Nat.le_refl _, (fun h => by cases h), fun j hj => ⟨w.heap.size, 0, rfl, ?_⟩⟩
  rw [Nat.zero_add]
  exact (Go.World.cell?_alloc_new _ _ _ _).trans (by simp)
end Go.Proofs.Ytnhbgijecdeahaa
namespace Go.Fd
structure SymM where
  name : List UInt8
  bind : Int
  typ : Int
  sec : Int
  value : Nat
  size : Nat
deriving DecidableEq
structure RelaM where
  off : Nat
  typ : Int
  sym : Int
  add : Int
deriving DecidableEq
abbrev encSym (s : SymM) : List Value := [.string ⟨s.name.toArray⟩, .int .i64 s.bind, .int .i64 s.typ, .int .i64 s.sec, .int .u64 (s.value : Int), .int .u64 (s.size : Int)]
abbrev encRela (r : RelaM) : List Value := [.int .u64 (r.off : Int), .int .i64 r.typ, .int .i64 r.sym, .int .i64 r.add]
section
variable {P : Program} {ops : Array Oper} {C : World → Prop}
theorem wpQuiet_run {Q : Act → Prop} {a : Act} {o : Oper} {rest : List Oper} {v : Value} (hg : o.guard = none) (hr : ∀ w, C w → (execOp a.eval o).run P w = .ok (.value v) w)
    (h : wpQuiet P ops C Q rest (a.put o.dst v)) : wpQuiet P ops C Q (o :: rest) a := by
  unfold wpQuiet
  rw [if_pos (by simp [Region.wanted, hg])]
  refine ⟨v, fun w hw => ?_, h⟩
  unfold Oper.quietAt
  rw [hr w hw]
  exact ⟨rfl, rfl⟩
end
/-- Fields of one cell each, compared: a result each. -/
def eqT (P : Program) (d : Nat) (xs ys : Array Value) (w : World) : List (String × TypeId × Nat) → List Bool → Prop
  | [], [] => True
  | (n, t, o) :: ts, r :: rs => n ≠ "_" ∧ (isAgg t).run P w = .ok false w ∧ (∃ a b, xs[o]? = some a ∧ ys[o]? = some b ∧ (Op.equalIn d t a b).run P w = .ok r w) ∧ eqT P d xs ys w ts rs
  | _, _ => False
theorem run_part1 {P : Program} {w : World} {t : TypeId} {xs : Array Value} {o : Nat} {a : Value} (h : (isAgg t).run P w = .ok false w) (ha : xs[o]? = some a) : (part t xs o).run P w = .ok a w := by
  unfold part
  rw [Sem.run_bind, h, Result.andThen_ok, if_neg (by decide), ha]
  rfl
theorem run_eqFields_flat {P : Program} {d : Nat} {xs ys : Array Value} {w : World} : ∀ (fs : List Field) (ts : List (String × TypeId × Nat)) (rs : List Bool), fs.map (fun f => (f.name, f.type, f.offset)) = ts → eqT P d xs ys w ts rs →
    (Op.eqFields d xs ys fs).run P w = .ok (rs.all id) w := by
  intro fs
  induction fs with
  | nil =>
    rintro ts rs rfl h
    cases rs with
    | nil => rfl
    | cons r rs => exact h.elim
  | cons f fs ih =>
    rintro ts rs rfl h
    cases rs with
    | nil => exact h.elim
    | cons r rs =>
      obtain ⟨hn, hg, ⟨a, b, ha, hb, hr⟩, h⟩ := h
      unfold Op.eqFields
      rw [if_pos hn]
      simp only [Sem.run_bind, run_part1 hg ha, run_part1 hg hb, hr, Result.andThen_ok, Sem.run_ite, List.all_cons, id]
      cases r with
      | false => simp
      | true =>
        simp only [Bool.not_true, Bool.false_eq_true, if_false, Bool.true_and]
        exact ih _ rs rfl h
end Go.Fd
namespace Go.Proofs.Ytnhbgijecdeahaa
open Go.RowKit Go.Fd
theorem sym_fields : Try.prog.underlying 44 = some (.struct (Try.prog.fieldsOf 44)) := by kernel_rfl
set_option maxRecDepth 100000 in
theorem neq_sym (x y : SymM) (p q : Operand) (w : World) : (do eqGuard .neq 44 p q (.agg (encSym x).toArray) (.agg (encSym y).toArray); binOp .neq 44 (.agg (encSym x).toArray) (.agg (encSym y).toArray) : Sem Value).run Try.prog w = .ok (.bool (!decide (x = y))) w := by
  have h1 : Try.prog.eqGuardType Try.prog.depth 44 = false := by kernel_rfl
  have h2 : Try.prog.stoodInHeld 44 = false := by kernel_rfl
  have h3 : (Try.prog.fieldsOf 44).toList.map (fun f => (f.name, f.type, f.offset)) = [("Name", 9, 0), ("Bind", 3, 1), ("Type", 3, 2), ("Sec", 3, 3), ("Value", 40, 4), ("Size", 40, 5)] := by kernel_rfl
  have h4 := sym_fields
  have a9 : ∀ w, (isAgg 9).run Try.prog w = .ok false w := fun w => by kernel_rfl
  have a3 : ∀ w, (isAgg 3).run Try.prog w = .ok false w := fun w => by kernel_rfl
  have a53 : ∀ w, (isAgg 40).run Try.prog w = .ok false w := fun w => by kernel_rfl
  have u9 : Try.prog.underlying 9 = some .string := by kernel_rfl
  have u3 : Try.prog.underlying 3 = some (.int .i64) := by kernel_rfl
  have u53 : Try.prog.underlying 40 = some (.int .u64) := by kernel_rfl
  have h5 := run_eqFields_flat (P := Try.prog) (d := 9999) (xs := (encSym x).toArray) (ys := (encSym y).toArray) (w := w) _ _ [((⟨x.name.toArray⟩ : ByteArray).toList == (⟨y.name.toArray⟩ : ByteArray).toList), x.bind == y.bind, x.typ == y.typ, x.sec == y.sec, (x.value : Int) == y.value, (x.size : Int) == y.size] h3
    ⟨by decide, a9 w, ⟨_, _, rfl, rfl, run_equalIn_string w 9998 _ _ _ u9⟩, by decide, a3 w, ⟨_, _, rfl, rfl, run_equalIn_int w 9998 _ _ _ _ _ u3⟩, by decide, a3 w, ⟨_, _, rfl, rfl, run_equalIn_int w 9998 _ _ _ _ _ u3⟩, by decide, a3 w, ⟨_, _, rfl, rfl, run_equalIn_int w 9998 _ _ _ _ _ u3⟩, by decide, a53 w, ⟨_, _, rfl, rfl, run_equalIn_int w 9998 _ _ _ _ _ u53⟩, by decide, a53 w, ⟨_, _, rfl, rfl, run_equalIn_int w 9998 _ _ _ _ _ u53⟩, trivial⟩
  rw [Sem.run_bind, run_eqGuard_agg _ _ _ _ _ _ _ h1, Result.andThen_ok, run_neq_struct, run_equalIn_agg _ 9999 _ _ _ h4 h2, h5, Result.andThen_ok]
  congr 3
  rw [Bool.eq_iff_iff, decide_eq_true_iff]
  cases x
  cases y
  simp [ByteArray.toList_eq]
  omega
set_option maxRecDepth 100000 in
theorem neq_rela (x y : RelaM) (p q : Operand) (w : World) : (do eqGuard .neq 86 p q (.agg (encRela x).toArray) (.agg (encRela y).toArray); binOp .neq 86 (.agg (encRela x).toArray) (.agg (encRela y).toArray) : Sem Value).run Try.prog w = .ok (.bool (!decide (x = y))) w := by
  have h1 : Try.prog.eqGuardType Try.prog.depth 86 = false := by kernel_rfl
  have h2 : Try.prog.stoodInHeld 86 = false := by kernel_rfl
  have h3 : (Try.prog.fieldsOf 86).toList.map (fun f => (f.name, f.type, f.offset)) = [("Off", 40, 0), ("Type", 3, 1), ("Sym", 3, 2), ("Add", 2, 3)] := by kernel_rfl
  have h4 : Try.prog.underlying 86 = some (.struct (Try.prog.fieldsOf 86)) := by kernel_rfl
  have a3 : ∀ w, (isAgg 3).run Try.prog w = .ok false w := fun w => by kernel_rfl
  have a2 : ∀ w, (isAgg 2).run Try.prog w = .ok false w := fun w => by kernel_rfl
  have a53 : ∀ w, (isAgg 40).run Try.prog w = .ok false w := fun w => by kernel_rfl
  have u3 : Try.prog.underlying 3 = some (.int .i64) := by kernel_rfl
  have u2 : Try.prog.underlying 2 = some (.int .i64) := by kernel_rfl
  have u53 : Try.prog.underlying 40 = some (.int .u64) := by kernel_rfl
  have h5 := run_eqFields_flat (P := Try.prog) (d := 9999) (xs := (encRela x).toArray) (ys := (encRela y).toArray) (w := w) _ _ [(x.off : Int) == y.off, x.typ == y.typ, x.sym == y.sym, x.add == y.add] h3
    ⟨by decide, a53 w, ⟨_, _, rfl, rfl, run_equalIn_int w 9998 _ _ _ _ _ u53⟩, by decide, a3 w, ⟨_, _, rfl, rfl, run_equalIn_int w 9998 _ _ _ _ _ u3⟩, by decide, a3 w, ⟨_, _, rfl, rfl, run_equalIn_int w 9998 _ _ _ _ _ u3⟩, by decide, a2 w, ⟨_, _, rfl, rfl, run_equalIn_int w 9998 _ _ _ _ _ u2⟩, trivial⟩
  rw [Sem.run_bind, run_eqGuard_agg _ _ _ _ _ _ _ h1, Result.andThen_ok, run_neq_struct, run_equalIn_agg _ 9999 _ _ _ h4 h2, h5, Result.andThen_ok]
  congr 3
  rw [Bool.eq_iff_iff, decide_eq_true_iff]
  cases x
  cases y
  simp
  omega
end Go.Proofs.Ytnhbgijecdeahaa
namespace Go.Proofs.Ytnhbgijecdeahaa
open Go.RowKit Go.Fd
def fixed : Nat → Nat → List UInt8
  | _, 0 => []
  | n, k + 1 => UInt8.ofNat n :: fixed (n / 256) k
theorem length_fixed (n s : Nat) : (fixed n s).length = s := by
  induction s generalizing n with
  | zero => rfl
  | succ s ih => simp [fixed, ih]
theorem fixed_snoc (n s : Nat) : fixed n (s + 1) = fixed n s ++ [UInt8.ofNat (n / 256 ^ s)] := by
  induction s generalizing n with
  | zero => simp [fixed]
  | succ s ih => rw [fixed, ih (n / 256), fixed, List.cons_append, Nat.div_div_eq_div_mul]; congr 4; rw [Nat.pow_succ, Nat.mul_comm]
end Go.Proofs.Ytnhbgijecdeahaa
namespace Go.Proofs.Ytnhbgijecdeahaa
open Go.RowKit Go.Fd
def numLE : List UInt8 → Nat
  | [] => 0
  | c :: r => c.toNat + 256 * numLE r
end Go.Proofs.Ytnhbgijecdeahaa
namespace Go.Proofs.Ytnhbgijecdeahaa
open Go.RowKit Go.Fd
/-- May a number have so many bytes? -/
def Sized (n : Int) : Prop := n = 1 ∨ n = 2 ∨ n = 4 ∨ n = 8
instance (n : Int) : Decidable (Sized n) := by unfold Sized; infer_instance
def getR (l : List UInt8) (at_ size : Int) (big : Bool) : Nat × Int :=
  if Sized size then (if at_ < 0 ∨ (l.length : Int) < at_ then (0, 5) else if (l.length : Int) - at_ < size then (0, 2)
    else (numLE (if big then ((l.drop at_.toNat).take size.toNat).reverse else (l.drop at_.toNat).take size.toNat), 0)) else (0, 1)
end Go.Proofs.Ytnhbgijecdeahaa
namespace Go.Proofs.Ytnhbgijecdeahaa
open Go.RowKit Go.Fd
/-- Are there such a Bind and Type? -/
def kindB (b t : Int) : Bool := decide (0 ≤ b) && decide (b ≤ 2) && (decide (0 ≤ t) && decide (t ≤ 3) || decide (t = 6))
set_option maxRecDepth 100000 in
theorem kind_any (b t : Int) (w : World) : Calls Try.prog 42 #[.int .i64 b, .int .i64 t] w fun e w' => e = .returned (.bool (kindB b t)) ∧ w = w' := by
  by_cases h1 : b < 0
  · have HR := Lib.hid (show kindB b t = false by rw [Bool.eq_false_iff]; intro h; unfold kindB at h; simp at h; omega)
    go_enter Try.func42, Try.ntmps42
    go_wp2
    go_ret
    exact ⟨by rw [HR.out]; rfl, rfl⟩
  by_cases h2 : 2 < b
  · have HR := Lib.hid (show kindB b t = false by rw [Bool.eq_false_iff]; intro h; unfold kindB at h; simp at h; omega)
    go_enter Try.func42, Try.ntmps42
    go_wp2
    go_ret
    exact ⟨by rw [HR.out]; rfl, rfl⟩
  by_cases h5 : t = 6
  · have HR := Lib.hid (show kindB b t = true by unfold kindB; simp; omega)
    subst h5
    go_enter Try.func42, Try.ntmps42
    go_wp2
    go_ret
    exact ⟨by rw [HR.out]; rfl, rfl⟩
  have hz : (t == 6) = false := by simpa using h5
  by_cases h3 : t < 0
  · have HR := Lib.hid (show kindB b t = false by rw [Bool.eq_false_iff]; intro h; unfold kindB at h; simp at h; omega)
    go_enter Try.func42, Try.ntmps42
    go_wp2
    go_ret
    exact ⟨by rw [HR.out]; rfl, rfl⟩
  by_cases h4 : t ≤ 3
  · have HR := Lib.hid (show kindB b t = true by unfold kindB; simp; omega)
    go_enter Try.func42, Try.ntmps42
    go_wp2
    go_ret
    exact ⟨by rw [HR.out]; rfl, rfl⟩
  · have HR := Lib.hid (show kindB b t = false by rw [Bool.eq_false_iff]; intro h; unfold kindB at h; simp at h; omega)
    go_enter Try.func42, Try.ntmps42
    go_wp2
    go_ret
    exact ⟨by rw [HR.out]; rfl, rfl⟩
/-- Blocks of another element's type stay as they are. -/
def Keeps (e0 : TypeId) (w w' : World) : Prop := ∀ (b : Nat) cs e fr, e ≠ e0 → w.heap[b]? = some (.cells cs e fr) → w'.heap[b]? = some (.cells cs e fr)
theorem Keeps.refl (e0 : TypeId) (w : World) : Keeps e0 w w := fun _ _ _ _ _ h => h
theorem Keeps.trans {e0 : TypeId} {w w' w'' : World} (h : Keeps e0 w w') (k : Keeps e0 w' w'') : Keeps e0 w w'' := fun b cs e fr he hb => k b cs e fr he (h b cs e fr he hb)
theorem keeps_below {e0 : TypeId} {w w' : World} (h : Below w.heap.size w w') : Keeps e0 w w' := fun b cs e fr _ hb => by rw [h.block b (Array.getElem?_eq_some_iff.1 hb).1]; exact hb
theorem keeps_own {e0 size n base : Nat} {w w' : World} {v : Value} {xs : List Value} (h : w.ownsRow base e0 size v n xs) (hg : w.grownBy w' v.ownBlock) : Keeps e0 w w' := fun b cs e fr he hb => by
  rw [hg.block b (Array.getElem?_eq_some_iff.1 hb).1 (fun hr => ?_)]
  · exact hb
  rcases h.2 with ⟨rfl, -⟩ | ⟨g, cap, cur, rfl, -, hh, -⟩
  · simp [Value.ownBlock] at hr
  · simp only [Value.ownBlock, Option.some.injEq] at hr
    subst hr
    rw [hb] at hh
    cases hh
    exact he rfl
theorem shr_byte (n k : Nat) : (n : Int) / 2 ^ (8 * k) % 256 = ((UInt8.ofNat (n / 256 ^ k)).toNat : Int) := by
  have h : n / 256 ^ k = n / 2 ^ (8 * k) := by rw [Nat.pow_mul]
  rw [u8_of, h, Int.natCast_emod, Int.natCast_ediv, Int.natCast_pow]
  rfl
set_option maxRecDepth 100000 in
theorem put_any (l : List UInt8) (n s : Nat) (v : Value) (w : World) (base : Nat) (hl : l.length ≤ 1000000) (hn : n < 18446744073709551616) (hs : s ≤ 8) (hv : OB w base v l) (hbase : base ≤ w.heap.size) :
    Calls Try.prog 45 #[v, .int .u64 n, .int .i64 s] w fun e w' => ∃ v', e = .returned v' ∧ OB w' base v' (l ++ fixed n s) ∧ Below base w w' ∧ Keeps 5 w w' := by
  have HV := Lib.hid hv
  clear hv
  have HN := Lib.hid hn
  clear hn
  go_enter Try.func45, Try.ntmps45
  go_wp2
  go_loopw [0, 9] (fun v i wr => ∃ k : Nat, k ≤ s ∧ i = .int .i64 k ∧ Hid (OB wr base v (l ++ fixed n k)) ∧ Hid (Below base w wr) ∧ Hid (Keeps 5 w wr)) (fun _ i _ => s - (intOf i).toNat)
  case atStart => exact ⟨0, Nat.zero_le _, rfl, by have := HV.out; simpa [fixed, Hid] using this, Below.refl _ _, Keeps.refl _ _⟩
  case round =>
    obtain ⟨k, hk, rfl, HO, HB, HK⟩ := hrel
    by_cases hlt : k < s
    · have HF := Lib.hid (fixed_snoc n k)
      have HL := Lib.hid (length_fixed n k)
      have hb0 := Nat.le_trans hbase HB.out.size
      have HSH := Lib.hid (shr_byte n k)
      go_wp2_with (((with_reducible show wpList _ _ _ (⟨some 19, _, _, _, _, _⟩ :: _) _ _); go_must (refine wpList_pushB HO.out rfl rfl (UInt8.ofNat (n / 256 ^ k)) HSH.out (by have := HL.out; rw [List.length_append]; omega) hb0 ?_; intro v1 w1 hv1 hg1 hb1)))
      have G1 : Hid (OB w1 base v1 (l ++ fixed n (k + 1))) := by rw [HF.out, ← List.append_assoc]; exact hv1
      have G2 := Lib.hid (HB.out.trans hb1)
      have G3 := Lib.hid (HK.out.trans (keeps_own HO.out hg1))
      clear hv1 hg1 hb1
      go_roundw
      case rel =>
        first
          | exact ⟨k + 1, by omega, by go_num, G1.out, G2.out, G3.out⟩
          | ((repeat apply Exists.intro); exact ⟨⟨k + 1, by omega, by go_num, G1.out, G2.out, G3.out⟩, rfl⟩)
      case measure => simp [intOf] <;> omega
    · obtain rfl : k = s := by omega
      go_wp2
      go_ret
      exact ⟨_, rfl, HO.out, HB.out, HK.out⟩
theorem put2_any (l : List UInt8) (n : Nat) {z : Int} (v : Value) (w : World) (base : Nat) (hz : z = (n : Int)) (hl : l.length ≤ 1000000) (hn : n < 18446744073709551616) (hv : OB w base v l) (hbase : base ≤ w.heap.size) :
    Calls Try.prog 45 #[v, .int .u64 z, .int .i64 2] w fun e w' => ∃ v', e = .returned v' ∧ OB w' base v' (l ++ fixed n 2) ∧ Below base w w' ∧ Keeps 5 w w' := by
  subst hz
  exact put_any l n 2 v w base hl hn (by decide) hv hbase
theorem put4_any (l : List UInt8) (n : Nat) {z : Int} (v : Value) (w : World) (base : Nat) (hz : z = (n : Int)) (hl : l.length ≤ 1000000) (hn : n < 18446744073709551616) (hv : OB w base v l) (hbase : base ≤ w.heap.size) :
    Calls Try.prog 45 #[v, .int .u64 z, .int .i64 4] w fun e w' => ∃ v', e = .returned v' ∧ OB w' base v' (l ++ fixed n 4) ∧ Below base w w' ∧ Keeps 5 w w' := by
  subst hz
  exact put_any l n 4 v w base hl hn (by decide) hv hbase
theorem put8_any (l : List UInt8) (n : Nat) {z : Int} (v : Value) (w : World) (base : Nat) (hz : z = (n : Int)) (hl : l.length ≤ 1000000) (hn : n < 18446744073709551616) (hv : OB w base v l) (hbase : base ≤ w.heap.size) :
    Calls Try.prog 45 #[v, .int .u64 z, .int .i64 8] w fun e w' => ∃ v', e = .returned v' ∧ OB w' base v' (l ++ fixed n 8) ∧ Below base w w' ∧ Keeps 5 w w' := by
  subst hz
  exact put_any l n 8 v w base hl hn (by decide) hv hbase
end Go.Proofs.Ytnhbgijecdeahaa
namespace Go.Fd
open Go.RowKit
section
variable {P : Program} {ops : Array Oper} {rest : List Oper} {Q : Exit → Act → World → Prop} {a : Act} {w : World}
/-- A whole record into the block that was made last. -/
theorem wpList_storeNew {d : Option Tmp} {ty t : TypeId} {pos : String} {aft : Array Edge} {p x : Operand} {c c' : Array Value} (hp : a.eval p = .pointer (some ⟨w.heap.size, 0, none⟩)) (hx : a.eval x = .agg c')
    (hi : (P.info? t).map (·.size) = some c'.size) (ho : c.size = c'.size) (h1 : c'.all (·.oneCell') = true)
    (h : ∀ w1, w1.heap[w.heap.size]? = some (.cells c' t (0, 0)) → Below w.heap.size w w1 → wpList P ops Q rest (a.put d undef) w1) :
    wpList P ops Q (⟨d, .store t p x, ty, pos, aft, none⟩ :: rest) a (w.alloc (.cells c t)) := by
  refine wpList_did rfl ?_ (h (w.alloc (.cells c' t)) (heap_alloc_last w _) (below_alloc w _))
  simp only [execOp, hp, hx, Sem.run_bind, run_storeAt_new w t c c' hi ho h1, Result.andThen_ok]
  rfl
theorem cell_rec {w : World} {g : Nat} {cs : Array Value} {t : TypeId} {fr : Nat × Nat} (h : w.heap[g]? = some (.cells cs t fr)) (c : Nat) : w.cell? ⟨g, c, none⟩ = cs[c]? := cell_of_row w g c cs t fr h
end
/-- Of an int64 its 64 bits. -/
def u64of (x : Int) : Nat := (x % 18446744073709551616).toNat
theorem u64of_lt (x : Int) : u64of x < 18446744073709551616 := by unfold u64of; omega
theorem u64of_cast (x : Int) : IntKind.u64.wrap x = ((u64of x : Nat) : Int) := by
  unfold u64of
  simp [IntKind.wrap, IntKind.bits, IntKind.signed]
  omega
end Go.Fd
namespace Go.Proofs.Ytnhbgijecdeahaa
open Go.RowKit Go.Fd
/-- May it not be? -/
def relaBad (r : RelaM) : Bool := decide (r.typ < 0) || decide (4294967295 < r.typ) || decide (r.sym < 0) || decide (2147483647 < r.sym)
def relaB (r : RelaM) : List UInt8 := fixed r.off 8 ++ fixed (u64of r.typ) 4 ++ fixed (u64of r.sym) 4 ++ fixed (u64of r.add) 8
def relaW (l : List RelaM) : List UInt8 × Int := if l.any relaBad = true then ([], 3) else (l.flatMap relaB, 0)
end Go.Proofs.Ytnhbgijecdeahaa
namespace Go.Fd
open Go.RowKit
section
variable {P : Program} {l : List Oper} {s : Oper} {V : Nat → Value → World → Prop} {a0 : Act} {w0 : World}
theorem ready_none {listed : Array Bool} {L : List Oper} (h : ∀ i, i < L.length → listed.getD i true = true) : Region.ready .any L.toArray listed = [] := by
  rw [List.eq_nil_iff_forall_not_mem]
  intro i hi
  rw [mem_ready] at hi
  obtain ⟨h1, o, ho, _⟩ := hi
  have := h i (by have := (Array.getElem?_eq_some_iff.1 ho).1; simpa using this)
  rw [h1] at this; cases this
end
section
variable {P : Program} {a : Act} {w : World}
/-- The store of a record into the block that was made. -/
theorem wp_store_made {d : Option Tmp} {ty t : TypeId} {pos : String} {aft : Array Edge} {p x : Operand} {c c' : Array Value} {g : Nat} {K : Act → World → Prop} {Q : Exit → Act → World → Prop} {B : Nat} (hg : w.heap[g]? = some (.cells c t (0, 0))) (hp : a.eval p = .pointer (some ⟨g, 0, none⟩)) (hx : a.eval x = .agg c')
    (hi : (P.info? t).map (·.size) = some c'.size) (ho : c.size = c'.size) (h1 : c'.all (·.oneCell') = true) (hB : B ≤ g) (_hBw : B ≤ w.heap.size)
    (h : ∀ w1, w1.heap[g]? = some (.cells c' t (0, 0)) → Below B w w1 → K (a.put d undef) w1) :
    Oper.wp P ⟨d, .store t p x, ty, pos, aft, none⟩ a w K Q := by
  have hr : (execOp a.eval ⟨d, .store t p x, ty, pos, aft, none⟩).run P w = .ok .skip (w.setRow g c') := by
    simp only [execOp, hp, hx, Instr.storeAt, Instr.sureAddr, Sem.run_bind, Sem.run_pure, Result.andThen, run_storeVar_row w g t t c c' hg hi ho h1]
  unfold Oper.wp Oper.upon
  rw [hr]
  refine h _ ?_ ?_
  · simp only [World.setRow]
    rw [Array.getElem?_modify, if_pos rfl, hg]
    rfl
  · refine ⟨rfl, rfl, rfl, by simp [World.setRow], fun k hk => ?_⟩
    have : g ≠ k := by omega
    simp only [World.setRow]
    rw [Array.getElem?_modify, if_neg this]
end
end Go.Fd
namespace Go.Fd
open Go.RowKit
/-- What an operation that makes memory, or a call, comes to: a value of a shape, and what is known of it. -/
structure Yld where
  X : Type
  inh : X
  shape : X → Value
  rel : X → World → Prop
  st : ∀ x w w', rel x w → Below w.heap.size w w' → rel x w'
def Yld.R (S : Yld) (v : Value) (w : World) : Prop := ∃ x, v = S.shape x ∧ S.rel x w
/-- One value. -/
def Yld.is (c : Value) : Yld := ⟨Unit, (), fun _ => c, fun _ _ => True, fun _ _ _ _ _ => trivial⟩
def madeAt (M : List (Nat × Yld)) (i : Nat) : Option Yld := (M.find? (fun p => p.1 == i)).map (·.2)
/-- Worlds above one. -/
structure Above (w0 : World) where
  w : World
  h : Below w0.heap.size w0 w
instance (w0 : World) : Nonempty (Above w0) := ⟨⟨w0, Below.refl _ _⟩⟩
/-- What is known of the operations that one waits for. -/
def Deps (L : List Oper) (M : List (Nat × Yld)) (a : Act) (o : Oper) (w : World) : Prop :=
  ∀ j oj d S, L[j]? = some oj → oj.dst = some d → depB o j = true → madeAt M j = some S → Region.wanted oj (yielded L.toArray a.tmps) = true → S.R (a.eval (.tmp d)) w
/-- What is known of a way that leaves the region: U is what may go up. -/
def Ups (Up : Exit → Prop) (d : List Deferred) (w : World) (x : Exit) (a : Act) (w' : World) : Prop := Up x ∧ a.defers = d ∧ Below w.heap.size w w'
/-- Nothing goes up. -/
def NoUp : Exit → Prop := fun _ => False
def WpYld (P : Program) (Up : Exit → Prop) (o : Oper) (a : Act) (S : Yld) (w : World) : Prop :=
  o.wp P a w (fun a' w' => ∃ v, a' = a.put o.dst v ∧ S.R v w' ∧ Below w.heap.size w w') (Ups Up a.defers w)
theorem oper_wp_to {P : Program} {o : Oper} {a : Act} {w : World} {K : Act → World → Prop} {Q Q' : Exit → Act → World → Prop} (hq : ∀ x a w, Q x a w → Q' x a w) (h : o.wp P a w K Q) : o.wp P a w K Q' := by
  unfold Oper.wp at *
  generalize (execOp a.eval o).run P w = r at *
  cases r with
  | ok n w' =>
    cases n <;> simp only [Oper.upon] at h ⊢ <;>
      first
        | exact h
        | exact Calls.mono h (fun e w'' he => by
            cases e with
            | returned v => exact he
            | panicked c => exact hq _ _ _ he
            | outgrown => obtain ⟨a0, w0, h0⟩ := (he : LetsOut _); exact ⟨a0, w0, hq _ _ _ h0⟩)
  | halt x w' => cases x <;> simp only [Oper.upon] at h ⊢ <;> first | exact h | exact hq _ _ _ h
def walk (P : Program) (Up : Exit → Prop) (L : List Oper) (M : List (Nat × Yld)) (w0 : World) (E : Act → Prop) : Nat → List Oper → Act → Prop
  | _, [], a => E a
  | i, o :: r, a =>
    if Region.wanted o (yielded L.toArray a.tmps) = true then
      match madeAt M i with
      | some S => (∀ w, Below w0.heap.size w0 w → Deps L M a o w → WpYld P Up o a S w) ∧ ∀ x, walk P Up L M w0 E (i + 1) r (a.put o.dst (S.shape x))
      | none => ∃ v, (∀ w, Below w0.heap.size w0 w → Deps L M a o w → (execOp a.eval o).run P w = .ok (.value v) w) ∧ walk P Up L M w0 E (i + 1) r (a.put o.dst v)
    else walk P Up L M w0 E (i + 1) r (a.put o.dst undef)
/-- The slots that an operation looks at are those of operations that it waits for, or old ones. -/
def readsB (L H : List Oper) : Bool := H.zipIdx.all fun (o, i) =>
  (match o.op with | .select _ _ => false | _ => true) &&
  (o.looksAt L.toArray).all (fun t => oldB H i t || H.zipIdx.any fun (o', j) => o'.dst == some t && depB o j) &&
  (match o.guard with | some (g, _) => depB o g | none => true)
/-- Operation n waits for all ahead of it, and those behind it each for the one ahead. -/
def tailB (L : List Oper) (n : Nat) : Bool :=
  ((List.range n).all fun k => (match L[n]? with | some s => depB s k | none => true) || (L.take n).zipIdx.any fun (o, k') => decide (k < k') && depB o k) &&
  (L.zipIdx.all fun (o, t) => decide (t ≤ n) || depB o (t - 1)) &&
  Region.seqB .any L.toArray (L.length - n) n (List.replicate n true ++ List.replicate (L.length - n) false).toArray
def walkB (L : List Oper) (n sz : Nat) : Bool := decide (n ≤ L.length) && persB (L.take n) sz && readsB L (L.take n) && (decide (n = L.length) || tailB L n)
theorem putAll_congr {u u' : Nat → Value} : ∀ (l : List Oper) (k : Nat) (a : Act), (∀ j, k ≤ j → j < k + l.length → u j = u' j) → putAll u k l a = putAll u' k l a
  | [], _, _, _ => rfl
  | o :: r, k, a, h => by
    rw [putAll, putAll, h k (Nat.le_refl _) (by simp)]
    exact putAll_congr r (k + 1) _ fun j h1 h2 => h j (by omega) (by simp; omega)
theorem putAll_append {u : Nat → Value} : ∀ (l r : List Oper) (k : Nat) (a : Act), putAll u k (l ++ r) a = putAll u (k + l.length) r (putAll u k l a)
  | [], _, _, _ => by simp [putAll]
  | o :: l, r, k, a => by
    rw [List.cons_append, putAll, putAll, putAll_append l r (k + 1)]
    congr 1
    simp; omega
def fr (u : Nat → Value) (H : List Oper) (a0 : Act) (i : Nat) : Act := putAll u 0 (H.take i) a0
theorem fr_succ {u : Nat → Value} {H : List Oper} {a0 : Act} {i : Nat} {o : Oper} (h : H[i]? = some o) : fr u H a0 (i + 1) = (fr u H a0 i).put o.dst (u i) := by
  unfold fr
  obtain ⟨h1, h2⟩ := List.getElem?_eq_some_iff.1 h
  rw [List.take_succ_eq_append_getElem h1, putAll_append, h2, List.length_take, Nat.min_eq_left (by omega), Nat.zero_add]
  rfl
theorem fr_congr {u u' : Nat → Value} {H : List Oper} {a0 : Act} {i : Nat} (h : ∀ j, j < i → u j = u' j) : fr u H a0 i = fr u' H a0 i :=
  putAll_congr _ _ _ fun j _ hj => h j (by simp at hj; omega)
theorem fr_size (u : Nat → Value) (H : List Oper) (a0 : Act) (i : Nat) : (fr u H a0 i).tmps.size = a0.tmps.size := putAll_size _ _ _ _
theorem fr_defers (u : Nat → Value) (H : List Oper) (a0 : Act) (i : Nat) : (fr u H a0 i).defers = a0.defers := putAll_defers _ _ _ _
section
variable {P : Program} {Up : Exit → Prop} {L H : List Oper} {M : List (Nat × Yld)} {a0 : Act} {w0 : World} {E : Act → Prop}
theorem fr_new (hP : persB H a0.tmps.size = true) {u : Nat → Value} {i j : Nat} {o : Oper} {d : Nat} (ho : H[j]? = some o) (hd : o.dst = some d) (hj : j < i) : (fr u H a0 i).eval (.tmp d) = u j := by
  obtain ⟨⟨d', hd', hlt⟩, _, hu⟩ := persB_spec hP ho
  rw [hd] at hd'; cases hd'
  have := putAll_new u d 0 (H.take i) a0 j o (by rw [List.getElem?_take, if_pos hj]; exact ho) hd hlt fun j' o' h1 h2 => by
    by_cases e : j' = j
    · exact e
    · rw [List.getElem?_take] at h1
      split at h1
      · exact absurd (h2.trans hd.symm) (hu j' o' h1 e)
      · cases h1
  rwa [Nat.zero_add] at this
theorem fr_old {u : Nat → Value} {i t : Nat} (h : ∀ j o, j < i → H[j]? = some o → o.dst ≠ some t) : (fr u H a0 i).eval (.tmp t) = a0.eval (.tmp t) := by
  refine putAll_old u t 0 _ _ fun o ho => ?_
  obtain ⟨j, hj⟩ := List.getElem?_of_mem ho
  rw [List.getElem?_take] at hj
  split at hj
  · exact h j o (by assumption) hj
  · cases hj
theorem readsB_spec (hR : readsB L H = true) {i : Nat} {o : Oper} (ho : H[i]? = some o) :
    (∀ cs b, o.op ≠ .select cs b) ∧ (∀ t ∈ o.looksAt L.toArray, oldB H i t = true ∨ ∃ j oj, H[j]? = some oj ∧ oj.dst = some t ∧ depB o j = true) ∧ ∀ g b, o.guard = some (g, b) → depB o g = true := by
  unfold readsB at hR
  rw [List.all_eq_true] at hR
  have := hR (o, i) (by rw [List.mem_zipIdx_iff_getElem?]; exact ho)
  simp only [Bool.and_eq_true] at this
  obtain ⟨⟨h1, h2⟩, h3⟩ := this
  refine ⟨(fun cs b e => by rw [e] at h1; cases h1), fun t ht => ?_, (fun g b hg => by rw [hg] at h3; exact h3)⟩
  have := List.all_eq_true.1 h2 t ht
  rw [Bool.or_eq_true] at this
  rcases this with h | h
  · exact .inl h
  · obtain ⟨⟨oj, j⟩, hm, h⟩ := List.any_eq_true.1 h
    rw [List.mem_zipIdx_iff_getElem?] at hm
    simp only [Bool.and_eq_true, beq_iff_eq] at h
    exact .inr ⟨j, oj, hm, h.1, h.2⟩
theorem dep_lt (hP : persB H a0.tmps.size = true) {i j : Nat} {o : Oper} (ho : H[i]? = some o) (h : depB o j = true) : j < i := by
  obtain ⟨e, he, hon, hb⟩ := depB_of h
  have := (persB_spec hP ho).2.1 e he hb
  omega
theorem old_not (hP : persB H a0.tmps.size = true) {i j t : Nat} {o oj : Oper} (_ : H[i]? = some o) (hj : H[j]? = some oj) (hold : oldB H i t = true) (hji : j < i) : oj.dst ≠ some t := by
  unfold oldB at hold
  rw [List.all_eq_true] at hold
  have := hold (oj, j) (by rw [List.mem_zipIdx_iff_getElem?]; exact hj)
  simp only [Bool.or_eq_true, bne_iff_ne, ne_eq, beq_iff_eq] at this
  rcases this with (h | h) | h
  · exact h
  · omega
  · have := dep_lt hP hj h; omega
/-- What an operation comes to leans on the slots that it looks at alone. -/
theorem same_of_looks {o : Oper} {a b : Act} (hs : ∀ cs c, o.op ≠ .select cs c) (hz : a.tmps.size = b.tmps.size) (h : ∀ t ∈ o.looksAt L.toArray, a.eval (.tmp t) = b.eval (.tmp t)) :
    execOp a.eval o = execOp b.eval o ∧ Region.wanted o (yielded L.toArray a.tmps) = Region.wanted o (yielded L.toArray b.tmps) := by
  constructor
  · refine execOp_congr o hs fun x hx => ?_
    cases x with
    | tmp t => exact h t (List.mem_append_left _ (List.mem_filterMap.2 ⟨.tmp t, by simpa using hx, rfl⟩))
    | const v => rfl
    | global g => rfl
    | func f => rfl
  · unfold Region.wanted
    cases hg : o.guard with
    | none => rfl
    | some gw =>
      obtain ⟨g, want⟩ := gw
      have hy : yielded L.toArray a.tmps g = yielded L.toArray b.tmps g := by
        unfold yielded
        cases ht : ((L.toArray)[g]?).bind (·.dst) with
        | none => rfl
        | some t =>
          have ht' : ((L[g]?).bind fun x => x.dst) = some t := by simpa using ht
          have := h t (by simp [Oper.looksAt, hg, ht'])
          have e : a.tmps[t]? = b.tmps[t]? := by
            by_cases hlt : t < a.tmps.size
            · have hlt' : t < b.tmps.size := Nat.lt_of_lt_of_eq hlt hz
              have h2 : a.tmps.getD t undef = b.tmps.getD t undef := this
              rw [Array.getD_eq_getD_getElem?, Array.getD_eq_getD_getElem?, Array.getElem?_eq_getElem hlt, Array.getElem?_eq_getElem hlt'] at h2
              rw [Array.getElem?_eq_getElem hlt, Array.getElem?_eq_getElem hlt']
              simpa using h2
            · rw [Array.getElem?_eq_none (Nat.not_lt.1 hlt), Array.getElem?_eq_none (Nat.not_lt.1 (hz ▸ hlt))]
          simp only [Option.bind_some, e]
      simp only [hy]
structure PathP (P : Program) (Up : Exit → Prop) (L H : List Oper) (M : List (Nat × Yld)) (a0 : Act) (w0 : World) (E : Act → Prop) (p : (i : Nat) → (S : Yld) → S.X) (u : Nat → Value) : Prop where
  step : ∀ i o, H[i]? = some o →
    if Region.wanted o (yielded L.toArray (fr u H a0 i).tmps) = true then
      match madeAt M i with
      | some S => (∀ w, Below w0.heap.size w0 w → Deps L M (fr u H a0 i) o w → WpYld P Up o (fr u H a0 i) S w) ∧ u i = S.shape (p i S)
      | none => ∀ w, Below w0.heap.size w0 w → Deps L M (fr u H a0 i) o w → (execOp (fr u H a0 i).eval o).run P w = .ok (.value (u i)) w
    else u i = undef
  fin : E (fr u H a0 H.length)
theorem path_aux (p : (i : Nat) → (S : Yld) → S.X) : ∀ (r : List Oper) (k : Nat) (u0 : Nat → Value), H.drop k = r → k ≤ H.length → walk P Up L M w0 E k r (fr u0 H a0 k) →
    ∃ u, (∀ j, j < k → u j = u0 j) ∧ (∀ i o, k ≤ i → H[i]? = some o →
      if Region.wanted o (yielded L.toArray (fr u H a0 i).tmps) = true then
        match madeAt M i with
        | some S => (∀ w, Below w0.heap.size w0 w → Deps L M (fr u H a0 i) o w → WpYld P Up o (fr u H a0 i) S w) ∧ u i = S.shape (p i S)
        | none => ∀ w, Below w0.heap.size w0 w → Deps L M (fr u H a0 i) o w → (execOp (fr u H a0 i).eval o).run P w = .ok (.value (u i)) w
      else u i = undef) ∧ E (fr u H a0 H.length)
  | [], k, u0, hr, hk, h => by
    have : H.length ≤ k := by simpa using hr
    obtain rfl : k = H.length := by omega
    exact ⟨u0, fun _ _ => rfl, fun i o hi ho => by have := (List.getElem?_eq_some_iff.1 ho).1; omega, h⟩
  | o :: r, k, u0, hr, hk, h => by
    have ho : H[k]? = some o := by
      have : (H.drop k)[0]? = some o := by rw [hr]; rfl
      simpa using this
    have hr' : H.drop (k + 1) = r := by
      rw [← List.drop_drop, hr]; rfl
    have hk' : k + 1 ≤ H.length := (List.getElem?_eq_some_iff.1 ho).1
    have key : ∀ v, walk P Up L M w0 E (k + 1) r ((fr u0 H a0 k).put o.dst v) → ∃ u, (∀ j, j < k → u j = u0 j) ∧ u k = v ∧ (∀ i o, k + 1 ≤ i → H[i]? = some o →
      if Region.wanted o (yielded L.toArray (fr u H a0 i).tmps) = true then
        match madeAt M i with
        | some S => (∀ w, Below w0.heap.size w0 w → Deps L M (fr u H a0 i) o w → WpYld P Up o (fr u H a0 i) S w) ∧ u i = S.shape (p i S)
        | none => ∀ w, Below w0.heap.size w0 w → Deps L M (fr u H a0 i) o w → (execOp (fr u H a0 i).eval o).run P w = .ok (.value (u i)) w
      else u i = undef) ∧ E (fr u H a0 H.length) := by
      intro v hv
      have e1 : fr (fun j => if j = k then v else u0 j) H a0 k = fr u0 H a0 k := fr_congr fun j hj => by
        show (if j = k then v else u0 j) = u0 j
        rw [if_neg (by omega)]
      have e2 : fr (fun j => if j = k then v else u0 j) H a0 (k + 1) = (fr u0 H a0 k).put o.dst v := by
        rw [fr_succ ho, e1]
        simp
      obtain ⟨u, h1, h2, h3⟩ := path_aux p r (k + 1) (fun j => if j = k then v else u0 j) hr' hk' (by rw [e2]; exact hv)
      refine ⟨u, fun j hj => ?_, ?_, h2, h3⟩
      · rw [h1 j (by omega), if_neg (by omega)]
      · rw [h1 k (by omega), if_pos rfl]
    have fin : ∀ v, (∃ u, (∀ j, j < k → u j = u0 j) ∧ u k = v ∧ (∀ i o, k + 1 ≤ i → H[i]? = some o →
      if Region.wanted o (yielded L.toArray (fr u H a0 i).tmps) = true then
        match madeAt M i with
        | some S => (∀ w, Below w0.heap.size w0 w → Deps L M (fr u H a0 i) o w → WpYld P Up o (fr u H a0 i) S w) ∧ u i = S.shape (p i S)
        | none => ∀ w, Below w0.heap.size w0 w → Deps L M (fr u H a0 i) o w → (execOp (fr u H a0 i).eval o).run P w = .ok (.value (u i)) w
      else u i = undef) ∧ E (fr u H a0 H.length)) → (if Region.wanted o (yielded L.toArray (fr u0 H a0 k).tmps) = true then
        match madeAt M k with
        | some S => (∀ w, Below w0.heap.size w0 w → Deps L M (fr u0 H a0 k) o w → WpYld P Up o (fr u0 H a0 k) S w) ∧ v = S.shape (p k S)
        | none => ∀ w, Below w0.heap.size w0 w → Deps L M (fr u0 H a0 k) o w → (execOp (fr u0 H a0 k).eval o).run P w = .ok (.value v) w
      else v = undef) → ∃ u, (∀ j, j < k → u j = u0 j) ∧ (∀ i o, k ≤ i → H[i]? = some o →
      if Region.wanted o (yielded L.toArray (fr u H a0 i).tmps) = true then
        match madeAt M i with
        | some S => (∀ w, Below w0.heap.size w0 w → Deps L M (fr u H a0 i) o w → WpYld P Up o (fr u H a0 i) S w) ∧ u i = S.shape (p i S)
        | none => ∀ w, Below w0.heap.size w0 w → Deps L M (fr u H a0 i) o w → (execOp (fr u H a0 i).eval o).run P w = .ok (.value (u i)) w
      else u i = undef) ∧ E (fr u H a0 H.length) := by
      rintro v ⟨u, h1, h2, h3, h4⟩ hstep
      refine ⟨u, h1, fun i o' hi ho' => ?_, h4⟩
      by_cases hik : i = k
      · subst hik
        rw [ho] at ho'
        cases ho'
        rw [fr_congr (u' := u0) h1, h2]
        exact hstep
      · exact h3 i o' (by omega) ho'
    rw [walk] at h
    by_cases hw : Region.wanted o (yielded L.toArray (fr u0 H a0 k).tmps) = true
    · rw [if_pos hw] at h
      cases hM : madeAt M k with
      | some S =>
        simp only [hM] at h
        refine fin (S.shape (p k S)) (key _ (h.2 (p k S))) ?_
        rw [if_pos hw, hM]
        exact ⟨h.1, rfl⟩
      | none =>
        simp only [hM] at h
        obtain ⟨v, h1, h2⟩ := h
        refine fin v (key _ h2) ?_
        rw [if_pos hw, hM]
        exact h1
    · rw [if_neg hw] at h
      refine fin undef (key _ h) ?_
      rw [if_neg hw]
theorem path_exists (p : (i : Nat) → (S : Yld) → S.X) (h : walk P Up L M w0 E 0 H a0) : ∃ u, PathP P Up L H M a0 w0 E p u := by
  obtain ⟨u, _, h2, h3⟩ := path_aux (a0 := a0) p H 0 (fun _ => undef) rfl (Nat.zero_le _) (by unfold fr; rw [List.take_zero]; exact h)
  exact ⟨u, fun i o ho => h2 i o (Nat.zero_le _) ho, h3⟩
/-- The frames of a path at a slot that an operation looks at. -/
theorem looks_fr (hP : persB H a0.tmps.size = true) (hR : readsB L H = true) {i : Nat} {o : Oper} (ho : H[i]? = some o) {t : Nat} (ht : t ∈ o.looksAt L.toArray) :
    (oldB H i t = true ∧ ∀ u, (fr u H a0 i).eval (.tmp t) = a0.eval (.tmp t)) ∨ ∃ j oj, H[j]? = some oj ∧ oj.dst = some t ∧ depB o j = true ∧ j < i ∧ ∀ u, (fr u H a0 i).eval (.tmp t) = u j := by
  rcases (readsB_spec hR ho).2.1 t ht with h | ⟨j, oj, hj, hd, hdep⟩
  · exact .inl ⟨h, fun u => fr_old fun j oj hji hj => old_not hP ho hj h hji⟩
  · have hlt := dep_lt hP ho hdep
    exact .inr ⟨j, oj, hj, hd, hdep, hlt, fun u => fr_new hP hj hd hlt⟩
/-- Whether an operation is wanted stands from its own place on. -/
theorem wanted_later (hP : persB H a0.tmps.size = true) (hR : readsB L H = true) (hL : ∀ (i : Nat) (o : Oper), H[i]? = some o → L[i]? = some o) {u : Nat → Value} {j i : Nat} {oj : Oper} (hj : H[j]? = some oj) (hji : j ≤ i) :
    Region.wanted oj (yielded L.toArray (fr u H a0 i).tmps) = Region.wanted oj (yielded L.toArray (fr u H a0 j).tmps) := by
  unfold Region.wanted
  cases hg : oj.guard with
  | none => rfl
  | some gw =>
    obtain ⟨g, want⟩ := gw
    have hdep := (readsB_spec hR hj).2.2 g want hg
    have hlt := dep_lt hP hj hdep
    have hgl : g < H.length := by have := (List.getElem?_eq_some_iff.1 hj).1; omega
    have hog : H[g]? = some H[g] := List.getElem?_eq_getElem hgl
    obtain ⟨⟨d, hd, hdn⟩, _, _⟩ := persB_spec hP hog
    have e1 : (fr u H a0 i).eval (.tmp d) = u g := fr_new hP hog hd (by omega)
    have e2 : (fr u H a0 j).eval (.tmp d) = u g := fr_new hP hog hd hlt
    have hget : ∀ (a : Act), a.tmps.size = a0.tmps.size → a.eval (.tmp d) = u g → yielded L.toArray a.tmps g = (match some (u g) with | some (.bool b) => some b | _ => none) := by
      intro a hz he
      unfold yielded
      have h2 : a.tmps.getD d undef = u g := he
      have hlt' : d < a.tmps.size := by rw [hz]; exact hdn
      rw [Array.getD_eq_getD_getElem?, Array.getElem?_eq_getElem hlt'] at h2
      have h3 : (L.toArray)[g]? = some H[g] := by simpa using hL g _ hog
      rw [h3, Option.bind_some, hd, Option.bind_some, Array.getElem?_eq_getElem hlt']
      simp only [Option.getD_some] at h2
      rw [h2]
      rfl
    show (yielded L.toArray (fr u H a0 i).tmps g == some want) = (yielded L.toArray (fr u H a0 j).tmps g == some want)
    rw [hget _ (fr_size _ _ _ _) e1, hget _ (fr_size _ _ _ _) e2]
/-- What is known of the operations that have been carried out. -/
def Known (L H : List Oper) (M : List (Nat × Yld)) (a0 : Act) (u : Nat → Value) (D : Nat → Prop) (w : World) : Prop :=
  ∀ j oj S, D j → H[j]? = some oj → madeAt M j = some S → Region.wanted oj (yielded L.toArray (fr u H a0 j).tmps) = true → S.R (u j) w
theorem deps_of (hP : persB H a0.tmps.size = true) (hR : readsB L H = true) (hL : ∀ (i : Nat) (o : Oper), H[i]? = some o → L[i]? = some o) {u : Nat → Value} {D : Nat → Prop} {w : World} (hK : Known L H M a0 u D w) {i : Nat} {o : Oper} (ho : H[i]? = some o)
    (hD : ∀ j, depB o j = true → D j) : Deps L M (fr u H a0 i) o w := by
  intro j oj d S hj hd hdep hM hw
  have hlt := dep_lt hP ho hdep
  have hjl : j < H.length := by have := (List.getElem?_eq_some_iff.1 ho).1; omega
  have hj' : H[j]? = some oj := by
    have := hL j _ (List.getElem?_eq_getElem hjl)
    rw [hj] at this
    cases this
    exact List.getElem?_eq_getElem hjl
  rw [fr_new hP hj' hd hlt]
  exact hK j oj S (hD j hdep) hj' hM (by rw [← wanted_later hP hR hL hj' (Nat.le_of_lt hlt)]; exact hw)
/-- Two paths agree on what has been carried out. -/
theorem agree (hP : persB H a0.tmps.size = true) (hR : readsB L H = true) (hL : ∀ (i : Nat) (o : Oper), H[i]? = some o → L[i]? = some o) {p p' : (i : Nat) → (S : Yld) → S.X} {u u' : Nat → Value}
    (h : PathP P Up L H M a0 w0 E p u) (h' : PathP P Up L H M a0 w0 E p' u') {D : Nat → Prop} {w : World} (hw : Below w0.heap.size w0 w) (hcl : ∀ i o, D i → H[i]? = some o → ∀ j, depB o j = true → D j)
    (hp : ∀ i S, D i → p i S = p' i S) (hK : Known L H M a0 u D w) : ∀ i o, D i → H[i]? = some o → u i = u' i ∧ Region.wanted o (yielded L.toArray (fr u H a0 i).tmps) = Region.wanted o (yielded L.toArray (fr u' H a0 i).tmps) := by
  intro i
  induction i using Nat.strongRecOn with
  | ind i ih =>
    intro o hi ho
    have hlooks : ∀ t ∈ o.looksAt L.toArray, (fr u H a0 i).eval (.tmp t) = (fr u' H a0 i).eval (.tmp t) := fun t ht => by
      rcases looks_fr hP hR ho ht with ⟨_, he⟩ | ⟨j, oj, hj, hd, hdep, hlt, he⟩
      · rw [he u, he u']
      · rw [he u, he u']
        exact (ih j hlt oj (hcl i o hi ho j hdep) hj).1
    obtain ⟨e1, e2⟩ := same_of_looks (L := L) (readsB_spec hR ho).1 (by rw [fr_size, fr_size]) hlooks
    refine ⟨?_, e2⟩
    have s1 := h.step i o ho
    have s2 := h'.step i o ho
    rw [← e2] at s2
    by_cases hwt : Region.wanted o (yielded L.toArray (fr u H a0 i).tmps) = true
    · rw [if_pos hwt] at s1 s2
      cases hM : madeAt M i with
      | some S =>
        simp only [hM] at s1 s2
        rw [s1.2, s2.2, hp i S hi]
      | none =>
        simp only [hM] at s1 s2
        have hd1 := deps_of hP hR hL hK ho fun j hj => hcl i o hi ho j hj
        have hd2 : Deps L M (fr u' H a0 i) o w := by
          intro j oj d S hj hd hdep hMj hwj
          have hlt := dep_lt hP ho hdep
          have hjl : j < H.length := by have := (List.getElem?_eq_some_iff.1 ho).1; omega
          have hj' : H[j]? = some oj := by
            have := hL j _ (List.getElem?_eq_getElem hjl)
            rw [hj] at this
            cases this
            exact List.getElem?_eq_getElem hjl
          have hDj := hcl i o hi ho j hdep
          obtain ⟨f1, f2⟩ := ih j hlt oj hDj hj'
          rw [fr_new hP hj' hd hlt, ← f1]
          refine hK j oj S hDj hj' hMj ?_
          rw [f2, ← wanted_later hP hR hL hj' (Nat.le_of_lt hlt)]
          exact hwj
        have r1 := s1 w hw hd1
        have r2 := s2 w hw hd2
        rw [e1, r2] at r1
        injection r1 with h1 _
        injection h1 with h2
        exact h2.symm
    · rw [if_neg hwt] at s1 s2
      rw [s1, s2]
/-- What holds while the head is run. -/
structure InvW (P : Program) (Up : Exit → Prop) (L H : List Oper) (M : List (Nat × Yld)) (a0 : Act) (w0 : World) (E : Act → Prop) (listed : Array Bool) (a : Act) (w : World) : Prop where
  lsize : listed.size = L.length
  tail : ∀ t, H.length ≤ t → t < L.length → listed.getD t true = false
  below : Below w0.heap.size w0 w
  size : a.tmps.size = a0.tmps.size
  defers : a.defers = a0.defers
  old : ∀ t, (∀ i o, H[i]? = some o → listed.getD i true = true → o.dst ≠ some t) → a.eval (.tmp t) = a0.eval (.tmp t)
  closed : ∀ i o, H[i]? = some o → listed.getD i true = true → ∀ j, depB o j = true → listed.getD j true = true
  path : ∃ p u, PathP P Up L H M a0 w0 E p u ∧ (∀ i o d, H[i]? = some o → listed.getD i true = true → o.dst = some d → a.eval (.tmp d) = u i) ∧ Known L H M a0 u (fun i => i < H.length ∧ listed.getD i true = true) w
theorem Known.mono {u : Nat → Value} {D : Nat → Prop} {w w' : World} (h : Known L H M a0 u D w) (hb : Below w.heap.size w w') : Known L H M a0 u D w' := fun j oj S hD hj hM hw => by
  obtain ⟨x, e, hr⟩ := h j oj S hD hj hM hw
  exact ⟨x, e, S.st x w w' hr hb⟩
theorem InvW.looks (hP : persB H a0.tmps.size = true) (hR : readsB L H = true) {listed : Array Bool} {a : Act} {w : World} (h : InvW P Up L H M a0 w0 E listed a w) {u : Nat → Value} (hu : ∀ i o d, H[i]? = some o → listed.getD i true = true → o.dst = some d → a.eval (.tmp d) = u i)
    {i : Nat} {o : Oper} (ho : H[i]? = some o) (hl : listed.getD i true = false) (hd : ∀ j, depB o j = true → listed.getD j true = true) : ∀ t ∈ o.looksAt L.toArray, a.eval (.tmp t) = (fr u H a0 i).eval (.tmp t) := by
  intro t ht
  rcases looks_fr hP hR ho ht with ⟨hold, he⟩ | ⟨j, oj, hj, hdj, hdep, hlt, he⟩
  · rw [he u]
    refine h.old t fun k ok hk hlk e => ?_
    unfold oldB at hold
    rw [List.all_eq_true] at hold
    have := hold (ok, k) (by rw [List.mem_zipIdx_iff_getElem?]; exact hk)
    simp only [Bool.or_eq_true, bne_iff_ne, ne_eq, beq_iff_eq] at this
    rcases this with (h' | h') | h'
    · exact h' e
    · subst h'; rw [hl] at hlk; cases hlk
    · have := h.closed k ok hk hlk i h'
      rw [hl] at this; cases this
  · rw [he u]
    exact hu j oj t hj (hd j hdep) hdj
open Classical in
/-- One operation of the head. -/
theorem InvW.step (hP : persB H a0.tmps.size = true) (hR : readsB L H = true) (hL : ∀ (i : Nat) (o : Oper), H[i]? = some o → L[i]? = some o) (hW : walk P Up L M w0 E 0 H a0) {listed : Array Bool} {a : Act} {w : World} (h : InvW P Up L H M a0 w0 E listed a w)
    {i : Nat} {o : Oper} (ho : H[i]? = some o) (hl : listed.getD i true = false) (hd : ∀ j, depB o j = true → listed.getD j true = true) {K : Act → World → Prop}
    (hK : ∀ v w', Below w.heap.size w w' → InvW P Up L H M a0 w0 E (listed.setIfInBounds i true) (a.put o.dst v) w' → K (a.put o.dst v) w') :
    if Region.wanted o (yielded L.toArray a.tmps) = true then o.wp P a w K (Ups Up a0.defers w0) else K (a.put o.dst undef) w := by
  obtain ⟨⟨d, hod, hdn⟩, _, hun⟩ := persB_spec hP ho
  obtain ⟨p, u, hp, hu, hk⟩ := h.path
  have hil : i < H.length := (List.getElem?_eq_some_iff.1 ho).1
  have hiL : i < L.length := (List.getElem?_eq_some_iff.1 (hL i o ho)).1
  have hi : i < listed.size := by rw [h.lsize]; exact hiL
  obtain ⟨e1, e2⟩ := same_of_looks (L := L) (readsB_spec hR ho).1 (by rw [fr_size, h.size]) (h.looks hP hR hu ho hl hd)
  have hdeps : Deps L M (fr u H a0 i) o w := deps_of hP hR hL hk ho fun j hj => ⟨by have := dep_lt hP ho hj; omega, hd j hj⟩
  have hs := hp.step i o ho
  -- the new invariant, given a path whose value here is v
  have next : ∀ v w', Below w.heap.size w w' → (∃ p' u', PathP P Up L H M a0 w0 E p' u' ∧ u' i = v ∧ (∀ j oj, j < H.length → listed.getD j true = true → H[j]? = some oj → u' j = u j) ∧ Known L H M a0 u' (fun j => j < H.length ∧ (listed.setIfInBounds i true).getD j true = true) w') →
      InvW P Up L H M a0 w0 E (listed.setIfInBounds i true) (a.put o.dst v) w' := by
    rintro v w' hb ⟨p', u', hp', hv, hag, hk'⟩
    refine ⟨by simpa using h.lsize, fun t h1 h2 => by rw [getD_set_ne _ (by omega)]; exact h.tail t h1 h2, h.below.trans (hb.mono h.below.size), by rw [put_size]; exact h.size, by rw [put_defers]; exact h.defers, ?_, ?_, p', u', hp', ?_, hk'⟩
    · intro t ht
      rw [put_get_ne _ _ _ _ (ht i o ho (getD_set_self _ hi))]
      exact h.old t fun j oj hj hlj => ht j oj hj (getD_set_true' hlj)
    · intro j oj hj hlj k hdep
      by_cases hij : i = j
      · subst hij
        rw [ho] at hj
        cases hj
        exact getD_set_true' (hd k hdep)
      · rw [getD_set_ne _ hij] at hlj
        exact getD_set_true' (h.closed j oj hj hlj k hdep)
    · intro j oj dj hj hlj hdj
      by_cases hij : i = j
      · subst hij
        rw [ho] at hj
        cases hj
        rw [hod] at hdj
        cases hdj
        rw [hod, put_get_eq _ _ _ (by rw [h.size]; exact hdn), hv]
      · rw [getD_set_ne _ hij] at hlj
        rw [put_get_ne _ _ _ _ (fun e => hun j oj hj (Ne.symm hij) (hdj.trans e.symm)), hag j oj (List.getElem?_eq_some_iff.1 hj).1 hlj hj]
        exact hu j oj dj hj hlj hdj
  -- the path stays
  have stay : ∀ w', Below w.heap.size w w' → (∀ S, madeAt M i = some S → Region.wanted o (yielded L.toArray (fr u H a0 i).tmps) = true → S.R (u i) w') → InvW P Up L H M a0 w0 E (listed.setIfInBounds i true) (a.put o.dst (u i)) w' := by
    intro w' hb hmade
    refine next _ _ hb ⟨p, u, hp, rfl, fun _ _ _ _ _ => rfl, fun j oj S hj hoj hM hw => ?_⟩
    by_cases hij : i = j
    · subst hij
      rw [ho] at hoj
      cases hoj
      exact hmade S hM hw
    · obtain ⟨hj1, hj2⟩ := hj
      rw [getD_set_ne _ hij] at hj2
      exact hk.mono hb j oj S ⟨hj1, hj2⟩ hoj hM hw
  by_cases hw : Region.wanted o (yielded L.toArray (fr u H a0 i).tmps) = true
  · rw [if_pos hw] at hs
    rw [if_pos (e2.trans hw)]
    cases hM : madeAt M i with
    | none =>
      simp only [hM] at hs
      have hr := hs w h.below hdeps
      unfold Oper.wp Oper.upon
      rw [e1, hr]
      exact hK _ _ (Below.refl _ _) (stay w (Below.refl _ _) fun S hS => by rw [hM] at hS; cases hS)
    | some S =>
      simp only [hM] at hs
      have hwp := hs.1 w h.below hdeps
      have hups : ∀ x a1 w1, Ups Up (fr u H a0 i).defers w x a1 w1 → Ups Up a0.defers w0 x a1 w1 := fun x a1 w1 hq => ⟨hq.1, hq.2.1.trans (fr_defers _ _ _ _), h.below.trans (hq.2.2.mono h.below.size)⟩
      have hwp' : o.wp P a w (fun a' w' => ∃ v, a' = a.put o.dst v ∧ S.R v w' ∧ Below w.heap.size w w') (Ups Up a0.defers w0) := by
        have hput : ∀ v, ∃ v', (fr u H a0 i).put o.dst v = (fr u H a0 i).put o.dst v' := fun v => ⟨v, rfl⟩
        unfold WpYld Oper.wp at hwp
        unfold Oper.wp
        rw [e1]
        generalize (execOp (fr u H a0 i).eval o).run P w = r at hwp ⊢
        have inj : ∀ {v v' : Value}, (fr u H a0 i).put o.dst v = (fr u H a0 i).put o.dst v' → v = v' := fun {v v'} e => by
          have h1 := put_get_eq (fr u H a0 i) d v (by rw [fr_size]; exact hdn)
          have h2 := put_get_eq (fr u H a0 i) d v' (by rw [fr_size]; exact hdn)
          rw [hod] at e
          rw [← h1, e, h2]
        have conv : ∀ (v : Value) (w' : World), (∃ v', (fr u H a0 i).put o.dst v = (fr u H a0 i).put o.dst v' ∧ S.R v' w' ∧ Below w.heap.size w w') → ∃ v', a.put o.dst v = a.put o.dst v' ∧ S.R v' w' ∧ Below w.heap.size w w' := by
          rintro v w' ⟨v', e, hR, hb⟩
          rw [inj e]
          exact ⟨v', rfl, hR, hb⟩
        cases r with
        | halt x w' =>
          cases x <;> simp only [Oper.upon] at hwp ⊢
          case panic v => exact ⟨(hwp : Ups _ _ _ _ _ _).1, h.defers, (hups _ _ _ hwp).2.2⟩
        | ok n w' =>
          cases n <;> simp only [Oper.upon] at hwp ⊢
          case value v => exact conv v w' hwp
          case skip => exact conv undef w' hwp
          case enter f args =>
            refine Calls.mono hwp fun e w'' he => ?_
            cases e with
            | returned v => exact conv v w'' he
            | panicked c => exact ⟨(he : Ups _ _ _ _ _ _).1, h.defers, (hups _ _ _ he).2.2⟩
            | outgrown => obtain ⟨a1, w1, h0⟩ := (he : LetsOut _); exact ⟨a1, w1, hups _ _ _ h0⟩
          case row rw args =>
            exact hwp.mono fun v w'' he => conv v w'' he
          case defer dd =>
            obtain ⟨v', e, _⟩ := hwp
            have := congrArg Act.defers e
            rw [put_defers, put_defers] at this
            have := congrArg List.length this
            simp at this
      refine Oper.wp_mono (fun a' w' hq => ?_) hwp'
      obtain ⟨v, rfl, hRv, hb⟩ := hq
      obtain ⟨x, hx, hrel⟩ := hRv
      refine hK _ _ hb (next v w' hb ?_)
      obtain ⟨u', hp'⟩ := path_exists (a0 := a0) (fun k S' => if hh : k = i ∧ S' = S then hh.2 ▸ x else p k S') hW
      have hag := agree hP hR hL hp hp' (D := fun j => j < H.length ∧ listed.getD j true = true) (w := w) h.below (fun j oj hj hoj k hdep => ⟨by have := dep_lt hP hoj hdep; omega, h.closed j oj hoj hj.2 k hdep⟩)
        (fun j S' hj => by
          have hne : ¬ (j = i ∧ S' = S) := fun hh => by
            have := hj.2
            rw [hh.1, hl] at this
            cases this
          simp only [dif_neg hne]) hk
      have hlooks' : ∀ t ∈ o.looksAt L.toArray, (fr u H a0 i).eval (.tmp t) = (fr u' H a0 i).eval (.tmp t) := fun t ht => by
        rcases looks_fr hP hR ho ht with ⟨_, he⟩ | ⟨j, oj, hj, hdj, hdep, hlt, he⟩
        · rw [he u, he u']
        · rw [he u, he u']
          exact (hag j oj ⟨by omega, hd j hdep⟩ hj).1
      obtain ⟨-, e4⟩ := same_of_looks (L := L) (readsB_spec hR ho).1 (by rw [fr_size, fr_size]) hlooks'
      have hui : u' i = v := by
        have s := hp'.step i o ho
        rw [← e4, if_pos hw, hM] at s
        have := s.2
        rw [this, hx]
        simp
      refine ⟨_, u', hp', hui, fun j oj hj hlj hoj => ((hag j oj ⟨hj, hlj⟩ hoj).1).symm, fun j oj S' hj hoj hMj hwj => ?_⟩
      by_cases hij : i = j
      · subst hij
        rw [ho] at hoj
        cases hoj
        rw [hM] at hMj
        cases hMj
        rw [hui]
        exact ⟨x, hx, hrel⟩
      · obtain ⟨hj1, hj2⟩ := hj
        rw [getD_set_ne _ hij] at hj2
        obtain ⟨f1, f2⟩ := hag j oj ⟨hj1, hj2⟩ hoj
        rw [← f1]
        exact hk.mono hb j oj S' ⟨hj1, hj2⟩ hoj hMj (by rw [f2]; exact hwj)
  · rw [if_neg hw] at hs
    rw [if_neg (by rw [e2]; exact hw), ← hs]
    exact hK _ _ (Below.refl _ _) (stay w (Below.refl _ _) fun S _ hw' => absurd hw' hw)
theorem getD_tf {listed : Array Bool} {j : Nat} (h : listed.getD j false = true) : listed.getD j true = true := by
  by_cases hj : j < listed.size
  · rw [getD_lt hj]; exact h
  · simp [Array.getD_eq_getD_getElem?, Array.getElem?_eq_none (Nat.not_lt.1 hj)]
/-- What is known when the head is done. -/
def Facts (L H : List Oper) (M : List (Nat × Yld)) (a : Act) (w : World) : Prop :=
  ∀ i o d S, H[i]? = some o → o.dst = some d → madeAt M i = some S → Region.wanted o (yielded L.toArray a.tmps) = true → S.R (a.eval (.tmp d)) w
theorem InvW.done (hP : persB H a0.tmps.size = true) (hR : readsB L H = true) (hL : ∀ (i : Nat) (o : Oper), H[i]? = some o → L[i]? = some o) {listed : Array Bool} {a : Act} {w : World} (h : InvW P Up L H M a0 w0 E listed a w)
    (hall : ∀ i, i < H.length → listed.getD i true = true) : E a ∧ Facts L H M a w := by
  obtain ⟨p, u, hp, hu, hk⟩ := h.path
  have he : fr u H a0 H.length = a := by
    refine act_ext (by rw [fr_size, h.size]) (by rw [fr_defers, h.defers]) fun t => ?_
    by_cases ht : ∃ (i : Nat) (o : Oper), H[i]? = some o ∧ o.dst = some t
    · obtain ⟨i, o, ho, hod⟩ := ht
      have hi := (List.getElem?_eq_some_iff.1 ho).1
      rw [fr_new hP ho hod hi]
      exact (hu i o t ho (hall i hi) hod).symm
    · rw [fr_old fun j o _ ho e => ht ⟨j, o, ho, e⟩]
      exact (h.old t fun i o ho _ e => ht ⟨i, o, ho, e⟩).symm
  refine ⟨he ▸ hp.fin, fun i o d S ho hd hM hw => ?_⟩
  have hi := (List.getElem?_eq_some_iff.1 ho).1
  rw [hu i o d ho (hall i hi) hd]
  refine hk i o S ⟨hi, hall i hi⟩ ho hM ?_
  rw [← wanted_later hP hR hL ho (Nat.le_of_lt hi), he]
  exact hw
theorem seq_listed {n : Nat} {listed : Array Bool} (hn : n ≤ L.length) (hs : listed.size = L.length) (h1 : ∀ i, i < n → listed.getD i true = true) (h2 : ∀ t, n ≤ t → t < L.length → listed.getD t true = false) :
    listed = (List.replicate n true ++ List.replicate (L.length - n) false).toArray := by
  apply Array.ext
  · simp; omega
  · intro i hi1 hi2
    have e : listed.getD i true = listed[i] := by simp [Array.getD_eq_getD_getElem?, hi1]
    rw [← e]
    by_cases hin : i < n
    · rw [h1 i hin]
      simp [hin]
    · rw [h2 i (by omega) (by omega)]
      simp [List.getElem_append, hin]
theorem wpAny_walk {Q : Exit → Act → World → Prop} {n : Nat} (hH : H = L.take n) (hn : n ≤ L.length) (hP : persB H a0.tmps.size = true) (hR : readsB L H = true) (hT : n = L.length ∨ tailB L n = true) (hW : walk P Up L M w0 E 0 H a0)
    (hup : ∀ x a w, Ups Up a0.defers w0 x a w → Q x a w) (hend : ∀ a w, E a → Below w0.heap.size w0 w → Facts L H M a w → wpList P L.toArray Q (L.drop n) a w) :
    ∀ (fuel : Nat) (U : List Nat) (listed : Array Bool) (a : Act) (w : World), U.Nodup → (∀ i, i ∈ U ↔ i < n ∧ listed.getD i true = false) → fuel = U.length + (L.length - n) → InvW P Up L H M a0 w0 E listed a w → wpAny P .any L.toArray Q fuel listed a w := by
  have hHl : H.length = n := by rw [hH]; simp; omega
  have hL : ∀ (i : Nat) (o : Oper), H[i]? = some o → L[i]? = some o := fun i o h => by
    rw [hH, List.getElem?_take] at h
    split at h
    · exact h
    · cases h
  have hLH : ∀ (i : Nat) (o : Oper), i < n → L[i]? = some o → H[i]? = some o := fun i o hi h => by
    rw [hH, List.getElem?_take, if_pos hi]; exact h
  intro fuel
  induction fuel with
  | zero =>
    intro U listed a w _ hU hf h
    have hU0 : U = [] := List.eq_nil_of_length_eq_zero (by omega)
    have hnl : n = L.length := by omega
    have hall : ∀ i, i < n → listed.getD i true = true := fun i hi => by
      cases hl : listed.getD i true with
      | true => rfl
      | false => have := (hU i).2 ⟨hi, hl⟩; rw [hU0] at this; cases this
    obtain ⟨hE, hF⟩ := h.done hP hR hL (fun i hi => hall i (by omega))
    have hq := hend a w hE h.below hF
    rw [hnl, List.drop_length] at hq
    exact ⟨ready_none fun i hi => hall i (by omega), hq⟩
  | succ fuel ih =>
    intro U listed a w hnd hU hf h
    by_cases hU0 : U = []
    · have hall : ∀ i, i < n → listed.getD i true = true := fun i hi => by
        cases hl : listed.getD i true with
        | true => rfl
        | false => have := (hU i).2 ⟨hi, hl⟩; rw [hU0] at this; cases this
      obtain ⟨hE, hF⟩ := h.done hP hR hL (fun i hi => hall i (by omega))
      have hq := hend a w hE h.below hF
      rw [hU0] at hf
      simp only [List.length_nil, Nat.zero_add] at hf
      have hT' : tailB L n = true := hT.resolve_left (by omega)
      unfold tailB at hT'
      simp only [Bool.and_eq_true] at hT'
      have hlist := seq_listed (L := L) hn h.lsize hall (fun t h1 h2 => h.tail t (by omega) h2)
      have := wpAny_of_seq (P := P) (md := .any) (ops := L.toArray) (Q' := Q) (L.drop n) n listed a w (fun j => by simp [List.getElem?_drop]) (by rw [List.length_drop, hlist]; exact hT'.2) hq
      rw [List.length_drop, ← hf] at this
      exact this
    · have hnotall : ¬ ∀ i, i < n → listed.getD i true = true := fun hall => by
        obtain ⟨x, hx⟩ := List.exists_mem_of_ne_nil _ hU0
        have := (hU x).1 hx
        rw [hall x this.1] at this
        exact absurd this.2 (by decide)
      refine ⟨fun hr => ?_, fun i hi => ?_⟩
      · exfalso
        refine hnotall fun i => ?_
        induction i using Nat.strongRecOn with
        | ind i ihi =>
          intro hi
          cases hl : listed.getD i true with
          | true => rfl
          | false =>
            have ho : H[i]? = some (H[i]'(by omega)) := List.getElem?_eq_getElem _
            obtain ⟨_, h2, _⟩ := persB_spec hP ho
            have : i ∈ Region.ready .any L.toArray listed := by
              rw [mem_ready]
              refine ⟨hl, _, by simpa using hL i _ ho, fun e he hb => ?_⟩
              have hlt := h2 e he hb
              rw [← getD_lt (by rw [h.lsize]; omega)]
              exact ihi e.on hlt (by omega)
            rw [hr] at this
            cases this
      rw [mem_ready] at hi
      obtain ⟨hl, o, ho, hdeps⟩ := hi
      have hoL : L[i]? = some o := by simpa using ho
      have hiL : i < L.length := (List.getElem?_eq_some_iff.1 hoL).1
      have hd : ∀ j, depB o j = true → listed.getD j true = true := fun j hj => by
        obtain ⟨e, he, hon, hb⟩ := depB_of hj
        have := hdeps e he hb
        rw [hon] at this
        exact getD_tf this
      by_cases hin : i < n
      · have ho' := hLH i o hin hoL
        have hs := h.step hP hR hL hW ho' hl hd (K := wpAny P .any L.toArray Q fuel (listed.setIfInBounds i true)) (fun v w' _ hinv => by
          refine ih (U.erase i) _ _ _ (hnd.erase i) (fun j => ?_) ?_ hinv
          · rw [hnd.mem_erase_iff, hU j]
            constructor
            · rintro ⟨h1, h2, h3⟩
              exact ⟨h2, by rw [getD_set_ne _ (Ne.symm h1)]; exact h3⟩
            · rintro ⟨h1, h2⟩
              have hne : j ≠ i := by
                rintro rfl
                rw [getD_set_self _ (by rw [h.lsize]; exact hiL)] at h2; cases h2
              rw [getD_set_ne _ (Ne.symm hne)] at h2
              exact ⟨hne, h1, h2⟩
          · have hm := (hU i).2 ⟨hin, hl⟩
            have := List.length_pos_of_mem hm
            rw [List.length_erase_of_mem hm]
            omega)
        unfold wpOp
        rw [ho]
        simp only
        split at hs
        · next hw => rw [if_pos hw]; exact .inl (oper_wp_to hup hs)
        · next hw => rw [if_neg hw]; exact hs
      · exfalso
        have hT' : tailB L n = true := hT.resolve_left (by omega)
        unfold tailB at hT'
        simp only [Bool.and_eq_true] at hT'
        obtain ⟨⟨hT1, hT2⟩, _⟩ := hT'
        by_cases hni : i = n
        · subst hni
          refine hnotall ?_
          have key : ∀ m k, i - k = m → k < i → listed.getD k true = true := by
            intro m
            induction m using Nat.strongRecOn with
            | ind m ihm =>
              intro k hm hk
              have := List.all_eq_true.1 hT1 k (List.mem_range.2 hk)
              rw [Bool.or_eq_true, hoL] at this
              rcases this with h1 | h1
              · exact hd k h1
              · obtain ⟨⟨o', k'⟩, hm', h2⟩ := List.any_eq_true.1 h1
                simp only [Bool.and_eq_true, decide_eq_true_eq] at h2
                rw [List.mem_zipIdx_iff_getElem?, ← hH] at hm'
                have hk' := (List.getElem?_eq_some_iff.1 hm').1
                exact h.closed k' o' hm' (ihm (i - k') (by omega) k' rfl (by omega)) k h2.2
          exact fun k hk => key _ k rfl hk
        · have := List.all_eq_true.1 hT2 (o, i) (by rw [List.mem_zipIdx_iff_getElem?]; exact hoL)
          simp only [Bool.or_eq_true, decide_eq_true_eq] at this
          rcases this with h1 | h1
          · omega
          · have h2 := hd _ h1
            rw [h.tail (i - 1) (by omega) (by omega)] at h2
            cases h2
/-- THE LAW: n operations in whatever order, walked in the list's order; the rest behind them. -/
theorem wp_region_walkU {id : Nat} {Q : Exit → Act → World → Prop} (n : Nat) (M : List (Nat × Yld)) (hm : P.follows .mixedOrders = true) (hB : walkB L n a0.tmps.size = true) (hup : ∀ x a w, Ups Up a0.defers w0 x a w → Q x a w)
    (h : walk P Up L M w0 (fun a => ∀ w, Below w0.heap.size w0 w → Facts L (L.take n) M a w → wpList P L.toArray Q (L.drop n) a w) 0 (L.take n) a0) : (Code.region id L.toArray true).wp P Q a0 w0 := by
  unfold walkB at hB
  simp only [Bool.and_eq_true, Bool.or_eq_true, decide_eq_true_eq] at hB
  obtain ⟨⟨⟨hn, hP⟩, hR⟩, hT⟩ := hB
  refine wp_region_any hm ?_
  have hf : ∀ i, i < L.length → (Array.replicate L.toArray.size false).getD i true = false := fun i hi => by
    rw [Array.getD_eq_getD_getElem?, Array.getElem?_eq_getElem (by simpa using hi)]
    simp
  have hHl : (L.take n).length = n := by simp; omega
  obtain ⟨u, hu⟩ := path_exists (a0 := a0) (fun _ S => S.inh) h
  refine wpAny_walk (w0 := w0) rfl hn hP hR hT h hup (fun a w hE hb hF => hE w hb hF) _ (List.range n) _ _ _ List.nodup_range (fun i => ?_) (by simp; omega) ?_
  · rw [List.mem_range]
    exact ⟨fun hi => ⟨hi, hf i (by omega)⟩, fun hi => hi.1⟩
  · refine ⟨by simp, fun t _ ht => hf t ht, ⟨rfl, rfl, rfl, Nat.le_refl _, fun _ _ => rfl⟩, rfl, rfl, fun t _ => rfl, fun i o ho hl => ?_, _, u, hu, fun i o d ho hl => ?_, fun j oj S hj => ?_⟩
    · have := (List.getElem?_eq_some_iff.1 ho).1
      rw [hf i (by omega)] at hl; cases hl
    · have := (List.getElem?_eq_some_iff.1 ho).1
      rw [hf i (by omega)] at hl; cases hl
    · have := hj.2
      rw [hf j (by omega)] at this; cases this
/-- The same where nothing goes up. -/
theorem wp_region_walk {id : Nat} {Q : Exit → Act → World → Prop} (n : Nat) (M : List (Nat × Yld)) (hm : P.follows .mixedOrders = true) (hB : walkB L n a0.tmps.size = true)
    (h : walk P NoUp L M w0 (fun a => ∀ w, Below w0.heap.size w0 w → Facts L (L.take n) M a w → wpList P L.toArray Q (L.drop n) a w) 0 (L.take n) a0) : (Code.region id L.toArray true).wp P Q a0 w0 :=
  wp_region_walkU n M hm hB (fun _ _ _ hq => (hq.1 : False).elim) h
end
end Go.Fd
namespace Go.Fd
open Go.RowKit
/-- An operation that comes to a value, if it comes to anything. -/
def valB (o : Oper) : Bool :=
  match o.op with
  | .move _ | .assign _ | .pick _ _ _ | .alloc _ | .box _ _ | .build _ _ | .buildSlice _ _ _ | .load _ _ | .binOp _ _ _ _ _ | .unOp _ _ _ | .convert _ _ _ | .makeInterface _ _ | .makeFunc _ _ _ | .makeSlice _ _ _ | .makeMap _ _ | .slice _ _ _ _ _ | .fieldAddr _ _ _ | .field _ _ _ | .indexAddr _ _ _ | .index _ _ _ | .lookup _ _ _ _ | .extract _ _ | .typeAssert _ _ _ _ => true
  | .call c => (match c.callee with | .builtin .len => true | .builtin .cap => true | .builtin .min => true | .builtin .max => true | .builtin .append => true | .builtin .copy => true | _ => false)
  | _ => false
theorem run_v {P : Program} {s : Sem Value} {w w' : World} {n : Next} (h : (do pure (.value (← s)) : Sem Next).run P w = .ok n w') : ∃ v, n = .value v := by
  rw [Sem.run_bind] at h
  cases hs : s.run P w with
  | ok v w1 =>
    rw [hs, Result.andThen_ok] at h
    have : (pure (Next.value v) : Sem Next).run P w1 = .ok (.value v) w1 := rfl
    rw [this] at h
    cases h
    exact ⟨v, rfl⟩
  | halt x w1 =>
    rw [hs, Result.andThen_halt] at h
    cases h
theorem valB_spec {P : Program} {o : Oper} (h : valB o = true) {ρ : Operand → Value} {w w' : World} {n : Next} (hr : (execOp ρ o).run P w = .ok n w') : ∃ v, n = .value v := by
  obtain ⟨dst, op, type, pos, after, guard⟩ := o
  cases op <;> simp only [valB] at h <;> simp only [execOp] at hr
  case move x => exact run_v (s := pure (ρ x)) hr
  case assign x => exact run_v (s := pure (ρ x)) hr
  case call c =>
    obtain ⟨callee, args, ats⟩ := c
    cases callee with
    | value f => cases h
    | invoke r m => cases h
    | builtin b =>
      cases b <;> simp only at h <;> first | (cases h; done) | exact run_v hr
  case pick c x y =>
    rw [Sem.run_bind] at hr
    cases hs : (asBool (ρ c)).run P w with
    | ok v w1 =>
      rw [hs, Result.andThen_ok] at hr
      have : (pure (Next.value (if v = true then ρ x else ρ y)) : Sem Next).run P w1 = .ok (.value (if v = true then ρ x else ρ y)) w1 := rfl
      exact ⟨(if v = true then ρ x else ρ y), by
        rw [show (pure (Next.value (if v = true then ρ x else ρ y)) : Sem Next).run P w1 = .ok (.value (if v = true then ρ x else ρ y)) w1 from rfl] at hr
        cases hr; rfl⟩
    | halt x w1 =>
      rw [hs, Result.andThen_halt] at hr
      cases hr
  all_goals first | (cases h; done) | exact run_v hr
section
variable {P : Program} {Up : Exit → Prop} {L r : List Oper} {M : List (Nat × Yld)} {a : Act} {w0 : World} {E : Act → Prop} {i : Nat} {o : Oper}
theorem Above.cell (x : Above w0) (b k : Nat) (h : b < w0.heap.size) : x.w.cell? ⟨b, k, none⟩ = w0.cell? ⟨b, k, none⟩ := x.h.cell (p := ⟨b, k, none⟩) h
theorem walk_skip (hw : Region.wanted o (yielded L.toArray a.tmps) = false) (h : walk P Up L M w0 E (i + 1) r (a.put o.dst undef)) : walk P Up L M w0 E i (o :: r) a := by
  rw [walk, if_neg (by rw [hw]; exact Bool.false_ne_true)]
  exact h
theorem walk_val {v : Value} (hw : Region.wanted o (yielded L.toArray a.tmps) = true) (hM : madeAt M i = none) (h : ∀ w, Below w0.heap.size w0 w → Deps L M a o w → (execOp a.eval o).run P w = .ok (.value v) w) (hn : walk P Up L M w0 E (i + 1) r (a.put o.dst v)) : walk P Up L M w0 E i (o :: r) a := by
  rw [walk, if_pos hw, hM]
  exact ⟨v, h, hn⟩
theorem walk_made {S : Yld} (hw : Region.wanted o (yielded L.toArray a.tmps) = true) (hM : madeAt M i = some S) (h : ∀ w, Below w0.heap.size w0 w → Deps L M a o w → WpYld P Up o a S w) (hn : ∀ x, walk P Up L M w0 E (i + 1) r (a.put o.dst (S.shape x))) : walk P Up L M w0 E i (o :: r) a := by
  rw [walk, if_pos hw, hM]
  exact ⟨h, hn⟩
/-- An operation that is run by the walk's own rules. -/
theorem walk_quiet (hw : Region.wanted o (yielded L.toArray a.tmps) = true) (hM : madeAt M i = none) (hv : valB o = true) (h : ∀ K : Act → Prop, (∀ a, walk P Up L M w0 E (i + 1) r a → K a) → o.quiet P a (fun w => ∃ x : Above w0, w = x.w) K) : walk P Up L M w0 E i (o :: r) a := by
  obtain ⟨v, h1, h2⟩ := h (walk P Up L M w0 E (i + 1) r) (fun _ h => h)
  refine walk_val hw hM (fun w hb _ => ?_) h2
  have := h1 w ⟨⟨w, hb⟩, rfl⟩
  unfold Oper.quietAt at this
  generalize hr : (execOp a.eval o).run P w = res at this
  cases res with
  | halt x w' => exact this.elim
  | ok n w' =>
    obtain ⟨u, rfl⟩ := valB_spec hv hr
    obtain ⟨rfl, rfl⟩ := (this : w' = w ∧ u = v)
    rfl
theorem walk_nil (h : E a) : walk P Up L M w0 E i [] a := h
theorem WpYld.val {S : Yld} {v : Value} {w w' : World} (hr : (execOp a.eval o).run P w = .ok (.value v) w') (hR : S.R v w') (hb : Below w.heap.size w w') : WpYld P Up o a S w := by
  unfold WpYld Oper.wp Oper.upon
  rw [hr]
  exact ⟨v, rfl, hR, hb⟩
theorem WpYld.call {S : Yld} {f : FuncId} {args : Array Value} {w : World} (hr : (execOp a.eval o).run P w = .ok (.enter f args) w) (h : Calls P f args w fun e w' => ∃ v, e = .returned v ∧ S.R v w' ∧ Below w.heap.size w w') : WpYld P Up o a S w := by
  unfold WpYld Oper.wp Oper.upon
  rw [hr]
  refine h.mono fun e w' ⟨v, he, hv, hb⟩ => ?_
  subst he
  exact ⟨v, rfl, hv, hb⟩
end
theorem run_callL {P : Program} {a : Act} {w : World} {d : Option Tmp} {ty : TypeId} {pos : String} {aft : Array Edge} {g : Option (Nat × Bool)} {f : FuncId} {fn : Func} {xs : List Operand} {ts : Array TypeId} {vals : List Value} (hf : P.funcs[f]? = some fn) (hn : (fn.name == "runtime.NumGoroutine") = false) {c : Code} (hb : fn.body = some c) (hx : xs.map a.eval = vals) :
    (execOp a.eval ⟨d, .call { callee := .value (.func f), args := xs.toArray, argTypes := ts }, ty, pos, aft, g⟩).run P w = .ok (.enter f vals.toArray) w :=
  run_call hf hn hb (by rw [List.map_toArray, hx])
theorem WpYld.callIs {P : Program} {Up : Exit → Prop} {a : Act} {o : Oper} {f : FuncId} {args : Array Value} {c : Value} {w : World} (hr : (execOp a.eval o).run P w = .ok (.enter f args) w) (h : Calls P f args w fun e w' => e = .returned c ∧ w = w') : WpYld P Up o a (Yld.is c) w :=
  WpYld.call hr (h.mono fun _ _ ⟨he, hw⟩ => ⟨c, he, ⟨(), rfl, trivial⟩, hw ▸ Below.refl _ _⟩)
theorem WpYld.callIsB {P : Program} {Up : Exit → Prop} {a : Act} {o : Oper} {f : FuncId} {args : Array Value} {c : Value} {w : World} (hr : (execOp a.eval o).run P w = .ok (.enter f args) w) (h : Calls P f args w fun e w' => e = .returned c ∧ Below w.heap.size w w') : WpYld P Up o a (Yld.is c) w :=
  WpYld.call hr (h.mono fun _ _ ⟨he, hb⟩ => ⟨c, he, ⟨(), rfl, trivial⟩, hb⟩)
section
variable {P : Program} {Up : Exit → Prop} {L r : List Oper} {M : List (Nat × Yld)} {a : Act} {w0 : World} {E : Act → Prop} {i : Nat} {o : Oper}
theorem walk_is {c : Value} (hw : Region.wanted o (yielded L.toArray a.tmps) = true) (hM : madeAt M i = some (Yld.is c)) (h : ∀ w, Below w0.heap.size w0 w → Deps L M a o w → WpYld P Up o a (Yld.is c) w) (hn : walk P Up L M w0 E (i + 1) r (a.put o.dst c)) : walk P Up L M w0 E i (o :: r) a :=
  walk_made hw hM h fun _ => hn
end
/-- A block of memory, made in the region, of so many cells. -/
def Yld.new (B : Nat) (t : TypeId) (n : Nat) : Yld := ⟨Nat, 0, fun g => .pointer (some ⟨g, 0, none⟩), fun g w => B ≤ g ∧ ∃ cs : Array Value, w.heap[g]? = some (.cells cs t (0, 0)) ∧ cs.size = n,
  fun g w w' ⟨h1, cs, h2, h3⟩ hb => ⟨h1, cs, by rw [hb.block g (Array.getElem?_eq_some_iff.1 h2).1]; exact h2, h3⟩⟩
theorem walk_new {P : Program} {Up : Exit → Prop} {L r : List Oper} {M : List (Nat × Yld)} {a : Act} {w0 : World} {E : Act → Prop} {i : Nat} {o : Oper} {B n : Nat} {t : TypeId} (hw : Region.wanted o (yielded L.toArray a.tmps) = true) (hM : madeAt M i = some (Yld.new B t n)) (h : ∀ w, Below w0.heap.size w0 w → Deps L M a o w → WpYld P Up o a (Yld.new B t n) w) (hn : ∀ g : Nat, walk P Up L M w0 E (i + 1) r (a.put o.dst (.pointer (some ⟨g, 0, none⟩)))) : walk P Up L M w0 E i (o :: r) a :=
  walk_made hw hM h hn
theorem Yld.new_got {B n g : Nat} {t : TypeId} {w : World} (h : (Yld.new B t n).R (.pointer (some ⟨g, 0, none⟩)) w) : B ≤ g ∧ ∃ cs : Array Value, w.heap[g]? = some (.cells cs t (0, 0)) ∧ cs.size = n := by
  obtain ⟨x, e, hr⟩ := h
  have : g = x := by
    have e' : (Value.pointer (some ⟨g, 0, none⟩)) = .pointer (some ⟨x, 0, none⟩) := e
    injection e' with e'; injection e' with e'; injection e'
  subst this
  exact hr
theorem Yld.new_mk {w0 w : World} {t : TypeId} (cs : Array Value) (h : Below w0.heap.size w0 w) : (Yld.new w0.heap.size t cs.size).R (.pointer (some ⟨w.heap.size, 0, none⟩)) (w.alloc (.cells cs t)) ∧ Below w.heap.size w (w.alloc (.cells cs t)) :=
  ⟨⟨w.heap.size, rfl, h.size, cs, heap_alloc_last w _, rfl⟩, below_alloc w _⟩
theorem Yld.is_mk {c : Value} {w : World} : (Yld.is c).R c w := ⟨(), rfl, trivial⟩
section
variable {P : Program} {ops : Array Oper} {rest : List Oper} {Q : Exit → Act → World → Prop} {a : Act} {w : World}
/-- The store of a record into a block that was made. -/
theorem wpList_storeMade {d : Option Tmp} {ty t : TypeId} {pos : String} {aft : Array Edge} {p x : Operand} {c c' : Array Value} {g B : Nat} (hg : w.heap[g]? = some (.cells c t (0, 0))) (hp : a.eval p = .pointer (some ⟨g, 0, none⟩)) (hx : a.eval x = .agg c')
    (hi : (P.info? t).map (·.size) = some c'.size) (ho : c.size = c'.size) (h1 : c'.all (·.oneCell') = true) (hB : B ≤ g) (hBw : B ≤ w.heap.size)
    (h : ∀ w1, w1.heap[g]? = some (.cells c' t (0, 0)) → Below B w w1 → wpList P ops Q rest (a.put d undef) w1) :
    wpList P ops Q (⟨d, .store t p x, ty, pos, aft, none⟩ :: rest) a w := by
  unfold wpList
  rw [if_pos (by simp [Region.wanted])]
  exact .inl (wp_store_made hg hp hx hi ho h1 hB hBw h)
end
end Go.Fd
namespace Go.Fd
/-- Does no local symbol stand behind one that is not? -/
def ordB (l : List SymM) : Bool := (l.zip l.tail).all fun p => decide (p.2.bind ≠ 0) || decide (p.1.bind = 0)
/-- How many are local. -/
def locs (l : List SymM) : Nat := l.countP fun s => decide (s.bind = 0)
theorem ordB_get {l : List SymM} (h : ordB l = true) {i : Nat} {a b : SymM} (ha : l[i]? = some a) (hb : l[i + 1]? = some b) (h0 : b.bind = 0) : a.bind = 0 := by
  unfold ordB at h
  rw [List.all_eq_true] at h
  have hm : (a, b) ∈ l.zip l.tail := by
    rw [List.mem_iff_getElem?]
    refine ⟨i, ?_⟩
    rw [List.getElem?_zip_eq_some]
    exact ⟨ha, by simpa using hb⟩
  have := h _ hm
  simp only [Bool.or_eq_true, decide_eq_true_eq] at this
  rcases this with h1 | h1
  · exact absurd h0 h1
  · exact h1
theorem ordB_of {l : List SymM} (h : ∀ i a b, l[i]? = some a → l[i + 1]? = some b → b.bind = 0 → a.bind = 0) : ordB l = true := by
  unfold ordB
  rw [List.all_eq_true]
  rintro ⟨a, b⟩ hm
  obtain ⟨i, hi⟩ := List.mem_iff_getElem?.1 hm
  rw [List.getElem?_zip_eq_some] at hi
  obtain ⟨h1, h2⟩ := hi
  simp only [Bool.or_eq_true, decide_eq_true_eq]
  by_cases h0 : b.bind = 0
  · exact .inr (h i a b h1 (by simpa using h2) h0)
  · exact .inl h0
theorem ordB_take {l : List SymM} (h : ordB l = true) (k : Nat) : ordB (l.take k) = true := ordB_of fun i a b ha hb h0 => by
  rw [List.getElem?_take] at ha hb
  split at ha
  · split at hb
    · exact ordB_get h ha hb h0
    · cases hb
  · cases ha
theorem ordB_step {l : List SymM} {k : Nat} {x : SymM} (hk : l[k]? = some x) (h : ordB (l.take k) = true) (hx : x.bind ≠ 0 ∨ ∀ y, l[k - 1]? = some y → 0 < k → y.bind = 0) : ordB (l.take (k + 1)) = true := ordB_of fun i a b ha hb h0 => by
  rw [List.getElem?_take] at ha hb
  split at hb
  · by_cases hi : i + 1 < k
    · exact ordB_get (i := i) h (by rw [List.getElem?_take, if_pos (by omega)]; split at ha; exact ha; cases ha) (by rw [List.getElem?_take, if_pos hi]; exact hb) h0
    · obtain rfl : k = i + 1 := by omega
      rw [hk] at hb
      cases hb
      rcases hx with hx | hx
      · exact absurd h0 hx
      · rw [if_pos (by omega)] at ha
        exact hx a (by simpa using ha) (by omega)
  · cases hb
/-- All local ahead of a local one. -/
theorem ordB_locs {l : List SymM} {k : Nat} (h : ordB (l.take k) = true) (hk : k ≤ l.length) : locs (l.take k) = k ∨ ∃ y, l[k - 1]? = some y ∧ 0 < k ∧ y.bind ≠ 0 := by
  induction k with
  | zero => exact .inl rfl
  | succ k ih =>
    have hx : l[k]? = some l[k] := List.getElem?_eq_getElem (by omega)
    by_cases h0 : l[k].bind = 0
    · left
      have h' : ordB (l.take k) = true := by
        have := ordB_take h k
        rwa [List.take_take, Nat.min_eq_left (by omega)] at this
      rcases ih h' (by omega) with h1 | ⟨y, hy, hk0, hne⟩
      · rw [List.take_add_one, hx]
        unfold locs at h1 ⊢
        rw [List.countP_append, h1]
        simp [h0]
      · exfalso
        refine hne (ordB_get (i := k - 1) h (b := l[k]) ?_ ?_ h0)
        · rw [List.getElem?_take, if_pos (by omega)]; exact hy
        · rw [List.getElem?_take, if_pos (by omega), show k - 1 + 1 = k by omega]; exact hx
    · exact .inr ⟨_, hx, by omega, h0⟩
theorem locs_le (l : List SymM) (k : Nat) : locs (l.take k) ≤ k := by
  unfold locs
  exact Nat.le_trans List.countP_le_length (by rw [List.length_take]; omega)
theorem locs_step0 {l : List SymM} {k : Nat} {x : SymM} (hk : l[k]? = some x) (h : x.bind = 0) : locs (l.take (k + 1)) = locs (l.take k) + 1 := by
  rw [List.take_add_one, hk]; unfold locs; rw [List.countP_append]; simp [h]
theorem locs_step1 {l : List SymM} {k : Nat} {x : SymM} (hk : l[k]? = some x) (h : ¬ x.bind = 0) : locs (l.take (k + 1)) = locs (l.take k) := by
  rw [List.take_add_one, hk]; unfold locs; rw [List.countP_append]; simp [h]
/-- A local one behind one that is not. -/
theorem ordB_bad {l : List SymM} {k : Nat} {x : SymM} (hk : l[k]? = some x) (h : ordB (l.take k) = true) (h0 : x.bind = 0) (hl : locs (l.take k) ≠ k) : ordB l = false := by
  have hlt := (List.getElem?_eq_some_iff.1 hk).1
  rcases ordB_locs h (by omega) with h1 | ⟨y, hy, hk0, hne⟩
  · exact absurd h1 hl
  · rw [Bool.eq_false_iff]
    intro hb
    exact hne (ordB_get (i := k - 1) hb hy (by rw [show k - 1 + 1 = k by omega]; exact hk) h0)
theorem ordB_good {l : List SymM} {k : Nat} {x : SymM} (hk : l[k]? = some x) (h : ordB (l.take k) = true) (hl : x.bind ≠ 0 ∨ locs (l.take k) = k) : ordB (l.take (k + 1)) = true := by
  refine ordB_step hk h ?_
  rcases hl with hl | hl
  · exact .inl hl
  · refine .inr fun y hy hk0 => ?_
    have hlt := (List.getElem?_eq_some_iff.1 hk).1
    have hall : ∀ s ∈ l.take k, s.bind = 0 := by
      have : (l.take k).countP (fun s => decide (s.bind = 0)) = (l.take k).length := by rw [List.length_take, Nat.min_eq_left (by omega)]; exact hl
      rw [List.countP_eq_length] at this
      exact fun s hs => by simpa using this s hs
    exact hall y (List.mem_of_getElem? (i := k - 1) (by rw [List.getElem?_take, if_pos (by omega)]; exact hy))
end Go.Fd
namespace Go.Proofs.Ytnhbgijecdeahaa
open Go.RowKit Go.Fd
/-- What a symbol may not be. -/
def symBad (s : SymM) : Bool := !kindB s.bind s.typ || decide (s.sec < 0) || decide (65535 < s.sec)
theorem kindB_pos {b t : Int} (h : kindB b t = true) : 0 ≤ b ∧ b ≤ 2 ∧ 0 ≤ t ∧ t ≤ 6 := by unfold kindB at h; simp at h; omega
def infoB (s : SymM) : UInt8 := UInt8.ofNat (16 * s.bind + s.typ).toNat
def symB (p : SymM × Nat) : List UInt8 := fixed p.2 4 ++ [infoB p.1, 0] ++ fixed (u64of p.1.sec) 2 ++ fixed p.1.value 8 ++ fixed p.1.size 8
def symsB (l : List SymM) (at_ : List Nat) : List UInt8 := List.replicate 24 0 ++ (l.zip at_).flatMap symB
theorem symB_len (p : SymM × Nat) : (symB p).length = 24 := by simp [symB, length_fixed]
theorem bad_step {l : List SymM} {k : Nat} {x : SymM} (h : l[k]? = some x) (h0 : (l.take k).any symBad = false) (hb : symBad x = false) : (l.take (k + 1)).any symBad = false := by
  rw [List.take_add_one, h, List.any_append, h0]
  simp [hb]
theorem bad_yes {l : List SymM} {k : Nat} {x : SymM} (h : l[k]? = some x) (hb : symBad x = true) : l.any symBad = true := List.any_eq_true.2 ⟨x, List.mem_of_getElem? h, hb⟩
theorem bad_all {l : List SymM} {k : Nat} (h : l.length ≤ k) (h0 : (l.take k).any symBad = false) : l.any symBad = false := by rwa [List.take_of_length_le h] at h0
/-- What is written of symbols. -/
def symW (l : List SymM) : List UInt8 × List UInt8 × Nat × Int :=
  if l.any symBad = true then ([], [], 0, 1)
  else if ordB l = false then ([], [], 0, 24)
  else if (buildR (l.map (·.name))).2.2 = 0 then (symsB l (buildR (l.map (·.name))).2.1, (buildR (l.map (·.name))).1, locs l + 1, 0)
  else ([], [], 0, (buildR (l.map (·.name))).2.2)
theorem symW_bad {l : List SymM} (h : l.any symBad = true) : symW l = ([], [], 0, 1) := by unfold symW; rw [if_pos h]
theorem symW_ord {l : List SymM} (h : l.any symBad = false) (h2 : ordB l = false) : symW l = ([], [], 0, 24) := by unfold symW; rw [if_neg (by simp [h]), if_pos h2]
theorem symW_err {l : List SymM} (h : l.any symBad = false) (h2 : ordB l = true) (h3 : (buildR (l.map (·.name))).2.2 ≠ 0) : symW l = ([], [], 0, (buildR (l.map (·.name))).2.2) := by
  unfold symW; rw [if_neg (by simp [h]), if_neg (by simp [h2]), if_neg h3]
theorem symW_ok {l : List SymM} (h : l.any symBad = false) (h2 : ordB l = true) (h3 : (buildR (l.map (·.name))).2.2 = 0) : symW l = (symsB l (buildR (l.map (·.name))).2.1, (buildR (l.map (·.name))).1, locs l + 1, 0) := by
  unfold symW; rw [if_neg (by simp [h]), if_neg (by simp [h2]), if_pos h3]
theorem zip_step {α β : Type} {l : List α} {m : List β} {k : Nat} {x : α} {y : β} (hx : l[k]? = some x) (hy : m[k]? = some y) : (l.zip m).take (k + 1) = (l.zip m).take k ++ [(x, y)] := by
  rw [List.take_add_one]
  congr 1
  rw [show (l.zip m)[k]? = some (x, y) by rw [List.getElem?_zip_eq_some]; exact ⟨hx, hy⟩]
  rfl
end Go.Proofs.Ytnhbgijecdeahaa
namespace Go.Proofs.Ytnhbgijecdeahaa
open Go.RowKit Go.Fd
def ordR (l : List SymM) : Nat × Bool := if ordB l = true then (locs l, true) else (0, false)
theorem ordR_bad {l : List SymM} (h : ordB l = false) : ordR l = (0, false) := by unfold ordR; rw [if_neg (by simp [h])]
theorem ordR_ok {l : List SymM} (h : ordB l = true) : ordR l = (locs l, true) := by unfold ordR; rw [if_pos h]
set_option maxHeartbeats 1000000 in
set_option maxRecDepth 100000 in
theorem ordered_any (l : List SymM) (v : Value) (w : World) (hl : l.length ≤ 1000000) (hv : RdR 6 encSym w v l) :
    Calls Try.prog 43 #[v] w fun e w' => e = .returned (.tuple #[.int .i64 ((ordR l).1 : Nat), .bool (ordR l).2]) ∧ Below w.heap.size w w' := by
  obtain ⟨a, ca, rfl, hca, -, hc⟩ := hv.open (fun _ => rfl)
  have HC := Lib.hid hc
  obtain ⟨nl, hnl⟩ : ∃ n, n = l.length := ⟨_, rfl⟩
  rw [← hnl] at hl hca ⊢
  have HL := Lib.hid hnl
  clear hc hv hnl
  go_enter Try.func43, Try.ntmps43
  go_wp2
  go_loopw [4, 9] (fun c i wr => ∃ k n : Nat, i = .int .i64 k ∧ c = .int .i64 n ∧ k ≤ nl ∧ n ≤ k ∧ Hid (n = locs (l.take k)) ∧ Hid (ordB (l.take k) = true) ∧ Hid (Below w.heap.size w wr)) (fun _ i _ => nl - (intOf i).toNat)
  case atStart => exact ⟨0, 0, rfl, rfl, Nat.zero_le _, Nat.le_refl _, rfl, by simp [Hid, ordB], Below.refl _ _⟩
  case round =>
    obtain ⟨k, n, rfl, rfl, hk, hnk, HN, HT, HB⟩ := hrel
    by_cases hlt : k < nl
    · have X1 := Lib.hid (show l[k]? = some (l[k]'(by have := HL.out; omega)) from List.getElem?_eq_getElem _)
      generalize l[k]'(by have := HL.out; omega) = x at *
      obtain ⟨b1, o1, ha, hc1⟩ := HC.out k x X1.out (by decide)
      subst ha
      have hd1 : ∀ c v, (encSym x)[c]? = some v → wr.cell? ⟨b1, o1 + k * 6 + c, none⟩ = some v := fun c v h => by
        have h6 : c < 6 := (List.getElem?_eq_some_iff.1 h).1
        have := (hc1 c h6).trans h
        rw [← Nat.add_assoc] at this
        exact (HB.out.cell (block_lt this)).trans this
      have c10 := hd1 0 _ rfl
      have c11 := hd1 1 _ rfl
      have c12 := hd1 2 _ rfl
      have c13 := hd1 3 _ rfl
      have c14 := hd1 4 _ rfl
      have c15 := hd1 5 _ rfl
      rw [Nat.add_zero] at c10
      clear hc1 hd1
      by_cases h0 : x.bind = 0
      · by_cases hn : n = k
        · have G1 := Lib.hid (locs_step0 X1.out h0)
          have G2 := Lib.hid (ordB_good X1.out HT.out (.inr (by rw [← HN.out]; exact hn)))
          have G3 : Hid (k + 1 = locs (l.take (k + 1))) := by rw [G1.out, ← HN.out, hn]; rfl
          have hz : (x.bind == 0) = true := by simp [h0]
          have H0 := Lib.hid h0
          clear h0 HN
          subst hn
          have hz2 : ((n : Int) + 1 != (n : Int) + 1) = false := by simp
          go_wp2_with (((with_reducible show wpList _ _ _ (⟨none, .store _ _ _, _, _, _, _⟩ :: _) _ _); go_must (refine wpList_storeNew rfl rfl (by kernel_rfl) rfl (by simp [Value.oneCell']) ?_; intro w1 hh1 hb1; have e1 := cell_rec hh1 1; simp only [List.getElem?_toArray, List.getElem?_cons_succ, List.getElem?_cons_zero] at e1)))
          have HB1 := Lib.hid (HB.out.trans (hb1.mono HB.out.size))
          clear hh1 hb1 e1
          go_roundw
          case rel =>
            first
              | exact ⟨n + 1, n + 1, by go_num, by go_num, by omega, by omega, G3.out, G2.out, HB1.out⟩
              | ((repeat apply Exists.intro); exact ⟨⟨n + 1, n + 1, by go_num, by go_num, by omega, by omega, G3.out, G2.out, HB1.out⟩, rfl⟩)
          case measure => simp [intOf] <;> omega
        · have HR := Lib.hid (ordR_bad (ordB_bad X1.out HT.out h0 (by rw [← HN.out]; exact hn)))
          have hz : (x.bind == 0) = true := by simp [h0]
          have hz2 : ((n : Int) + 1 != (k : Int) + 1) = true := by simp; omega
          have H0 := Lib.hid h0
          clear h0 HN
          go_wp2_with (((with_reducible show wpList _ _ _ (⟨none, .store _ _ _, _, _, _, _⟩ :: _) _ _); go_must (refine wpList_storeNew rfl rfl (by kernel_rfl) rfl (by simp [Value.oneCell']) ?_; intro w1 hh1 hb1; have e1 := cell_rec hh1 1; simp only [List.getElem?_toArray, List.getElem?_cons_succ, List.getElem?_cons_zero] at e1)))
          go_ret2
          exact ⟨by rw [HR.out]; rfl, HB.out.trans (hb1.mono HB.out.size)⟩
      · have G1 := Lib.hid (locs_step1 X1.out h0)
        have G2 := Lib.hid (ordB_good X1.out HT.out (.inl h0))
        have G3 : Hid (n = locs (l.take (k + 1))) := by rw [G1.out, ← HN.out]; rfl
        have hz : (x.bind == 0) = false := by simpa using h0
        have H0 := Lib.hid h0
        clear h0
        go_wp2_with (((with_reducible show wpList _ _ _ (⟨none, .store _ _ _, _, _, _, _⟩ :: _) _ _); go_must (refine wpList_storeNew rfl rfl (by kernel_rfl) rfl (by simp [Value.oneCell']) ?_; intro w1 hh1 hb1; have e1 := cell_rec hh1 1; simp only [List.getElem?_toArray, List.getElem?_cons_succ, List.getElem?_cons_zero] at e1)))
        have HB1 := Lib.hid (HB.out.trans (hb1.mono HB.out.size))
        clear hh1 hb1 e1
        go_roundw
        case rel =>
          first
            | exact ⟨k + 1, n, by go_num, rfl, by omega, by omega, G3.out, G2.out, HB1.out⟩
            | ((repeat apply Exists.intro); exact ⟨⟨k + 1, n, by go_num, rfl, by omega, by omega, G3.out, G2.out, HB1.out⟩, rfl⟩)
        case measure => simp [intOf] <;> omega
    · have hkn : l.length ≤ k := by have := HL.out; omega
      have HR : Hid (ordR l = (n, true)) := by
        have h1 := HT.out
        have h2 := HN.out
        rw [List.take_of_length_le hkn] at h1 h2
        rw [ordR_ok h1, h2]; rfl
      clear HT HN hkn
      go_wp2
      go_ret2
      exact ⟨by rw [HR.out]; rfl, HB.out⟩
end Go.Proofs.Ytnhbgijecdeahaa
namespace Go.Proofs.Ytnhbgijecdeahaa
open Go.RowKit Go.Fd
/-- What is known where a table was built. -/
theorem build_ok {names : List (List UInt8)} (h : (buildR names).2.2 = 0) : names.all mayS = true ∧ buildR names = ((buildT names).tab, (buildT names).out, 0) := by
  unfold buildR at h ⊢
  by_cases h1 : names.all mayS = true
  · rw [if_pos h1] at h ⊢
    by_cases h2 : 1048576 < (buildT names).tab.length
    · rw [if_pos h2] at h
      simp at h
    · rw [if_neg h2]
      exact ⟨h1, rfl⟩
  · rw [if_neg h1] at h
    simp at h
end Go.Proofs.Ytnhbgijecdeahaa
