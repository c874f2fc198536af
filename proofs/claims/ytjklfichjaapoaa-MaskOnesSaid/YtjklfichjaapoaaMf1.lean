/-
  Part 1 of 2: laws and walks for mask_four; no condition of its own.
-/
import Derived.WalkKit
import Derived.WalkSpells
import Derived.WalkLawsBesides
import Derived.Lib.Hide
import Derived.Laws.AppendOwnNone
import Derived.Test.YtjklfichjaapoaaProg
import Derived.BigQuiet
import Derived.Deep.QuietTactic
import Derived.Lib.AppendStr
import Derived.Orders
import Derived.Shelf.Small.Bits
import Derived.Shelf.Strconv.Itoa0
import Derived.Deep.WholeRow
import Derived.Deep.RegionWith
import Derived.StillTail
import Derived.Maps.RangeWalk
import Derived.Laws.Bits64b
import Derived.Sort.AssemblyPlain
import Derived.Sort.Row
import Derived.BigGuard
import Derived.BigCall
import Derived.CellFam
import Derived.Deep.Draws
import Derived.Laws.Bits64
import Derived.Sort.LotD4
import Derived.Sort.LotD5
import Derived.Lib.BytesEntry
import Derived.Lib.IndexAny
import Derived.Maps.OwnSet
import Derived.Maps.OwnOps
import Derived.Lib.ConvBytes
import Derived.ArgAppend
import Derived.Lib.IndexLaws
import Derived.Lib.IndexBytes
import Derived.Laws.BitsAllLaws
import Derived.Deep.RegionLaw
namespace Go.Fd
open Go.RowKit
/-- The slice value v has n elements of 'size' cells each, and its cells in w are xs. -/
def Reads (w : World) (size : Nat) (v : Value) (n : Nat) (xs : List Value) : Prop :=
  xs.length = n * size ∧ ∃ a cap, v = .slice a n cap ∧ n ≤ cap ∧ (a = none → cap = 0) ∧ ∀ j, j < xs.length → ∃ b off, a = some ⟨b, off, none⟩ ∧ w.cell? ⟨b, off + j, none⟩ = xs[j]?
/-- What is needed of a slice type. -/
structure SliceT (P : Program) (t e size bytes : Nat) : Prop where
  ht : P.underlying t = some (.slice e)
  pos : 0 < size
  info : ∃ i z, P.info? e = some i ∧ i.zero = some z ∧ i.size = size ∧ i.bytes = bytes ∧ z.cells.size = size
theorem SliceT.mk' {P : Program} {t e size bytes : Nat} {z : Value} (ht : P.underlying t = some (.slice e)) (hi : (P.info? e).map (fun i => (i.zero, i.size, i.bytes)) = some (some z, size, bytes))
    (hz : z.cells.size = size) (hp : 0 < size) : SliceT P t e size bytes := by
  obtain ⟨i, h1, h2, h3, h4⟩ := info_parts hi
  exact ⟨ht, hp, i, z, h1, h2, h3, h4, hz⟩
theorem block_lt {w : World} {b o : Nat} {v : Value} (h : w.cell? ⟨b, o, none⟩ = some v) : b < w.heap.size := World.block_lt_of_cell? w ⟨b, o, none⟩ h
theorem Reads.mono {w w' : World} {size n : Nat} {v : Value} {xs : List Value} (h : Reads w size v n xs) (hb : Below w.heap.size w w') : Reads w' size v n xs := by
  obtain ⟨h1, a, cap, h2, h3, h0, h4⟩ := h
  refine ⟨h1, a, cap, h2, h3, h0, fun j hj => ?_⟩
  obtain ⟨b, off, e1, e2⟩ := h4 j hj
  refine ⟨b, off, e1, ?_⟩
  rw [hb.cell (p := ⟨b, off + j, none⟩) (block_lt (e2.trans (List.getElem?_eq_getElem hj)))]
  exact e2
theorem Reads.shape {w : World} {size n : Nat} {v : Value} {xs : List Value} (h : Reads w size v n xs) : ∃ m a cap, Hid (m = n) ∧ v = .slice a m cap ∧ m ≤ cap ∧ (a = none → cap = 0) := by
  obtain ⟨h1, a, cap, h2, h3, h0, h4⟩ := h
  exact ⟨n, a, cap, rfl, h2, h3, h0⟩
theorem Reads.of_owns {w : World} {base e size n : Nat} {v : Value} {xs : List Value} (h : w.ownsRow base e size v n xs) : Reads w size v n xs := by
  refine ⟨h.1, ?_⟩
  rcases h.2 with ⟨rfl, rfl⟩ | ⟨g, cap, cur, rfl, hb, hg, hn, hc, hs, ht⟩
  · exact ⟨none, 0, rfl, Nat.le_refl _, fun _ => rfl, fun j hj => by rw [h.1] at hj; simp at hj⟩
  · refine ⟨_, cap, rfl, hn, (fun h => by cases h), fun j hj => ⟨g, 0, rfl, ?_⟩⟩
    have := h.cellAt (g := g) (cap := cap) j (by rw [← h.1]; exact hj)
    rw [Nat.zero_add]; exact this
theorem Reads.nil (w : World) (size : Nat) : Reads w size (.slice none 0 0) 0 [] := ⟨by simp, none, 0, rfl, Nat.le_refl _, fun _ => rfl, fun j hj => by simp at hj⟩
/-- What is owned stays owned where nothing that was there has turned. -/
theorem owns_mono {w w' : World} {base e size n : Nat} {v : Value} {xs : List Value} (h : w.ownsRow base e size v n xs) (hb : Below w.heap.size w w') : w'.ownsRow base e size v n xs := by
  refine ⟨h.1, ?_⟩
  rcases h.2 with h2 | ⟨g, cap, cur, hv, hg, hh, r⟩
  · exact .inl h2
  · exact .inr ⟨g, cap, cur, hv, hg, by rw [hb.block g (Array.getElem?_eq_some_iff.1 hh).1]; exact hh, r⟩
/-- An owned slice's growth leaves all below its base alone. -/
theorem owns_below {w w' : World} {base e size n : Nat} {v : Value} {xs : List Value} (h : w.ownsRow base e size v n xs) (hg : w.grownBy w' v.ownBlock) (hb : base ≤ w.heap.size) : Below base w w' :=
  (Below.refl base w).grown hg hb fun k hk => (h.lt k hk).1
theorem below_alloc (w : World) (o : Obj) : Below w.heap.size w (w.alloc o) := (Below.refl _ _).alloc (Nat.le_refl _) o
theorem grown_of_alloc {w w' : World} {o : Obj} {row : Option Nat} (hg : (w.alloc o).grownBy w' row) : w.grownBy w' row :=
  ⟨hg.os, hg.tape, hg.output, Nat.le_trans (by simp) hg.size, fun k hk hr => (hg.block k (by simp; omega) hr).trans (Below.heap_alloc w o k hk)⟩
theorem maxLen_of {n : Nat} (h : n ≤ 140737488355328) : n ≤ maxLen := by unfold maxLen; omega
section
variable {P : Program} {ops : Array Oper} {rest : List Oper} {Q : Exit → Act → World → Prop} {a : Act} {w : World}
theorem oneCell_list {xs : List Value} (h : xs.all (·.oneCell') = true) : ∀ u ∈ xs, u.oneCell' = true := by simpa using h
/-- 'v = append(v, x)': one element, out of the new block that holds it. -/
theorem wpList_push {t e size bytes : Nat} (T : SliceT P t e size bytes) {d : Option Tmp} {ty : TypeId} {pos : String} {aft : Array Edge} {s x : Operand} {v : Value} {n base : Nat} {xs : List Value} (hown : w.ownsRow base e size v n xs)
    (hs : a.eval s = v) (hx : a.eval x = .slice (some ⟨w.heap.size, 0, none⟩) 1 1) {cs : Array Value} (hcs : cs.size = size) (h1 : cs.toList.all (·.oneCell') = true)
    (hn : (n + 1) * bytes ≤ 140737488355328) (hm : n + 1 ≤ 140737488355328) (hb : base ≤ w.heap.size)
    (h : ∀ v' w', w'.ownsRow base e size v' (n + 1) (xs ++ cs.toList) → w.grownBy w' v.ownBlock → Below base w w' → wpList P ops Q rest (a.put d v') w') :
    wpList P ops Q (⟨d, .call { callee := .builtin .append, args := #[s, x], argTypes := #[t, t] }, ty, pos, aft, none⟩ :: rest) a (w.alloc (.cells cs e)) := by
  obtain ⟨i, z, h1', h2, h3, h4, h5⟩ := T.info
  refine wpList_append_own _ rfl s x t rfl base e i z size bytes T.ht h1' h2 h3 h4 h5 T.pos v n xs hs (hown.alloc _) ⟨w.heap.size, 0, none⟩ 1 1 cs.toList hx (by simp [hcs]) ?_ (oneCell_list h1) (maxLen_of hm) hn (by simp; omega) ?_
  · intro j u hj
    have e1 : (⟨w.heap.size, 0, none⟩ : Addr).add j = ⟨w.heap.size, j, none⟩ := by unfold Addr.add; split <;> simp_all
    rw [e1]
    simp only [World.cell?]
    rw [show (w.alloc (.cells cs e)).heap[w.heap.size]? = some (.cells cs e) from heap_alloc_new w _]
    simpa using hj
  · intro v' w' ho hg _
    exact h v' w' ho (grown_of_alloc hg) (owns_below hown (grown_of_alloc hg) hb)
theorem wpList_val {o : Oper} {v : Value} {w' : World} (hg : Region.wanted o (yielded ops a.tmps) = true) (hr : (execOp a.eval o).run P w = .ok (.value v) w') (h : wpList P ops Q rest (a.put o.dst v) w') :
    wpList P ops Q (o :: rest) a w := by
  unfold wpList
  rw [if_pos hg]
  refine .inl ?_
  unfold Oper.wp Oper.upon
  rw [hr]
  exact h
theorem wpList_did {o : Oper} {w' : World} (hg : Region.wanted o (yielded ops a.tmps) = true) (hr : (execOp a.eval o).run P w = .ok .skip w') (h : wpList P ops Q rest (a.put o.dst undef) w') :
    wpList P ops Q (o :: rest) a w := by
  unfold wpList
  rw [if_pos hg]
  refine .inl ?_
  unfold Oper.wp Oper.upon
  rw [hr]
  exact h
end
end Go.Fd
namespace Go.Proofs.Ytjklfichjaapoaa
open Go.RowKit Go.Fd
/-- A byte as the model holds it. -/
abbrev B (c : UInt8) : Value := .int .u8 (c.toNat : Int)
/-- A string as the model holds it. -/
abbrev S (l : List UInt8) : Value := .string ⟨l.toArray⟩
section
variable {ops : Array Oper} {rest : List Oper} {Q : Exit → Act → World → Prop} {a : Act} {w : World}
theorem allB (l : List UInt8) : (l.map B).all (·.oneCell') = true := by
  rw [List.all_eq_true]
  intro x hx
  obtain ⟨c, _, rfl⟩ := List.mem_map.1 hx
  rfl
end
end Go.Proofs.Ytjklfichjaapoaa
namespace Go.Fd
open Go.RowKit
/-- Of the blocks that were there those alone in S may have turned. -/
structure Stirs (S : Nat → Prop) (w w' : World) : Prop where
  os : w'.os = w.os
  tape : w'.tape = w.tape
  output : w'.output = w.output
  size : w.heap.size ≤ w'.heap.size
  block : ∀ k, k < w.heap.size → ¬ S k → w'.heap[k]? = w.heap[k]?
section
variable {S S' : Nat → Prop} {a w w' w'' : World}
theorem Stirs.refl (S : Nat → Prop) (w : World) : Stirs S w w := ⟨rfl, rfl, rfl, Nat.le_refl _, fun _ _ _ => rfl⟩
theorem Stirs.trans (h : Stirs S w w') (k : Stirs S' w' w'') (hs : ∀ i, i < w.heap.size → S' i → S i) : Stirs S w w'' :=
  ⟨k.os.trans h.os, k.tape.trans h.tape, k.output.trans h.output, Nat.le_trans h.size k.size, fun i hi hn => (k.block i (Nat.lt_of_lt_of_le hi h.size) fun e => hn (hs i hi e)).trans (h.block i hi hn)⟩
theorem Stirs.of_below (h : Below w.heap.size w w') : Stirs S w w' := ⟨h.os, h.tape, h.output, h.size, fun k hk _ => h.block k hk⟩
theorem Stirs.below (h : Stirs S w w') {B : Nat} (hB : B ≤ w.heap.size) (hs : ∀ k, S k → B ≤ k) : Below B w w' := ⟨h.os, h.tape, h.output, h.size, fun k hk => h.block k (by omega) fun e => by have := hs k e; omega⟩
theorem Stirs.thenBelow (h : Stirs S a w) (hb : Below w.heap.size w w') : Stirs S a w' := h.trans (Stirs.of_below (S := S) hb) fun _ _ h => h
theorem stirs_setCell (w : World) (b o : Nat) (v : Value) (hs : S b) : Stirs S w (w.setCell ⟨b, o, none⟩ v) :=
  ⟨rfl, rfl, rfl, by simp [World.setCell], fun k _ hn => Below.heap_setCell _ _ _ _ (fun e => hn (by subst e; exact hs))⟩
theorem Stirs.cell (h : Stirs S w w') {b o : Nat} {v : Value} (hc : w.cell? ⟨b, o, none⟩ = some v) (hn : ¬ S b) : w'.cell? ⟨b, o, none⟩ = some v := by
  rw [World.cell?_of_block (w := w) (h.block b (block_lt hc) hn)]; exact hc
theorem Stirs.kept (h : Stirs S w w') {b : Nat} {o : Obj} (hb : w.heap[b]? = some o) (hn : ¬ S b) : w'.heap[b]? = some o := (h.block b (Array.getElem?_eq_some_iff.1 hb).1 hn).trans hb
end
theorem ret2 {a b c d : Value} (h1 : a = c) (h2 : b = d) : Ending.returned (.tuple #[a, b]) = .returned (.tuple #[c, d]) := by rw [h1, h2]
theorem int_eq {k : IntKind} {a b : Int} (h : a = b) : Value.int k a = .int k b := by rw [h]
end Go.Fd
namespace Go.Fd
open Go.RowKit
/-- v reads as the list l. -/
def Rd {α : Type} (mk : α → Value) (w : World) (v : Value) (l : List α) : Prop := Reads w 1 v l.length (l.map mk)
/-- v owns the list l, in a block from 'base' on. -/
def Ow {α : Type} (mk : α → Value) (e : TypeId) (w : World) (base : Nat) (v : Value) (l : List α) : Prop := w.ownsRow base e 1 v l.length (l.map mk)
section
variable {α : Type} {mk : α → Value} {e : TypeId} {w w' : World} {base : Nat} {v : Value} {l : List α}
theorem Ow.rd (h : Ow mk e w base v l) : Rd mk w v l := Reads.of_owns h
theorem Ow.nil (mk : α → Value) (e : TypeId) (w : World) (base : Nat) : Ow mk e w base (.slice none 0 0) [] := World.ownsRow_nil _ _ _ _
theorem Rd.mono (h : Rd mk w v l) (hb : Below w.heap.size w w') : Rd mk w' v l := Reads.mono h hb
theorem Ow.mono (h : Ow mk e w base v l) (hb : Below w.heap.size w w') : Ow mk e w' base v l := owns_mono h hb
theorem Rd.open (d : α) (h : Rd mk w v l) : ∃ a cap, v = .slice a l.length cap ∧ l.length ≤ cap ∧ (a = none → cap = 0) ∧
    ∀ i, i < l.length → ∃ b off, a = some ⟨b, off, none⟩ ∧ w.cell? ⟨b, off + i, none⟩ = some (mk (l[i]?.getD d)) := by
  obtain ⟨h1, a, cap, h2, h3, h0, h4⟩ := h
  refine ⟨a, cap, h2, h3, h0, fun i hi => ?_⟩
  obtain ⟨b, off, e1, e2⟩ := h4 i (by simpa using hi)
  refine ⟨b, off, e1, e2.trans ?_⟩
  simp [List.getElem?_map, List.getElem?_eq_getElem hi]
theorem Rd.shape (h : Rd mk w v l) : ∃ m a cap, Hid (m = l.length) ∧ v = .slice a m cap ∧ m ≤ cap ∧ (a = none → cap = 0) := Reads.shape h
theorem Ow.shape (h : Ow mk e w base v l) : ∃ m a cap, Hid (m = l.length) ∧ v = .slice a m cap ∧ m ≤ cap ∧ (a = none → cap = 0) := h.rd.shape
theorem Ow.open (d : α) (h : Ow mk e w base v l) (hl : 0 < l.length) : ∃ g cap, v = .slice (some ⟨g, 0, none⟩) l.length cap ∧ base ≤ g ∧ g < w.heap.size ∧ l.length ≤ cap ∧
    (∀ i, i < l.length → w.cell? ⟨g, i, none⟩ = some (mk (l[i]?.getD d))) ∧ (∀ i, w.frozen? ⟨g, i, none⟩ = false) := by
  obtain ⟨h1, h2⟩ := id h
  rcases h2 with ⟨rfl, h0⟩ | ⟨g, cap, cur, rfl, hb, hg, hn, hc, hs, ht⟩
  · omega
  · refine ⟨g, cap, rfl, hb, (Array.getElem?_eq_some_iff.1 hg).1, hn, fun i hi => ?_, fun i => ?_⟩
    · rw [World.ownsRow.cellAt h i (by simpa using hi)]
      simp [List.getElem?_map, List.getElem?_eq_getElem hi]
    · exact World.ownsRow.frozenAt h i
end
section
variable {P : Program} {ops : Array Oper} {rest : List Oper} {Q : Exit → Act → World → Prop} {a : Act} {w : World} {α : Type} {mk : α → Value} {e : TypeId}
/-- 'v = append(v, x)'. -/
theorem wpList_pushE {t bytes : Nat} (T : SliceT P t e 1 bytes) {d : Option Tmp} {ty : TypeId} {pos : String} {aft : Array Edge} {s x : Operand} {v : Value} {base : Nat} {l : List α} (hown : Ow mk e w base v l)
    (hs : a.eval s = v) (hx : a.eval x = .slice (some ⟨w.heap.size, 0, none⟩) 1 1) {u : Value} (c : α) (hc : u = mk c) (h1 : (mk c).oneCell' = true) (hn : (l.length + 1) * bytes ≤ 140737488355328) (hb8 : 1 ≤ bytes) (hb : base ≤ w.heap.size)
    (h : ∀ v' w', Ow mk e w' base v' (l ++ [c]) → w.grownBy w' v.ownBlock → Below base w w' → wpList P ops Q rest (a.put d v') w') :
    wpList P ops Q (⟨d, .call { callee := .builtin .append, args := #[s, x], argTypes := #[t, t] }, ty, pos, aft, none⟩ :: rest) a (w.alloc (.cells #[u] e)) := by
  subst hc
  refine wpList_push T hown hs hx rfl (by simp [h1]) hn (by have := Nat.le_mul_of_pos_right (l.length + 1) hb8; omega) hb fun v' w' h1 h2 h3 => h v' w' ?_ h2 h3
  unfold Ow
  rw [List.length_append, List.map_append]
  exact h1
end
/-- Rows of unlike elements lie in unlike blocks. -/
theorem own_apart {w : World} {b1 b2 e1 e2 s1 s2 n1 n2 : Nat} {v1 v2 : Value} {xs1 xs2 : List Value} (h1 : w.ownsRow b1 e1 s1 v1 n1 xs1) (h2 : w.ownsRow b2 e2 s2 v2 n2 xs2) (hne : e1 ≠ e2) {k : Nat} (hk : v1.ownBlock = some k) : v2.ownBlock ≠ some k := by
  intro hk2
  rcases h1.2 with ⟨rfl, _⟩ | ⟨g1, c1, u1, rfl, _, hg1, _⟩
  · cases hk
  rcases h2.2 with ⟨rfl, _⟩ | ⟨g2, c2, u2, rfl, _, hg2, _⟩
  · cases hk2
  simp only [Value.ownBlock, Option.some.injEq] at hk hk2
  subst hk hk2
  rw [hg1] at hg2
  simp at hg2
  exact hne hg2.2
end Go.Fd
namespace Go.Proofs.Ytjklfichjaapoaa
open Go.RowKit Go.Fd
end Go.Proofs.Ytjklfichjaapoaa
namespace Go.Fd
open Go.RowKit
/-- v reads as the list l, k cells an element. -/
def RdR {α : Type} (k : Nat) (enc : α → List Value) (w : World) (v : Value) (l : List α) : Prop := Reads w k v l.length (l.flatMap enc)
/-- v owns the list l. -/
def OwR {α : Type} (k : Nat) (enc : α → List Value) (e : TypeId) (w : World) (base : Nat) (v : Value) (l : List α) : Prop := w.ownsRow base e k v l.length (l.flatMap enc)
theorem flat_len {α : Type} {k : Nat} {enc : α → List Value} (hk : ∀ x, (enc x).length = k) (l : List α) : (l.flatMap enc).length = l.length * k := by
  induction l with
  | nil => simp
  | cons x l ih => rw [List.flatMap_cons, List.length_append, ih, hk, List.length_cons, Nat.succ_mul]; omega
theorem flat_get {α : Type} {k : Nat} {enc : α → List Value} (hk : ∀ x, (enc x).length = k) : ∀ (l : List α) (i c : Nat) (x : α), l[i]? = some x → c < k → (l.flatMap enc)[i * k + c]? = (enc x)[c]? := by
  intro l
  induction l with
  | nil => intro i c x h; simp at h
  | cons y l ih =>
    intro i c x h hc
    rw [List.flatMap_cons]
    cases i with
    | zero =>
      simp at h
      subst h
      rw [Nat.zero_mul, Nat.zero_add, List.getElem?_append_left (by rw [hk]; exact hc)]
    | succ i =>
      have e : (i + 1) * k + c - (enc y).length = i * k + c := by rw [hk, Nat.succ_mul]; omega
      rw [List.getElem?_append_right (by rw [hk, Nat.succ_mul]; omega), e]
      exact ih i c x (by simpa using h) hc
section
variable {α : Type} {k : Nat} {enc : α → List Value} {e : TypeId} {w w' : World} {base : Nat} {v : Value} {l : List α}
theorem OwR.rd (h : OwR k enc e w base v l) : RdR k enc w v l := Reads.of_owns h
theorem OwR.nil (k : Nat) (enc : α → List Value) (e : TypeId) (w : World) (base : Nat) : OwR k enc e w base (.slice none 0 0) [] := World.ownsRow_nil _ _ _ _
theorem OwR.mono (h : OwR k enc e w base v l) (hb : Below w.heap.size w w') : OwR k enc e w' base v l := owns_mono h hb
/-- Opened: the cells of the record at a place. -/
theorem RdR.open (h : RdR k enc w v l) (hk : ∀ x, (enc x).length = k) : ∃ a cap, v = .slice a l.length cap ∧ l.length ≤ cap ∧ (a = none → cap = 0) ∧
    ∀ i x, l[i]? = some x → 0 < k → ∃ b off, a = some ⟨b, off, none⟩ ∧ ∀ c, c < k → w.cell? ⟨b, off + (i * k + c), none⟩ = (enc x)[c]? := by
  obtain ⟨h1, a, cap, h2, h3, h0, h4⟩ := h
  refine ⟨a, cap, h2, h3, h0, fun i x hi hk0 => ?_⟩
  have hlt := (List.getElem?_eq_some_iff.1 hi).1
  have hin : ∀ c, c < k → i * k + c < (l.flatMap enc).length := fun c hc => by
    rw [flat_len hk]
    have : (i + 1) * k ≤ l.length * k := Nat.mul_le_mul_right k hlt
    rw [Nat.succ_mul] at this
    omega
  obtain ⟨b, off, e1, -⟩ := h4 (i * k + 0) (hin 0 hk0)
  refine ⟨b, off, e1, fun c hc => ?_⟩
  obtain ⟨b', off', e2, e3⟩ := h4 (i * k + c) (hin c hc)
  rw [e1] at e2
  cases e2
  rw [e3]
  exact flat_get hk l i c x hi hc
end
section
variable {P : Program} {ops : Array Oper} {rest : List Oper} {Q : Exit → Act → World → Prop} {a : Act} {w : World} {α : Type} {k : Nat} {enc : α → List Value} {e : TypeId}
/-- 'v = append(v, x)', x a record. -/
theorem wpList_pushR {t bytes : Nat} (T : SliceT P t e k bytes) {d : Option Tmp} {ty : TypeId} {pos : String} {aft : Array Edge} {s x : Operand} {v : Value} {base : Nat} {l : List α} (hown : OwR k enc e w base v l)
    (hs : a.eval s = v) (hx : a.eval x = .slice (some ⟨w.heap.size, 0, none⟩) 1 1) {cs : Array Value} (c : α) (hc : cs.toList = enc c) (hk : cs.size = k) (h1 : cs.toList.all (·.oneCell') = true)
    (hn : (l.length + 1) * bytes ≤ 140737488355328) (hm : l.length + 1 ≤ 140737488355328) (hb : base ≤ w.heap.size)
    (h : ∀ v' w', OwR k enc e w' base v' (l ++ [c]) → w.grownBy w' v.ownBlock → Below base w w' → wpList P ops Q rest (a.put d v') w') :
    wpList P ops Q (⟨d, .call { callee := .builtin .append, args := #[s, x], argTypes := #[t, t] }, ty, pos, aft, none⟩ :: rest) a (w.alloc (.cells cs e)) := by
  refine wpList_push T hown hs hx hk h1 hn hm hb fun v' w' h1 h2 h3 => h v' w' ?_ h2 h3
  unfold OwR
  rw [List.length_append, List.flatMap_append, List.flatMap_singleton, ← hc]
  exact h1
end
end Go.Fd
namespace Go.Fd
open Go.RowKit
def putAll (vs : Nat → Value) : Nat → List Oper → Act → Act
  | _, [], a => a
  | k, o :: r, a => putAll vs (k + 1) r (a.put o.dst (vs k))
section
variable {P : Program} {l : List Oper} {V : Nat → Value → World → Prop} {a0 : Act} {w0 : World}
end
/-! ### One operation -/
section
variable {P : Program} {l : List Oper} {o : Oper} {a : Act} {w : World} {R : Value → World → Prop}
end
section
variable {P : Program} {l : List Oper} {a : Act} {w : World} {d : Option Tmp} {ty : TypeId} {pos : String} {aft : Array Edge} {g : Option (Nat × Bool)}
end
end Go.Fd
namespace Go.Proofs
open Go.Shelf
def Try.lays125_ren : Go.Shelf.Ren := ⟨fun | 125 => 25 | 128 => 27 | 129 => 28 | n => n, fun | 46 => 36 | 3 => 3 | 51 => 52 | 53 => 26 | 4 => 4 | 5 => 5 | 9 => 9 | n => n, fun | n => n⟩
theorem Try.lays125 : Go.Proofs.Lays.n125 Try.prog Try.lays125_ren := {
  mixed := by kernel_rfl
  f125 := Try.func25.trans (congrArg some (by kernel_rfl))
  f128 := Try.func27.trans (congrArg some (by kernel_rfl))
  f129 := Try.func28.trans (congrArg some (by kernel_rfl))
  t3 := Try.underlying3
  a3 := Try.isAgg3
  z3 := Try.sizeOf3
  v3 := Try.zeroValue3
  t4 := Try.underlying4
  a4 := Try.isAgg4
  z4 := Try.sizeOf4
  v4 := Try.zeroValue4
  t5 := Try.underlying5
  a5 := Try.isAgg5
  z5 := Try.sizeOf5
  v5 := Try.zeroValue5
  t9 := Try.underlying9
  a9 := Try.isAgg9
  z9 := Try.sizeOf9
  v9 := Try.zeroValue9
  t46 := Try.underlying36
  a46 := Try.isAgg36
  z46 := Try.sizeOf36
  v46 := Try.zeroValue36
  t51 := Try.underlying52
  a51 := Try.isAgg52
  z51 := Try.sizeOf52
  v51 := Try.zeroValue52
  t53 := Try.underlying26
  a53 := Try.isAgg26
  z53 := Try.sizeOf26
  v53 := Try.zeroValue26 }
/-- bits.Len: "Len returns the minimum number of bits required to represent x; the result is 0 for x == 0.": IT RETURNS 'Lib.bitLen x'; the world is as it was. (A uint has 64 bits in the model.) ITS CALLEE bits.Len64 IS MET BY ITS OWN CONTRACT OFF THE SHELF (lay that first). (LAID: no walk: one application.) -/
theorem Try.bits_Len (x : Int) (w : World) (h0 : 0 ≤ x) (h1 : x ≤ 18446744073709551615) :
    Calls Try.prog 25 #[.int .u64 x] w fun e w' => e = .returned (.int .i64 (Lib.bitLen x.toNat)) ∧ w' = w := Any.bits_Len Try.lays125 x w h0 h1
end Go.Proofs
namespace Go.Proofs.Ytjklfichjaapoaa
open Go.RowKit Go.Fd
theorem below_drewN {B : Nat} {a w : World} (h : Below B a w) (n : Nat) : Below B a (w.drewN n) := ⟨h.os, h.tape, h.output, h.size, h.block⟩
end Go.Proofs.Ytjklfichjaapoaa
namespace Go.Fd
open Go.RowKit
section
variable {P : Program} {ops : Array Oper} {rest : List Oper} {Q : Exit → Act → World → Prop} {a : Act} {w : World}
theorem cell_rec {w : World} {g : Nat} {cs : Array Value} {t : TypeId} {fr : Nat × Nat} (h : w.heap[g]? = some (.cells cs t fr)) (c : Nat) : w.cell? ⟨g, c, none⟩ = cs[c]? := cell_of_row w g c cs t fr h
end
end Go.Fd
namespace Go.Proofs.Ytjklfichjaapoaa
open Go.RowKit Go.Fd
end Go.Proofs.Ytjklfichjaapoaa
namespace Go.Fd
open Go.RowKit
section
variable {P : Program} {l : List Oper} {s : Oper} {V : Nat → Value → World → Prop} {a0 : Act} {w0 : World}
end
section
variable {P : Program} {a : Act} {w : World}
/-- The store of a record into the block that was made. -/
theorem wp_store_made {d : Option Tmp} {ty t : TypeId} {pos : String} {aft : Array Edge} {p x : Operand} {c c' : Array Value} {g : Nat} {K : Act → World → Prop} {Q : Exit → Act → World → Prop} {B : Nat} (hg : w.heap[g]? = some (.cells c t (0, 0))) (hp : a.eval p = .pointer (some ⟨g, 0, none⟩)) (hx : a.eval x = .agg c')
    (hi : (P.info? t).map (·.size) = some c'.size) (ho : c.size = c'.size) (h1 : c'.all (·.oneCell') = true) (hB : B ≤ g) (_hBw : B ≤ w.heap.size)
    (h : ∀ w1, w1.heap[g]? = some (.cells c' t (0, 0)) → Below B w w1 → K (a.put d undef) w1) :
    Oper.wp P ⟨d, .store t p x, ty, pos, aft, none⟩ a w K Q := by
  have hr : (execOp a.eval ⟨d, .store t p x, ty, pos, aft, none⟩).run P w = .ok .skip (w.setRow g c') := by
    simp only [execOp, hp, hx, Instr.storeAt, Instr.sureAddr, Sem.run_bind, Sem.run_pure, Result.andThen, run_storeVar_row w g t t c c' hg hi ho h1]
  unfold Oper.wp Oper.upon
  rw [hr]
  refine h _ ?_ ?_
  · simp only [World.setRow]
    rw [Array.getElem?_modify, if_pos rfl, hg]
    rfl
  · refine ⟨rfl, rfl, rfl, by simp [World.setRow], fun k hk => ?_⟩
    have : g ≠ k := by omega
    simp only [World.setRow]
    rw [Array.getElem?_modify, if_neg this]
end
end Go.Fd
namespace Go.Fd
open Go.RowKit
/-- What an operation that makes memory, or a call, comes to: a value of a shape, and what is known of it. -/
structure Yld where
  X : Type
  inh : X
  shape : X → Value
  rel : X → World → Prop
  st : ∀ x w w', rel x w → Below w.heap.size w w' → rel x w'
def fr (u : Nat → Value) (H : List Oper) (a0 : Act) (i : Nat) : Act := putAll u 0 (H.take i) a0
section
variable {P : Program} {Up : Exit → Prop} {L H : List Oper} {M : List (Nat × Yld)} {a0 : Act} {w0 : World} {E : Act → Prop}
end
end Go.Fd
namespace Go.Fd
open Go.RowKit
section
variable {P : Program} {Up : Exit → Prop} {L r : List Oper} {M : List (Nat × Yld)} {a : Act} {w0 : World} {E : Act → Prop} {i : Nat} {o : Oper}
end
section
variable {P : Program} {Up : Exit → Prop} {L r : List Oper} {M : List (Nat × Yld)} {a : Act} {w0 : World} {E : Act → Prop} {i : Nat} {o : Oper}
end
section
variable {P : Program} {ops : Array Oper} {rest : List Oper} {Q : Exit → Act → World → Prop} {a : Act} {w : World}
/-- The store of a record into a block that was made. -/
theorem wpList_storeMade {d : Option Tmp} {ty t : TypeId} {pos : String} {aft : Array Edge} {p x : Operand} {c c' : Array Value} {g B : Nat} (hg : w.heap[g]? = some (.cells c t (0, 0))) (hp : a.eval p = .pointer (some ⟨g, 0, none⟩)) (hx : a.eval x = .agg c')
    (hi : (P.info? t).map (·.size) = some c'.size) (ho : c.size = c'.size) (h1 : c'.all (·.oneCell') = true) (hB : B ≤ g) (hBw : B ≤ w.heap.size)
    (h : ∀ w1, w1.heap[g]? = some (.cells c' t (0, 0)) → Below B w w1 → wpList P ops Q rest (a.put d undef) w1) :
    wpList P ops Q (⟨d, .store t p x, ty, pos, aft, none⟩ :: rest) a w := by
  unfold wpList
  rw [if_pos (by simp [Region.wanted])]
  exact .inl (wp_store_made hg hp hx hi ho h1 hB hBw h)
end
end Go.Fd
namespace Go.Fd
open Go.RowKit
section
variable {P : Program} {ops : Array Oper} {rest : List Oper} {Q : Exit → Act → World → Prop} {a : Act} {w : World}
/-- A block that was there stays. -/
theorem heap_below {w w' : World} {b : Nat} {o : Obj} (h : Below w.heap.size w w') (hb : w.heap[b]? = some o) : w'.heap[b]? = some o := by
  rw [h.block b (Array.getElem?_eq_some_iff.1 hb).1]; exact hb
end
end Go.Fd
namespace Go.Proofs.Ytjklfichjaapoaa
open Go.RowKit Go.Fd
end Go.Proofs.Ytjklfichjaapoaa
namespace Go.Fd
open Go.RowKit Go.Sort
/-- Block g holds the numbers d ahead of what else is in c. -/
def UAt (t g : Nat) (c : Array Value) (w : World) (d : Array Int) : Prop := w.heap[g]? = some (.cells (putCells (Value.int .u64) 0 d c) t (0, 0)) ∧ d.size ≤ c.size
section
variable {t g : Nat} {c : Array Value} {w w' : World} {d : Array Int}
theorem UAt.cell (h : UAt t g c w d) {j : Nat} (hj : j < d.size) : w.cell? ⟨g, j, none⟩ = some (.int .u64 d[j]!) := by
  rw [cell_rec h.1 j]
  unfold putCells
  rw [Array.getElem?_mapIdx, Array.getElem?_eq_getElem (Nat.lt_of_lt_of_le hj h.2)]
  simp [hj]
theorem UAt.free (h : UAt t g c w d) (j : Nat) : w.frozen? ⟨g, j, none⟩ = false := by simp [World.frozen?, h.1]
theorem UAt.mono (h : UAt t g c w d) (hb : Below w.heap.size w w') : UAt t g c w' d := ⟨heap_below hb h.1, h.2⟩
theorem UAt.lt (h : UAt t g c w d) : g < w.heap.size := (Array.getElem?_eq_some_iff.1 h.1).1
theorem UAt.set (h : UAt t g c w d) {j : Nat} (hj : j < d.size) (x : Int) : UAt t g c (w.setCell ⟨g, j, none⟩ (.int .u64 x)) (d.setIfInBounds j x) := by
  refine ⟨?_, by simpa using h.2⟩
  have := putCells_set (Value.int .u64) 0 d c j x hj
  rw [Nat.zero_add] at this
  rw [← this]
  simp [World.setCell, Array.getElem?_modify, h.1]
theorem UAt.drewN (h : UAt t g c w d) (n : Nat) : UAt t g c (w.drewN n) d := by
  refine h.mono (below_drewN (Below.refl _ _) n)
/-- Two elements swapped. -/
theorem UAt.swap (h : UAt t g c w d) {i j : Nat} (hi : i < d.size) (hj : j < d.size) {x y : Int} (hx : x = d[j]!) (hy : y = d[i]!) : UAt t g c ((w.setCell ⟨g, i, none⟩ (.int .u64 x)).setCell ⟨g, j, none⟩ (.int .u64 y)) (swp d i j) := by
  subst hx hy
  exact (h.set hi _).set (by simpa using hj) _
theorem stirs_swap (w : World) (g i j : Nat) (x y : Value) : Stirs (fun k => k = g) w ((w.setCell ⟨g, i, none⟩ x).setCell ⟨g, j, none⟩ y) :=
  (stirs_setCell (S := fun k => k = g) w g i x rfl).trans (stirs_setCell (S := fun k => k = g) _ g j y rfl) fun _ _ h => h
theorem stirs_drewN (S : Nat → Prop) (w : World) (n : Nat) : Stirs S w (w.drewN n) := Stirs.of_below (below_drewN (Below.refl _ _) n)
end
/-- Behind w0 the block has turned, and nothing else: now it holds the n numbers d. -/
structure UB (t g : Nat) (c : Array Value) (w0 : World) (n : Nat) (w : World) (d : Array Int) : Prop where
  at_ : UAt t g c w d
  st : Stirs (fun k => k = g) w0 w
  sz : d.size = n
section
variable {t g n : Nat} {c : Array Value} {w0 w w' : World} {d d' : Array Int}
theorem UB.mk' (h : UAt t g c w d) (hn : d.size = n) : UB t g c w n w d := ⟨h, Stirs.refl _ _, hn⟩
theorem UB.cell (h : UB t g c w0 n w d) {j : Nat} (hj : j < n) {x : Int} (hx : x = d[j]!) : w.cell? ⟨g, j, none⟩ = some (.int .u64 x) := hx ▸ h.at_.cell (by rw [h.sz]; exact hj)
theorem UB.free (h : UB t g c w0 n w d) (j : Nat) : w.frozen? ⟨g, j, none⟩ = false := h.at_.free j
theorem UB.drewN (h : UB t g c w0 n w d) (q : Nat) : UB t g c w0 n (w.drewN q) d := ⟨h.at_.drewN q, h.st.trans (stirs_drewN _ _ q) fun _ _ h => h, h.sz⟩
theorem UB.drew (h : UB t g c w0 n w d) : UB t g c w0 n w.drew d := h.drewN 1
theorem UB.swap (h : UB t g c w0 n w d) {i j : Nat} (hi : i < n) (hj : j < n) {x y : Int} (hx : x = d[j]!) (hy : y = d[i]!) : UB t g c w0 n ((w.setCell ⟨g, i, none⟩ (.int .u64 x)).setCell ⟨g, j, none⟩ (.int .u64 y)) (swp d i j) :=
  ⟨h.at_.swap (by rw [h.sz]; exact hi) (by rw [h.sz]; exact hj) hx hy, h.st.trans (stirs_swap _ _ _ _ _ _) fun _ _ h => h, by rw [size_swp]; exact h.sz⟩
theorem UB.then (h : UB t g c w0 n w d) (k : UB t g c w n w' d') : UB t g c w0 n w' d' := ⟨k.at_, h.st.trans k.st fun _ _ h => h, k.sz⟩
end
end Go.Fd
namespace Go.Proofs.Ytjklfichjaapoaa
open Go.RowKit Go.Fd Go.Sort
theorem uNaN_any (x : Int) (w : World) : Calls Try.prog 43 #[.int .u64 x] w fun e w' => e = .returned (.bool false) ∧ w' = w := by
  go_enter Try.func43, Try.ntmps43
  go_wp2
  go_ret
  exact ⟨by simp, rfl⟩
theorem uLess_any (x y : Int) (w : World) : Calls Try.prog 35 #[.int .u64 x, .int .u64 y] w fun e w' => e = .returned (.bool (ltInt x y)) ∧ w' = w := by
  go_enter Try.func35, Try.ntmps35
  go_wp2_with (go_at_call 43; refine (uNaN_any _ _).mono ?_; rintro e w' ⟨rfl, rfl⟩)
  go_ret
  exact ⟨rfl, rfl⟩
end Go.Proofs.Ytjklfichjaapoaa
namespace Go.Fd
/-- The lowest n bits. -/
def onesM (n : Nat) : Nat := if 64 ≤ n then 18446744073709551615 else 2 ^ n - 1
/-- An element of e bits, turned to the right. -/
def turnM (x e r : Nat) : Nat := Nat.land (Nat.lor (x / 2 ^ r) (x * 2 ^ (e - r) % 18446744073709551616)) (onesM e)
/-- An element as often as it fits; so many rounds at most. -/
def sprM : Nat → Nat → Nat → Nat
  | 0, x, _ => x
  | f + 1, x, e => if e < 64 then sprM f (Nat.lor x (x * 2 ^ e % 18446744073709551616)) (e * 2) else x
/-- The least element that m repeats. -/
def perM : Nat → Nat → Nat → Nat
  | 0, _, e => e
  | f + 1, m, e => if e < 64 then (if sprM 6 (Nat.land m (onesM e)) e = m then e else perM f m (e * 2)) else e
/-- bits.OnesCount64. -/
def cntM (x : Nat) : Nat :=
  let a := Nat.land (x / 2) 6148914691236517205 + Nat.land x 6148914691236517205
  let a := Nat.land (a / 4) 3689348814741910323 + Nat.land a 3689348814741910323
  let a := Nat.land ((a / 16 + a) % 18446744073709551616) 1085102592571150095
  let a := (a + a / 256) % 18446744073709551616
  let a := (a + a / 65536) % 18446744073709551616
  let a := (a + a / 4294967296) % 18446744073709551616
  Nat.land a 127
def findM (c e x : Nat) : Nat → Nat → Option Nat
  | 0, _ => none
  | f + 1, r => if turnM (onesM c) e r = x then some r else findM c e x f (r + 1)
abbrev Fld := Nat × Nat × Nat × Bool
def noFld : Fld := (0, 0, 0, false)
def fldM (e c r : Nat) : Fld := if e = 64 then (1, r, c - 1, true) else (0, r, 64 - 2 * e + c - 1, true)
/-- mask.Of. -/
def ofM (m : Nat) : Fld :=
  if m = 0 ∨ m = 18446744073709551615 then noFld else
  match findM (cntM (Nat.land m (onesM (perM 6 m 2)))) (perM 6 m 2) (Nat.land m (onesM (perM 6 m 2))) (perM 6 m 2) 0 with
  | some r => fldM (perM 6 m 2) (cntM (Nat.land m (onesM (perM 6 m 2)))) r
  | none => noFld
/-- A mask: c ones in e bits, turned by r. -/
def maskM (e c r : Nat) : Nat := sprM 6 (turnM (onesM c) e r) e
/-- Element and count of fields. -/
def elemM (n imms : Nat) : Nat × Nat × Bool :=
  if n = 0 ∧ 62 ≤ imms then (0, 0, false) else
  let e := 2 ^ Nat.log2 (n * 64 + (63 - imms))
  (e, imms % e + 1, decide (2 ≤ e) && decide (imms % e + 1 < e))
/-- mask.At, of fields in range. -/
def atM (n immr imms : Nat) : Nat × Bool := if ((elemM n imms).2.2 && decide (immr < (elemM n imms).1)) = true then (maskM (elemM n imms).1 (elemM n imms).2.1 immr, true) else (0, false)
/-! ### The reference -/
def highM (e : Nat) : Nat := if e = 16 then 32 else if e = 8 then 48 else if e = 4 then 56 else if e = 2 then 60 else 0
def sizeM (n imms : Nat) : Nat := if n = 1 then 64 else if imms < 32 then 32 else if imms < 48 then 16 else if imms < 56 then 8 else if imms < 60 then 4 else if imms < 62 then 2 else 0
/-- element: so many of its bits are done. -/
def relM (e c r : Nat) : Nat → Nat
  | 0 => 0
  | i + 1 => if (i + r) % e < c then Nat.lor (relM e c r i) (2 ^ i) else relM e c r i
def ratM (n immr imms : Nat) : Nat × Bool :=
  if sizeM n imms = 0 ∨ sizeM n imms ≤ immr then (0, false) else
  if sizeM n imms ≤ imms - highM (sizeM n imms) + 1 then (0, false) else (relM (sizeM n imms) (imms - highM (sizeM n imms) + 1) immr 64, true)
def turn1M (x e : Nat) : Nat := Nat.land (Nat.lor (x * 2 % 18446744073709551616) (x / 2 ^ (e - 1))) (onesM e)
/-- Are k elements of e bits all x? -/
def againM (m e x : Nat) : Nat → Bool
  | 0 => true
  | k + 1 => againM m e x k && Nat.beq (Nat.land (m / 2 ^ (k * e)) (onesM e)) x
def lowM (x e : Nat) : Option Nat := if Nat.beq (x + 1) (2 ^ Nat.log2 (x + 1)) && Nat.ble 1 (Nat.log2 (x + 1)) && Nat.blt (Nat.log2 (x + 1)) e then some (Nat.log2 (x + 1)) else none
def rfindM (e : Nat) : Nat → Nat → Nat → Fld
  | 0, _, _ => noFld
  | f + 1, r, x => match lowM x e with
    | some c => (if e = 64 then 1 else 0, r, highM e + c - 1, true)
    | none => rfindM e f (r + 1) (turn1M x e)
def rofM : Nat → Nat → Nat → Fld
  | 0, _, _ => noFld
  | f + 1, e, m => if 64 < e then noFld else if againM m e (Nat.land m (onesM e)) (64 / e) = true then rfindM e e 0 (Nat.land m (onesM e)) else rofM f (e * 2) m
/-! ### What is gone over -/
def allB (n : Nat) (p : Nat → Bool) : Bool := Nat.rec true (fun k ih => p k && ih) n
theorem allB_spec {n : Nat} {p : Nat → Bool} (h : allB n p = true) : ∀ k, k < n → p k = true := by
  induction n with
  | zero => intro k hk; omega
  | succ n ih =>
    have h' : (p n && allB n p) = true := h
    rw [Bool.and_eq_true] at h'
    intro k hk
    by_cases e : k = n
    · rw [e]; exact h'.1
    · exact ih h'.2 k (by omega)
def chkE (e : Nat) (p : Nat → Nat → Bool) : Bool := allB (e - 1) fun c => allB e fun r => p (c + 1) r
theorem chkE_spec {e : Nat} {p : Nat → Nat → Bool} (h : chkE e p = true) {c r : Nat} (h1 : 1 ≤ c) (h2 : c < e) (hr : r < e) : p c r = true := by
  have := allB_spec (allB_spec h (c - 1) (by omega)) r hr
  rwa [show c - 1 + 1 = c by omega] at this
def Es : List Nat := [2, 4, 8, 16, 32, 64]
theorem es_all {p : Nat → Prop} (h2 : p 2) (h4 : p 4) (h8 : p 8) (h16 : p 16) (h32 : p 32) (h64 : p 64) : ∀ e ∈ Es, p e := by
  intro e he
  simp only [Es, List.mem_cons, List.not_mem_nil, or_false] at he
  rcases he with rfl | rfl | rfl | rfl | rfl | rfl <;> assumption
/-- The masks. -/
structure Par (e c r : Nat) : Prop where
  es : e ∈ Es
  c1 : 1 ≤ c
  c2 : c < e
  r : r < e
theorem par_all {p : Nat → Nat → Nat → Bool} (h2 : chkE 2 (p 2) = true) (h4 : chkE 4 (p 4) = true) (h8 : chkE 8 (p 8) = true) (h16 : chkE 16 (p 16) = true) (h32 : chkE 32 (p 32) = true) (h64 : chkE 64 (p 64) = true) {e c r : Nat} (h : Par e c r) : p e c r = true :=
  es_all (p := fun e => ∀ c r, 1 ≤ c → c < e → r < e → p e c r = true) (fun _ _ => chkE_spec h2) (fun _ _ => chkE_spec h4) (fun _ _ => chkE_spec h8) (fun _ _ => chkE_spec h16) (fun _ _ => chkE_spec h32) (fun _ _ => chkE_spec h64) e h.es c r h.c1 h.c2 h.r
def eqF (a b : Fld) : Bool := Nat.beq a.1 b.1 && Nat.beq a.2.1 b.2.1 && Nat.beq a.2.2.1 b.2.2.1 && (a.2.2.2 == b.2.2.2)
theorem eqF_spec {a b : Fld} (h : eqF a b = true) : a = b := by
  obtain ⟨a1, a2, a3, a4⟩ := a
  obtain ⟨b1, b2, b3, b4⟩ := b
  simp only [eqF, Bool.and_eq_true, Nat.beq_eq, beq_iff_eq] at h
  obtain ⟨⟨⟨rfl, rfl⟩, rfl⟩, rfl⟩ := h
  rfl
/-- A number turned to the left among 64 bits. -/
def rotM (m k : Nat) : Nat := Nat.lor (m * 2 ^ k % 18446744073709551616) (m / 2 ^ (64 - k))
/-- The law's own search for the element. -/
def perRM (m : Nat) : Nat → Nat → Nat
  | 0, _ => 64
  | f + 1, k => if k < 64 then (if rotM m k = m then k else perRM m f (k * 2)) else 64
def cntLM (m : Nat) : Nat → Nat
  | 0 => 0
  | i + 1 => cntLM m i + Nat.land (m / 2 ^ i) 1
end Go.Fd
namespace Go.Fd
def chk_of (e c r : Nat) : Bool := eqF (ofM (maskM e c r)) (fldM e c r)
theorem of_2 : chkE 2 (chk_of 2) = true := by kernel_rfl
theorem of_4 : chkE 4 (chk_of 4) = true := by kernel_rfl
theorem of_8 : chkE 8 (chk_of 8) = true := by kernel_rfl
theorem of_16 : chkE 16 (chk_of 16) = true := by kernel_rfl
theorem of_32 : chkE 32 (chk_of 32) = true := by kernel_rfl
theorem of_64 : chkE 64 (chk_of 64) = true := by kernel_rfl
theorem mask_of {e c r : Nat} (h : Par e c r) : chk_of e c r = true := par_all of_2 of_4 of_8 of_16 of_32 of_64 h
def chk_rel (e c r : Nat) : Bool := Nat.beq (relM e c r 64) (maskM e c r)
theorem rel_2 : chkE 2 (chk_rel 2) = true := by kernel_rfl
theorem rel_4 : chkE 4 (chk_rel 4) = true := by kernel_rfl
theorem rel_8 : chkE 8 (chk_rel 8) = true := by kernel_rfl
theorem rel_16 : chkE 16 (chk_rel 16) = true := by kernel_rfl
theorem rel_32 : chkE 32 (chk_rel 32) = true := by kernel_rfl
theorem rel_64 : chkE 64 (chk_rel 64) = true := by kernel_rfl
theorem mask_rel {e c r : Nat} (h : Par e c r) : chk_rel e c r = true := par_all rel_2 rel_4 rel_8 rel_16 rel_32 rel_64 h
def chk_turn (e c r : Nat) : Bool := Nat.beq (turn1M (turnM (onesM c) e (r + 1)) e) (turnM (onesM c) e r) || Nat.beq (r + 1) e
theorem turn_2 : chkE 2 (chk_turn 2) = true := by kernel_rfl
theorem turn_4 : chkE 4 (chk_turn 4) = true := by kernel_rfl
theorem turn_8 : chkE 8 (chk_turn 8) = true := by kernel_rfl
theorem turn_16 : chkE 16 (chk_turn 16) = true := by kernel_rfl
theorem turn_32 : chkE 32 (chk_turn 32) = true := by kernel_rfl
theorem turn_64 : chkE 64 (chk_turn 64) = true := by kernel_rfl
theorem mask_turn {e c r : Nat} (h : Par e c r) : chk_turn e c r = true := par_all turn_2 turn_4 turn_8 turn_16 turn_32 turn_64 h
def chk_zero (e c _r : Nat) : Bool := Nat.beq (turnM (onesM c) e 0) (onesM c)
theorem zero_2 : chkE 2 (chk_zero 2) = true := by kernel_rfl
theorem zero_4 : chkE 4 (chk_zero 4) = true := by kernel_rfl
theorem zero_8 : chkE 8 (chk_zero 8) = true := by kernel_rfl
theorem zero_16 : chkE 16 (chk_zero 16) = true := by kernel_rfl
theorem zero_32 : chkE 32 (chk_zero 32) = true := by kernel_rfl
theorem zero_64 : chkE 64 (chk_zero 64) = true := by kernel_rfl
theorem mask_zero {e c r : Nat} (h : Par e c r) : chk_zero e c r = true := par_all zero_2 zero_4 zero_8 zero_16 zero_32 zero_64 h
def chk_dbl (e c r : Nat) : Bool := Nat.beq (maskM e c r * 2 % 18446744073709551615) (maskM e c ((r + e - 1) % e))
theorem dbl_2 : chkE 2 (chk_dbl 2) = true := by kernel_rfl
theorem dbl_4 : chkE 4 (chk_dbl 4) = true := by kernel_rfl
theorem dbl_8 : chkE 8 (chk_dbl 8) = true := by kernel_rfl
theorem dbl_16 : chkE 16 (chk_dbl 16) = true := by kernel_rfl
theorem dbl_32 : chkE 32 (chk_dbl 32) = true := by kernel_rfl
theorem dbl_64 : chkE 64 (chk_dbl 64) = true := by kernel_rfl
theorem mask_dbl {e c r : Nat} (h : Par e c r) : chk_dbl e c r = true := par_all dbl_2 dbl_4 dbl_8 dbl_16 dbl_32 dbl_64 h
def chk_neg (e c r : Nat) : Bool := Nat.beq (18446744073709551615 - maskM e c r) (maskM e (e - c) ((r + e - c) % e))
theorem neg_2 : chkE 2 (chk_neg 2) = true := by kernel_rfl
theorem neg_4 : chkE 4 (chk_neg 4) = true := by kernel_rfl
theorem neg_8 : chkE 8 (chk_neg 8) = true := by kernel_rfl
theorem neg_16 : chkE 16 (chk_neg 16) = true := by kernel_rfl
theorem neg_32 : chkE 32 (chk_neg 32) = true := by kernel_rfl
theorem neg_64 : chkE 64 (chk_neg 64) = true := by kernel_rfl
theorem mask_neg {e c r : Nat} (h : Par e c r) : chk_neg e c r = true := par_all neg_2 neg_4 neg_8 neg_16 neg_32 neg_64 h
def chk_per (e c r : Nat) : Bool := Nat.beq (perRM (maskM e c r) 5 2) e
theorem per_2 : chkE 2 (chk_per 2) = true := by kernel_rfl
theorem per_4 : chkE 4 (chk_per 4) = true := by kernel_rfl
theorem per_8 : chkE 8 (chk_per 8) = true := by kernel_rfl
theorem per_16 : chkE 16 (chk_per 16) = true := by kernel_rfl
theorem per_32 : chkE 32 (chk_per 32) = true := by kernel_rfl
theorem per_64 : chkE 64 (chk_per 64) = true := by kernel_rfl
theorem mask_per {e c r : Nat} (h : Par e c r) : chk_per e c r = true := par_all per_2 per_4 per_8 per_16 per_32 per_64 h
def chk_cnt (e c r : Nat) : Bool := Nat.beq (cntLM (maskM e c r) 64) (c * (64 / e))
theorem cnt_2 : chkE 2 (chk_cnt 2) = true := by kernel_rfl
theorem cnt_4 : chkE 4 (chk_cnt 4) = true := by kernel_rfl
theorem cnt_8 : chkE 8 (chk_cnt 8) = true := by kernel_rfl
theorem cnt_16 : chkE 16 (chk_cnt 16) = true := by kernel_rfl
theorem cnt_32 : chkE 32 (chk_cnt 32) = true := by kernel_rfl
theorem cnt_64 : chkE 64 (chk_cnt 64) = true := by kernel_rfl
theorem mask_cnt {e c r : Nat} (h : Par e c r) : chk_cnt e c r = true := par_all cnt_2 cnt_4 cnt_8 cnt_16 cnt_32 cnt_64 h
def chk_lt (e c r : Nat) : Bool := Nat.blt (maskM e c r) 18446744073709551615 && Nat.blt 0 (maskM e c r)
theorem lt_2 : chkE 2 (chk_lt 2) = true := by kernel_rfl
theorem lt_4 : chkE 4 (chk_lt 4) = true := by kernel_rfl
theorem lt_8 : chkE 8 (chk_lt 8) = true := by kernel_rfl
theorem lt_16 : chkE 16 (chk_lt 16) = true := by kernel_rfl
theorem lt_32 : chkE 32 (chk_lt 32) = true := by kernel_rfl
theorem lt_64 : chkE 64 (chk_lt 64) = true := by kernel_rfl
theorem mask_lt {e c r : Nat} (h : Par e c r) : chk_lt e c r = true := par_all lt_2 lt_4 lt_8 lt_16 lt_32 lt_64 h
def chk_turnlt (e c r : Nat) : Bool := Nat.blt (turnM (onesM c) e r) (2 ^ e)
theorem turnlt_2 : chkE 2 (chk_turnlt 2) = true := by kernel_rfl
theorem turnlt_4 : chkE 4 (chk_turnlt 4) = true := by kernel_rfl
theorem turnlt_8 : chkE 8 (chk_turnlt 8) = true := by kernel_rfl
theorem turnlt_16 : chkE 16 (chk_turnlt 16) = true := by kernel_rfl
theorem turnlt_32 : chkE 32 (chk_turnlt 32) = true := by kernel_rfl
theorem turnlt_64 : chkE 64 (chk_turnlt 64) = true := by kernel_rfl
theorem mask_turnlt {e c r : Nat} (h : Par e c r) : chk_turnlt e c r = true := par_all turnlt_2 turnlt_4 turnlt_8 turnlt_16 turnlt_32 turnlt_64 h
end Go.Fd
namespace Go.Fd
def chk_rof (e c r : Nat) : Bool := eqF (rofM 6 2 (maskM e c r)) (fldM e c r)
def chkP (e lo n : Nat) (p : Nat → Nat → Bool) : Bool := allB n fun c => allB e fun r => p (lo + c) r
theorem chkP_spec {e lo n : Nat} {p : Nat → Nat → Bool} (h : chkP e lo n p = true) {c r : Nat} (h1 : lo ≤ c) (h2 : c < lo + n) (hr : r < e) : p c r = true := by
  have := allB_spec (allB_spec h (c - lo) (by omega)) r hr
  rwa [show lo + (c - lo) = c by omega] at this
theorem rof_2 : chkE 2 (chk_rof 2) = true := by kernel_rfl
theorem rof_4 : chkE 4 (chk_rof 4) = true := by kernel_rfl
theorem rof_8 : chkE 8 (chk_rof 8) = true := by kernel_rfl
theorem rof_16 : chkE 16 (chk_rof 16) = true := by kernel_rfl
theorem rof_32 : chkE 32 (chk_rof 32) = true := by kernel_rfl
theorem rof_64_0 : chkP 64 1 4 (chk_rof 64) = true := by kernel_rfl
theorem rof_64_1 : chkP 64 5 4 (chk_rof 64) = true := by kernel_rfl
theorem rof_64_2 : chkP 64 9 4 (chk_rof 64) = true := by kernel_rfl
theorem rof_64_3 : chkP 64 13 4 (chk_rof 64) = true := by kernel_rfl
theorem rof_64_4 : chkP 64 17 4 (chk_rof 64) = true := by kernel_rfl
theorem rof_64_5 : chkP 64 21 4 (chk_rof 64) = true := by kernel_rfl
theorem rof_64_6 : chkP 64 25 4 (chk_rof 64) = true := by kernel_rfl
theorem rof_64_7 : chkP 64 29 4 (chk_rof 64) = true := by kernel_rfl
theorem rof_64_8 : chkP 64 33 4 (chk_rof 64) = true := by kernel_rfl
theorem rof_64_9 : chkP 64 37 4 (chk_rof 64) = true := by kernel_rfl
theorem rof_64_10 : chkP 64 41 4 (chk_rof 64) = true := by kernel_rfl
theorem rof_64_11 : chkP 64 45 4 (chk_rof 64) = true := by kernel_rfl
theorem rof_64_12 : chkP 64 49 4 (chk_rof 64) = true := by kernel_rfl
theorem rof_64_13 : chkP 64 53 4 (chk_rof 64) = true := by kernel_rfl
theorem rof_64_14 : chkP 64 57 4 (chk_rof 64) = true := by kernel_rfl
theorem rof_64_15 : chkP 64 61 3 (chk_rof 64) = true := by kernel_rfl
theorem rof_64 {c r : Nat} (h1 : 1 ≤ c) (h2 : c < 64) (hr : r < 64) : chk_rof 64 c r = true := by
  have : c < 5 ∨ (5 ≤ c ∧ c < 9) ∨ (9 ≤ c ∧ c < 13) ∨ (13 ≤ c ∧ c < 17) ∨ (17 ≤ c ∧ c < 21) ∨ (21 ≤ c ∧ c < 25) ∨ (25 ≤ c ∧ c < 29) ∨ (29 ≤ c ∧ c < 33) ∨ (33 ≤ c ∧ c < 37) ∨ (37 ≤ c ∧ c < 41) ∨ (41 ≤ c ∧ c < 45) ∨ (45 ≤ c ∧ c < 49) ∨ (49 ≤ c ∧ c < 53) ∨ (53 ≤ c ∧ c < 57) ∨ (57 ≤ c ∧ c < 61) ∨ (61 ≤ c ∧ c < 64) := by omega
  rcases this with h | ⟨h, h'⟩ | ⟨h, h'⟩ | ⟨h, h'⟩ | ⟨h, h'⟩ | ⟨h, h'⟩ | ⟨h, h'⟩ | ⟨h, h'⟩ | ⟨h, h'⟩ | ⟨h, h'⟩ | ⟨h, h'⟩ | ⟨h, h'⟩ | ⟨h, h'⟩ | ⟨h, h'⟩ | ⟨h, h'⟩ | ⟨h, h'⟩
  · exact chkP_spec rof_64_0 (by omega) (by omega) hr
  · exact chkP_spec rof_64_1 (by omega) (by omega) hr
  · exact chkP_spec rof_64_2 (by omega) (by omega) hr
  · exact chkP_spec rof_64_3 (by omega) (by omega) hr
  · exact chkP_spec rof_64_4 (by omega) (by omega) hr
  · exact chkP_spec rof_64_5 (by omega) (by omega) hr
  · exact chkP_spec rof_64_6 (by omega) (by omega) hr
  · exact chkP_spec rof_64_7 (by omega) (by omega) hr
  · exact chkP_spec rof_64_8 (by omega) (by omega) hr
  · exact chkP_spec rof_64_9 (by omega) (by omega) hr
  · exact chkP_spec rof_64_10 (by omega) (by omega) hr
  · exact chkP_spec rof_64_11 (by omega) (by omega) hr
  · exact chkP_spec rof_64_12 (by omega) (by omega) hr
  · exact chkP_spec rof_64_13 (by omega) (by omega) hr
  · exact chkP_spec rof_64_14 (by omega) (by omega) hr
  · exact chkP_spec rof_64_15 (by omega) (by omega) hr
theorem mask_rof {e c r : Nat} (h : Par e c r) : rofM 6 2 (maskM e c r) = fldM e c r :=
  eqF_spec (es_all (p := fun e => ∀ c r, 1 ≤ c → c < e → r < e → chk_rof e c r = true) (fun _ _ => chkE_spec rof_2) (fun _ _ => chkE_spec rof_4) (fun _ _ => chkE_spec rof_8) (fun _ _ => chkE_spec rof_16) (fun _ _ => chkE_spec rof_32) (fun _ _ => rof_64) e h.es c r h.c1 h.c2 h.r)
end Go.Fd
namespace Go.Fd
/-- m is a mask. -/
def InS (m : Nat) : Prop := ∃ e c r, Par e c r ∧ m = maskM e c r
theorem of_mask {e c r : Nat} (h : Par e c r) : ofM (maskM e c r) = fldM e c r := eqF_spec (mask_of h)
theorem mask_bounds {e c r : Nat} (h : Par e c r) : 0 < maskM e c r ∧ maskM e c r < 18446744073709551615 := by
  have := mask_lt h
  simp only [chk_lt, Bool.and_eq_true, Nat.blt_eq] at this
  exact ⟨this.2, this.1⟩
theorem fld_ok (e c r : Nat) : (fldM e c r).2.2.2 = true := by unfold fldM; split <;> rfl
theorem per_cases (m : Nat) : perM 6 m 2 ∈ Es ∧ (perM 6 m 2 < 64 → sprM 6 (Nat.land m (onesM (perM 6 m 2))) (perM 6 m 2) = m) := by
  have key : perM 6 m 2 = if sprM 6 (Nat.land m (onesM 2)) 2 = m then 2 else if sprM 6 (Nat.land m (onesM 4)) 4 = m then 4 else if sprM 6 (Nat.land m (onesM 8)) 8 = m then 8 else if sprM 6 (Nat.land m (onesM 16)) 16 = m then 16 else if sprM 6 (Nat.land m (onesM 32)) 32 = m then 32 else 64 := rfl
  by_cases h2 : sprM 6 (Nat.land m (onesM 2)) 2 = m
  · rw [if_pos h2] at key
    rw [key]
    exact ⟨by decide, fun _ => h2⟩
  rw [if_neg h2] at key
  by_cases h4 : sprM 6 (Nat.land m (onesM 4)) 4 = m
  · rw [if_pos h4] at key
    rw [key]
    exact ⟨by decide, fun _ => h4⟩
  rw [if_neg h4] at key
  by_cases h8 : sprM 6 (Nat.land m (onesM 8)) 8 = m
  · rw [if_pos h8] at key
    rw [key]
    exact ⟨by decide, fun _ => h8⟩
  rw [if_neg h8] at key
  by_cases h16 : sprM 6 (Nat.land m (onesM 16)) 16 = m
  · rw [if_pos h16] at key
    rw [key]
    exact ⟨by decide, fun _ => h16⟩
  rw [if_neg h16] at key
  by_cases h32 : sprM 6 (Nat.land m (onesM 32)) 32 = m
  · rw [if_pos h32] at key
    rw [key]
    exact ⟨by decide, fun _ => h32⟩
  rw [if_neg h32] at key
  rw [key]
  exact ⟨by decide, fun h => absurd h (by decide)⟩
theorem find_some {c e x : Nat} : ∀ {f r0 r : Nat}, findM c e x f r0 = some r → r0 ≤ r ∧ r < r0 + f ∧ turnM (onesM c) e r = x
  | 0, _, _, h => by cases h
  | f + 1, r0, r, h => by
    rw [findM] at h
    split at h
    · cases h
      exact ⟨Nat.le_refl _, by omega, by assumption⟩
    · obtain ⟨a, b, d⟩ := find_some h
      exact ⟨by omega, by omega, d⟩
theorem zero_ones : (allB 65 fun e => allB 64 fun r => Nat.beq (maskM e 0 r) 0) = true := by kernel_rfl
def chk_full (e : Nat) : Bool := allB (128 - e) fun c => allB e fun r => Nat.beq (maskM e (e + c) r) 18446744073709551615
theorem full_all : ∀ e ∈ Es, chk_full e = true := es_all (by kernel_rfl) (by kernel_rfl) (by kernel_rfl) (by kernel_rfl) (by kernel_rfl) (by kernel_rfl)
theorem es_le {e : Nat} (h : e ∈ Es) : 2 ≤ e ∧ e ≤ 64 := es_all (p := fun e => 2 ≤ e ∧ e ≤ 64) (by decide) (by decide) (by decide) (by decide) (by decide) (by decide) e h
theorem cnt_le (x : Nat) : cntM x ≤ 127 := by
  unfold cntM
  simp only []
  exact Nat.and_le_right
theorem land_full {m : Nat} (h : m < 18446744073709551616) : Nat.land m (onesM 64) = m := by
  have : Nat.land m (2 ^ 64 - 1) = m % 2 ^ 64 := Nat.and_two_pow_sub_one_eq_mod m 64
  rw [show onesM 64 = 2 ^ 64 - 1 from rfl, this]
  exact Nat.mod_eq_of_lt h
theorem of_sound {m : Nat} (h : m < 18446744073709551616) (hok : (ofM m).2.2.2 = true) : InS m := by
  unfold ofM at hok
  split at hok
  · cases hok
  rename_i h0
  split at hok
  · rename_i r hr
    obtain ⟨-, hlt, ht⟩ := find_some hr
    obtain ⟨he, hp⟩ := per_cases m
    generalize perM 6 m 2 = e at *
    have hm : m = maskM e (cntM (Nat.land m (onesM e))) r := by
      unfold maskM
      rw [ht]
      by_cases h64 : e < 64
      · exact (hp h64).symm
      · obtain rfl : e = 64 := by have := (es_le he).2; omega
        rw [land_full h]
        rfl
    refine ⟨e, cntM (Nat.land m (onesM e)), r, ⟨he, ?_, ?_, by omega⟩, hm⟩
    · rcases Nat.eq_zero_or_pos (cntM (Nat.land m (onesM e))) with hz | hz
      · rw [hz] at hm
        have := allB_spec (allB_spec zero_ones e (by have := (es_le he).2; omega)) r (by have := (es_le he).2; omega)
        rw [Nat.beq_eq] at this
        exact absurd (.inl (hm.trans this)) h0
      · exact hz
    · rcases Nat.lt_or_ge (cntM (Nat.land m (onesM e))) e with hz | hz
      · exact hz
      · have h1 := cnt_le (Nat.land m (onesM e))
        obtain ⟨c, hc⟩ : ∃ c, cntM (Nat.land m (onesM e)) = e + c := ⟨_, (Nat.add_sub_cancel' hz).symm⟩
        rw [hc] at hm h1
        have := allB_spec (allB_spec (full_all e he) c (by have := (es_le he).2; omega)) r (by omega)
        rw [Nat.beq_eq] at this
        exact absurd (.inr (hm.trans this)) h0
  · cases hok
theorem of_no {m : Nat} (h : (ofM m).2.2.2 = false) : ofM m = noFld := by
  unfold ofM at h ⊢
  split
  · rfl
  · rename_i h0
    rw [if_neg h0] at h
    split
    · rename_i r hr
      simp only [hr] at h
      rw [fld_ok] at h
      cases h
    · rfl
theorem of_ok {m : Nat} (h : m < 18446744073709551616) : (ofM m).2.2.2 = true ↔ InS m := by
  refine ⟨of_sound h, ?_⟩
  rintro ⟨e, c, r, hp, rfl⟩
  rw [of_mask hp]
  exact fld_ok _ _ _
/-! ### The reference's Of -/
theorem low_some {x e c : Nat} (h : lowM x e = some c) : 1 ≤ c ∧ c < e ∧ x = 2 ^ c - 1 := by
  unfold lowM at h
  split at h
  · rename_i hc
    cases h
    simp only [Bool.and_eq_true, Nat.beq_eq, Nat.ble_eq, Nat.blt_eq] at hc
    exact ⟨hc.1.2, hc.2, by omega⟩
  · cases h
def iterM (e : Nat) : Nat → Nat → Nat
  | 0, x => x
  | j + 1, x => iterM e j (turn1M x e)
theorem rfind_cases (e : Nat) : ∀ (f r x : Nat), rfindM e f r x = noFld ∨ ∃ j c, j < f ∧ lowM (iterM e j x) e = some c ∧ (rfindM e f r x).2.2.2 = true
  | 0, _, _ => .inl rfl
  | f + 1, r, x => by
    rw [rfindM]
    cases hl : lowM x e with
    | some c => exact .inr ⟨0, c, by omega, hl, rfl⟩
    | none =>
      rcases rfind_cases e f (r + 1) (turn1M x e) with h | ⟨j, c, h1, h2, h3⟩
      · exact .inl h
      · exact .inr ⟨j + 1, c, by omega, h2, h3⟩
theorem lor_add {a b : Nat} (h : b < 2) : Nat.lor (2 * a) b = 2 * a + b := (Nat.two_pow_add_eq_or_of_lt (i := 1) (by simpa using h) a).symm
theorem land_ones (x e : Nat) (h : e ≤ 64) : Nat.land x (onesM e) = x % 2 ^ e := by
  have : Nat.land x (2 ^ e - 1) = x % 2 ^ e := Nat.and_two_pow_sub_one_eq_mod x e
  rw [← this]
  unfold onesM
  split
  · obtain rfl : e = 64 := by omega
    rfl
  · rfl
theorem turn1_eq {x e : Nat} (h1 : 1 ≤ e) (h : e ≤ 64) (hx : x < 2 ^ e) : turn1M x e = (2 * (x % 9223372036854775808) + x / 2 ^ (e - 1)) % 2 ^ e := by
  unfold turn1M
  rw [land_ones _ _ h, show x * 2 % 18446744073709551616 = 2 * (x % 9223372036854775808) by omega, lor_add]
  rw [Nat.div_lt_iff_lt_mul (Nat.two_pow_pos _), show 2 * 2 ^ (e - 1) = 2 ^ e by rw [Nat.mul_comm, ← Nat.pow_succ]; congr 1; omega]
  exact hx
theorem turn1_lt {x e : Nat} (h : e ≤ 64) : turn1M x e < 2 ^ e := by
  unfold turn1M
  rw [land_ones _ _ h]
  exact Nat.mod_lt _ (Nat.two_pow_pos _)
theorem turn1_val {e : Nat} (he : e ∈ Es) : ∀ x, x < 2 ^ e → turn1M x e = if x < 2 ^ (e - 1) then 2 * x else 2 * (x - 2 ^ (e - 1)) + 1 := by
  refine es_all (p := fun e => ∀ x, x < 2 ^ e → turn1M x e = if x < 2 ^ (e - 1) then 2 * x else 2 * (x - 2 ^ (e - 1)) + 1) ?_ ?_ ?_ ?_ ?_ ?_ e he <;>
    (intro x hx
     rw [turn1_eq (by decide) (by decide) hx]
     simp only [Nat.reducePow, Nat.reduceSub] at hx ⊢
     split
     · rw [Nat.div_eq_of_lt (by assumption)]
       omega
     · have h1 : x / _ = 1 := Nat.div_eq_of_lt_le (k := 1) (by rw [Nat.one_mul]; exact Nat.le_of_not_lt (by assumption)) (by omega)
       rw [h1]
       omega)
theorem turn1_inj {e : Nat} (he : e ∈ Es) : ∀ x y, x < 2 ^ e → y < 2 ^ e → turn1M x e = turn1M y e → x = y := by
  intro x y hx hy h
  rw [turn1_val he x hx, turn1_val he y hy] at h
  split at h <;> split at h <;> omega
theorem iter_inj {e : Nat} (he : e ∈ Es) : ∀ j x y, x < 2 ^ e → y < 2 ^ e → iterM e j x = iterM e j y → x = y
  | 0, _, _, _, _, h => h
  | j + 1, x, y, hx, hy, h => turn1_inj he x y hx hy (iter_inj he j _ _ (turn1_lt (es_le he).2) (turn1_lt (es_le he).2) h)
theorem iter_ones {e c : Nat} (he : e ∈ Es) (h1 : 1 ≤ c) (h2 : c < e) : ∀ j, j < e → iterM e j (turnM (onesM c) e j) = onesM c
  | 0, h => by
    have := mask_zero (r := 0) ⟨he, h1, h2, h⟩
    show turnM (onesM c) e 0 = onesM c
    simpa [chk_zero] using this
  | j + 1, h => by
    have := mask_turn (r := j) ⟨he, h1, h2, by omega⟩
    simp only [chk_turn, Bool.or_eq_true, Nat.beq_eq] at this
    rcases this with h3 | h3
    · rw [iterM, h3]
      exact iter_ones he h1 h2 j (by omega)
    · omega
/-- As many elements of B as k, each x. -/
def geoM (B : Nat) : Nat → Nat
  | 0 => 0
  | k + 1 => 1 + B * geoM B k
theorem geo_eq {B x : Nat} (hB : 0 < B) : ∀ (k m : Nat), m < B ^ k → (∀ j, j < k → m / B ^ j % B = x) → m = x * geoM B k
  | 0, m, h, _ => by simp at h; simp [geoM, h]
  | k + 1, m, h, hj => by
    have h0 := hj 0 (by omega)
    rw [Nat.pow_zero, Nat.div_one] at h0
    have h1 := geo_eq hB k (m / B) (by rw [Nat.div_lt_iff_lt_mul hB, ← Nat.pow_succ]; exact h) fun j hjk => by
      have := hj (j + 1) (by omega)
      rwa [Nat.pow_succ, Nat.mul_comm, ← Nat.div_div_eq_div_mul] at this
    have h2 := Nat.div_add_mod m B
    rw [h0, h1] at h2
    rw [← h2, geoM, Nat.mul_add, Nat.mul_one, Nat.mul_left_comm, Nat.add_comm]
theorem spr_step {f x e : Nat} (hx : x < 2 ^ e) (h : e < 64) (h2 : e * 2 ≤ 64) : sprM (f + 1) x e = sprM f (x * (1 + 2 ^ e)) (e * 2) ∧ x * (1 + 2 ^ e) < 2 ^ (e * 2) := by
  have hs : x * (1 + 2 ^ e) = 2 ^ e * x + x := by rw [Nat.mul_add, Nat.mul_one, Nat.mul_comm x, Nat.add_comm]
  have hlt : 2 ^ e * x + x < 2 ^ (e * 2) := by
    have h1 : 2 ^ e * (x + 1) ≤ 2 ^ e * 2 ^ e := Nat.mul_le_mul_left _ hx
    rw [show e * 2 = e + e by omega, Nat.pow_add]
    rw [Nat.mul_add, Nat.mul_one] at h1
    omega
  refine ⟨?_, by rw [hs]; exact hlt⟩
  have hle : 2 ^ (e * 2) ≤ 2 ^ 64 := Nat.pow_le_pow_right (by decide) h2
  rw [sprM, if_pos h, Nat.mod_eq_of_lt (by rw [Nat.mul_comm]; omega), hs, Nat.two_pow_add_eq_or_of_lt hx x]
  congr 1
  rw [Nat.mul_comm x]
  exact Nat.or_comm _ _
theorem spr_end (f x : Nat) : sprM f x 64 = x := by cases f <;> rfl
theorem spr_geo {e : Nat} (he : e ∈ Es) : ∀ x, x < 2 ^ e → sprM 6 x e = x * geoM (2 ^ e) (64 / e) := by
  refine es_all (p := fun e => ∀ x, x < 2 ^ e → sprM 6 x e = x * geoM (2 ^ e) (64 / e)) ?_ ?_ ?_ ?_ ?_ ?_ e he <;> intro x hx
  · obtain ⟨a1, b1⟩ := spr_step (f := 5) hx (by decide) (by decide)
    obtain ⟨a2, b2⟩ := spr_step (f := 4) b1 (by decide) (by decide)
    obtain ⟨a3, b3⟩ := spr_step (f := 3) b2 (by decide) (by decide)
    obtain ⟨a4, b4⟩ := spr_step (f := 2) b3 (by decide) (by decide)
    obtain ⟨a5, b5⟩ := spr_step (f := 1) b4 (by decide) (by decide)
    rw [a1, a2, a3, a4, a5, show 2 * 2 * 2 * 2 * 2 * 2 = 64 from rfl, spr_end, show geoM (2 ^ 2) (64 / 2) = (1 + 2 ^ 2) * (1 + 2 ^ (2 * 2)) * (1 + 2 ^ (2 * 2 * 2)) * (1 + 2 ^ (2 * 2 * 2 * 2)) * (1 + 2 ^ (2 * 2 * 2 * 2 * 2)) by kernel_rfl]
    simp only [Nat.mul_assoc]
  · obtain ⟨a1, b1⟩ := spr_step (f := 5) hx (by decide) (by decide)
    obtain ⟨a2, b2⟩ := spr_step (f := 4) b1 (by decide) (by decide)
    obtain ⟨a3, b3⟩ := spr_step (f := 3) b2 (by decide) (by decide)
    obtain ⟨a4, b4⟩ := spr_step (f := 2) b3 (by decide) (by decide)
    rw [a1, a2, a3, a4, show 4 * 2 * 2 * 2 * 2 = 64 from rfl, spr_end, show geoM (2 ^ 4) (64 / 4) = (1 + 2 ^ 4) * (1 + 2 ^ (4 * 2)) * (1 + 2 ^ (4 * 2 * 2)) * (1 + 2 ^ (4 * 2 * 2 * 2)) by kernel_rfl]
    simp only [Nat.mul_assoc]
  · obtain ⟨a1, b1⟩ := spr_step (f := 5) hx (by decide) (by decide)
    obtain ⟨a2, b2⟩ := spr_step (f := 4) b1 (by decide) (by decide)
    obtain ⟨a3, b3⟩ := spr_step (f := 3) b2 (by decide) (by decide)
    rw [a1, a2, a3, show 8 * 2 * 2 * 2 = 64 from rfl, spr_end, show geoM (2 ^ 8) (64 / 8) = (1 + 2 ^ 8) * (1 + 2 ^ (8 * 2)) * (1 + 2 ^ (8 * 2 * 2)) by kernel_rfl]
    simp only [Nat.mul_assoc]
  · obtain ⟨a1, b1⟩ := spr_step (f := 5) hx (by decide) (by decide)
    obtain ⟨a2, b2⟩ := spr_step (f := 4) b1 (by decide) (by decide)
    rw [a1, a2, show 16 * 2 * 2 = 64 from rfl, spr_end, show geoM (2 ^ 16) (64 / 16) = (1 + 2 ^ 16) * (1 + 2 ^ (16 * 2)) by kernel_rfl]
    simp only [Nat.mul_assoc]
  · obtain ⟨a1, b1⟩ := spr_step (f := 5) hx (by decide) (by decide)
    rw [a1, show 32 * 2 = 64 from rfl, spr_end, show geoM (2 ^ 32) (64 / 32) = 1 + 2 ^ 32 by kernel_rfl]
  · rw [spr_end, show geoM (2 ^ 64) (64 / 64) = 1 by kernel_rfl, Nat.mul_one]
theorem again_get {m e x : Nat} : ∀ {k : Nat}, againM m e x k = true → ∀ j, j < k → Nat.land (m / 2 ^ (j * e)) (onesM e) = x
  | 0, _, _, h => by omega
  | k + 1, h, j, hj => by
    rw [againM, Bool.and_eq_true, Nat.beq_eq] at h
    by_cases e : j = k
    · rw [e]; exact h.2
    · exact again_get h.1 j (by omega)
theorem again_spr {m e : Nat} (he : e ∈ Es) (hm : m < 18446744073709551616) (h : againM m e (Nat.land m (onesM e)) (64 / e) = true) : sprM 6 (Nat.land m (onesM e)) e = m := by
  have hle := (es_le he).2
  have hx : Nat.land m (onesM e) < 2 ^ e := by rw [land_ones _ _ hle]; exact Nat.mod_lt _ (Nat.two_pow_pos _)
  rw [spr_geo he _ hx]
  refine (geo_eq (Nat.two_pow_pos e) (64 / e) m ?_ fun j hj => ?_).symm
  · rw [← Nat.pow_mul, es_all (p := fun e => e * (64 / e) = 64) (by decide) (by decide) (by decide) (by decide) (by decide) (by decide) e he]
    exact hm
  · rw [← again_get h j hj, land_ones _ _ hle, ← Nat.pow_mul, Nat.mul_comm e j]
theorem again_one {m : Nat} (_h : m < 18446744073709551616) : againM m 64 (Nat.land m (onesM 64)) (64 / 64) = true := by
  show (true && Nat.beq (Nat.land (m / 2 ^ (0 * 64)) (onesM 64)) (Nat.land m (onesM 64))) = true
  rw [Nat.zero_mul, Nat.pow_zero, Nat.div_one]
  simp
theorem rof_cases {m : Nat} (h : m < 18446744073709551616) : ∃ e ∈ Es, againM m e (Nat.land m (onesM e)) (64 / e) = true ∧ rofM 6 2 m = rfindM e e 0 (Nat.land m (onesM e)) := by
  have key : rofM 6 2 m = if againM m 2 (Nat.land m (onesM 2)) (64 / 2) = true then rfindM 2 2 0 (Nat.land m (onesM 2)) else if againM m 4 (Nat.land m (onesM 4)) (64 / 4) = true then rfindM 4 4 0 (Nat.land m (onesM 4)) else if againM m 8 (Nat.land m (onesM 8)) (64 / 8) = true then rfindM 8 8 0 (Nat.land m (onesM 8))
    else if againM m 16 (Nat.land m (onesM 16)) (64 / 16) = true then rfindM 16 16 0 (Nat.land m (onesM 16)) else if againM m 32 (Nat.land m (onesM 32)) (64 / 32) = true then rfindM 32 32 0 (Nat.land m (onesM 32)) else if againM m 64 (Nat.land m (onesM 64)) (64 / 64) = true then rfindM 64 64 0 (Nat.land m (onesM 64)) else noFld := rfl
  rw [key]
  by_cases h2 : againM m 2 (Nat.land m (onesM 2)) (64 / 2) = true
  · exact ⟨2, by decide, h2, by rw [if_pos h2]⟩
  rw [if_neg h2]
  by_cases h4 : againM m 4 (Nat.land m (onesM 4)) (64 / 4) = true
  · exact ⟨4, by decide, h4, by rw [if_pos h4]⟩
  rw [if_neg h4]
  by_cases h8 : againM m 8 (Nat.land m (onesM 8)) (64 / 8) = true
  · exact ⟨8, by decide, h8, by rw [if_pos h8]⟩
  rw [if_neg h8]
  by_cases h16 : againM m 16 (Nat.land m (onesM 16)) (64 / 16) = true
  · exact ⟨16, by decide, h16, by rw [if_pos h16]⟩
  rw [if_neg h16]
  by_cases h32 : againM m 32 (Nat.land m (onesM 32)) (64 / 32) = true
  · exact ⟨32, by decide, h32, by rw [if_pos h32]⟩
  rw [if_neg h32]
  exact ⟨64, by decide, again_one h, by rw [if_pos (again_one h)]⟩
theorem rof_sound {m : Nat} (h : m < 18446744073709551616) : rofM 6 2 m = noFld ∨ InS m := by
  obtain ⟨e, he, ha, hr⟩ := rof_cases h
  rcases rfind_cases e e 0 (Nat.land m (onesM e)) with h1 | ⟨j, c, hj, hl, -⟩
  · exact .inl (hr.trans h1)
  · refine .inr ?_
    obtain ⟨c1, c2, hx⟩ := low_some hl
    have hle := (es_le he).2
    have ho : onesM c = 2 ^ c - 1 := by unfold onesM; rw [if_neg (by omega)]
    rw [← ho, ← iter_ones he c1 c2 j hj] at hx
    have hlt : turnM (onesM c) e j < 2 ^ e := by
      have := mask_turnlt (r := j) ⟨he, c1, c2, hj⟩
      simpa [chk_turnlt] using this
    have hxl : Nat.land m (onesM e) < 2 ^ e := by rw [land_ones _ _ hle]; exact Nat.mod_lt _ (Nat.two_pow_pos _)
    have hxx := iter_inj he j _ _ hxl hlt hx
    refine ⟨e, c, j, ⟨he, c1, c2, hj⟩, ?_⟩
    unfold maskM
    rw [← hxx]
    exact (again_spr he h ha).symm
/-- The program's Of is the reference's. -/
theorem of_rof {m : Nat} (h : m < 18446744073709551616) : ofM m = rofM 6 2 m := by
  cases ho : (ofM m).2.2.2 with
  | true =>
    obtain ⟨e, c, r, hp, rfl⟩ := of_sound h ho
    rw [of_mask hp, mask_rof hp]
  | false =>
    rw [of_no ho]
    rcases rof_sound h with h1 | h1
    · exact h1.symm
    · rw [(of_ok h).2 h1] at ho
      cases ho
/-! ### At -/
def chk_elem (n imms : Nat) : Bool :=
  let x := elemM n imms
  (!x.2.2 || ((Nat.beq x.1 2 || Nat.beq x.1 4 || Nat.beq x.1 8 || Nat.beq x.1 16 || Nat.beq x.1 32 || Nat.beq x.1 64) && Nat.ble 1 x.2.1 && Nat.blt x.2.1 x.1 && eqF (fldM x.1 x.2.1 7) (n, 7, imms, true) && Nat.beq (sizeM n imms) x.1 && Nat.beq (imms - highM x.1 + 1) x.2.1)) &&
  (x.2.2 || (Nat.beq (sizeM n imms) 0 || Nat.ble (sizeM n imms) (imms - highM (sizeM n imms) + 1)))
theorem elem_all : (allB 2 fun n => allB 64 fun imms => chk_elem n imms) = true := by kernel_rfl
theorem elem_yes {n imms : Nat} (hn : n < 2) (hi : imms < 64) (h : (elemM n imms).2.2 = true) : (elemM n imms).1 ∈ Es ∧ 1 ≤ (elemM n imms).2.1 ∧ (elemM n imms).2.1 < (elemM n imms).1 ∧ (∀ r, fldM (elemM n imms).1 (elemM n imms).2.1 r = (n, r, imms, true)) ∧ sizeM n imms = (elemM n imms).1 ∧ imms - highM (elemM n imms).1 + 1 = (elemM n imms).2.1 := by
  have := allB_spec (allB_spec elem_all n hn) imms hi
  unfold chk_elem at this
  simp only [h, Bool.not_true, Bool.false_or, Bool.true_or, Bool.and_true, Bool.and_eq_true, Bool.or_eq_true, Nat.beq_eq, Nat.ble_eq, Nat.blt_eq] at this
  obtain ⟨⟨⟨⟨⟨h1, h2⟩, h3⟩, h4⟩, h5⟩, h6⟩ := this
  refine ⟨?_, h2, h3, fun r => ?_, h5, h6⟩
  · simp only [Es, List.mem_cons, List.not_mem_nil, or_false]
    omega
  · have h4 := eqF_spec h4
    unfold fldM at h4 ⊢
    split
    · rename_i e64
      rw [if_pos e64] at h4
      simp only [Prod.mk.injEq, true_and, and_true] at h4 ⊢
      exact h4
    · rename_i e64
      rw [if_neg e64] at h4
      simp only [Prod.mk.injEq, true_and, and_true] at h4 ⊢
      exact h4
theorem elem_no {n imms : Nat} (hn : n < 2) (hi : imms < 64) (h : (elemM n imms).2.2 = false) : sizeM n imms = 0 ∨ sizeM n imms ≤ imms - highM (sizeM n imms) + 1 := by
  have := allB_spec (allB_spec elem_all n hn) imms hi
  unfold chk_elem at this
  simp only [h, Bool.not_false, Bool.true_or, Bool.false_or, Bool.true_and, Bool.or_eq_true, Nat.beq_eq, Nat.ble_eq] at this
  exact this
/-- What At tells of fields in range. -/
theorem at_cases {n immr imms : Nat} (hn : n < 2) (hi : imms < 64) : (∃ e c, Par e c immr ∧ atM n immr imms = (maskM e c immr, true) ∧ fldM e c immr = (n, immr, imms, true)) ∨ atM n immr imms = (0, false) := by
  unfold atM
  cases h : (elemM n imms).2.2 with
  | false => exact .inr (by rw [if_neg (by simp)])
  | true =>
    obtain ⟨h1, h2, h3, h4, -, -⟩ := elem_yes hn hi h
    by_cases hr : immr < (elemM n imms).1
    · exact .inl ⟨_, _, ⟨h1, h2, h3, hr⟩, by rw [if_pos (by simp [hr])], h4 immr⟩
    · exact .inr (by rw [if_neg (by simp [hr])])
theorem rat_at {n immr imms : Nat} (hn : n < 2) (hi : imms < 64) : ratM n immr imms = atM n immr imms := by
  unfold atM ratM
  cases h : (elemM n imms).2.2 with
  | false =>
    rw [if_neg (show ¬ (false && decide (immr < (elemM n imms).1)) = true by simp)]
    rcases elem_no hn hi h with h1 | h1
    · rw [if_pos (.inl h1)]
    · split
      · rfl
      · rfl
  | true =>
    obtain ⟨h1, h2, h3, h4, h5, h6⟩ := elem_yes hn hi h
    rw [h5, h6]
    have hz : ¬ (elemM n imms).1 = 0 := by have := (es_le h1).1; omega
    by_cases hr : immr < (elemM n imms).1
    · rw [if_pos (show (true && decide (immr < (elemM n imms).1)) = true by simp [hr]), if_neg (by omega), if_neg (by omega)]
      have := mask_rel ⟨h1, h2, h3, hr⟩
      simp only [chk_rel, Nat.beq_eq] at this
      rw [this]
    · rw [if_neg (show ¬ (true && decide (immr < (elemM n imms).1)) = true by simp [hr]), if_pos (by omega)]
def chk_back (e c : Nat) : Bool :=
  let f := fldM e c 0
  Nat.blt f.1 2 && Nat.blt f.2.2.1 64 && (elemM f.1 f.2.2.1).2.2 && Nat.beq (elemM f.1 f.2.2.1).1 e && Nat.beq (elemM f.1 f.2.2.1).2.1 c
theorem back_all : ∀ e ∈ Es, (allB (e - 1) fun c => chk_back e (c + 1)) = true := es_all (by kernel_rfl) (by kernel_rfl) (by kernel_rfl) (by kernel_rfl) (by kernel_rfl) (by kernel_rfl)
/-- At of a mask's fields is the mask. -/
theorem at_fld {e c r : Nat} (h : Par e c r) : (fldM e c r).1 < 2 ∧ (fldM e c r).2.1 = r ∧ (fldM e c r).2.2.1 < 64 ∧ atM (fldM e c r).1 r (fldM e c r).2.2.1 = (maskM e c r, true) := by
  have hk := allB_spec (back_all e h.es) (c - 1) (by have := h.c1; have := h.c2; omega)
  rw [show c - 1 + 1 = c by have := h.c1; omega] at hk
  have e1 : (fldM e c r).1 = (fldM e c 0).1 := by unfold fldM; split <;> rfl
  have e2 : (fldM e c r).2.2.1 = (fldM e c 0).2.2.1 := by unfold fldM; split <;> rfl
  have e3 : (fldM e c r).2.1 = r := by unfold fldM; split <;> rfl
  simp only [chk_back, Bool.and_eq_true, Nat.blt_eq, Nat.beq_eq] at hk
  obtain ⟨⟨⟨⟨h1, h2⟩, h3⟩, h4⟩, h5⟩ := hk
  rw [e1, e2, e3]
  refine ⟨h1, rfl, h2, ?_⟩
  unfold atM
  rw [h3, h4, h5, if_pos (by simp [h.r])]
end Go.Fd
namespace Go.Fd
theorem ins_dbl {m : Nat} (h : InS m) : InS (m * 2 % 18446744073709551615) := by
  obtain ⟨e, c, r, hp, rfl⟩ := h
  have := mask_dbl hp
  simp only [chk_dbl, Nat.beq_eq] at this
  exact ⟨e, c, _, ⟨hp.es, hp.c1, hp.c2, Nat.mod_lt _ (by have := hp.c2; omega)⟩, this⟩
theorem ins_pow {m : Nat} (h : InS m) : ∀ k, InS (m * 2 ^ k % 18446744073709551615)
  | 0 => by
    obtain ⟨e, c, r, hp, rfl⟩ := h
    rw [Nat.pow_zero, Nat.mul_one, Nat.mod_eq_of_lt (mask_bounds hp).2]
    exact ⟨e, c, r, hp, rfl⟩
  | k + 1 => by
    have := ins_dbl (ins_pow h k)
    rwa [Nat.mod_mul_mod, Nat.mul_assoc, ← Nat.pow_succ] at this
theorem ins_neg {m : Nat} (h : InS m) : InS (18446744073709551615 - m) := by
  obtain ⟨e, c, r, hp, rfl⟩ := h
  have := mask_neg hp
  simp only [chk_neg, Nat.beq_eq] at this
  rw [this]
  have h1 := hp.c1
  have h2 := hp.c2
  exact ⟨e, e - c, _, ⟨hp.es, by omega, by omega, Nat.mod_lt _ (by omega)⟩, rfl⟩
theorem rot_eq {m k : Nat} (h : m < 18446744073709551615) (hk : k ≤ 64) : rotM m k = m * 2 ^ k % 18446744073709551615 := by
  obtain ⟨K, hK⟩ : ∃ K, K = 2 ^ k := ⟨_, rfl⟩
  obtain ⟨L, hL⟩ : ∃ L, L = 2 ^ (64 - k) := ⟨_, rfl⟩
  have hKL : L * K = 18446744073709551616 := by rw [hK, hL, ← Nat.pow_add, show 64 - k + k = 64 by omega]
  have hL0 : 0 < L := by rw [hL]; exact Nat.two_pow_pos _
  obtain ⟨b, hb⟩ : ∃ b, b = m / L := ⟨_, rfl⟩
  obtain ⟨l, hl⟩ : ∃ l, l = m % L := ⟨_, rfl⟩
  have hm : L * b + l = m := by rw [hb, hl]; exact Nat.div_add_mod m L
  have hll : l < L := by rw [hl]; exact Nat.mod_lt _ hL0
  have hbK : b < K := by rw [hb]; refine (Nat.div_lt_iff_lt_mul hL0).2 ?_; rw [Nat.mul_comm, hKL]; omega
  have e1 : m * K = 18446744073709551616 * b + K * l := by rw [← hm, Nat.add_mul, Nat.mul_right_comm, hKL, Nat.mul_comm l]
  have hKl : K * l + K ≤ 18446744073709551616 := by
    have := Nat.mul_le_mul_left K (show l + 1 ≤ L from hll)
    rw [Nat.mul_comm K L, hKL, Nat.mul_add, Nat.mul_one] at this
    exact this
  have hsum : K * l + b < 18446744073709551615 := by
    obtain ⟨t, ht⟩ : ∃ t, L = l + 1 + t := ⟨L - (l + 1), by omega⟩
    rcases Nat.eq_zero_or_pos t with h0 | h0
    · by_cases hbb : b = K - 1
      · exfalso
        have : L * b + l + 1 = L * K := by
          have h2 : L * (b + 1) = L * K := by rw [hbb]; congr 1; omega
          rw [Nat.mul_add, Nat.mul_one] at h2
          omega
        rw [hKL] at this
        omega
      · omega
    · have h1 : K * L = K * l + K + K * t := by rw [ht, Nat.mul_add, Nat.mul_add, Nat.mul_one]
      have h2 : 1 ≤ K * t := Nat.mul_pos (by omega) h0
      rw [Nat.mul_comm, hKL] at h1
      omega
  unfold rotM
  rw [← hK, ← hL, ← hb, e1, Nat.mul_add_mod]
  rw [Nat.mod_eq_of_lt (show K * l < 18446744073709551616 by omega), hK]
  have h3 := (Nat.two_pow_add_eq_or_of_lt (i := k) (by rw [← hK]; exact hbK) l).symm
  have h4 : Nat.lor (2 ^ k * l) b = 2 ^ k * l + b := h3
  rw [h4, ← hK]
  omega
theorem rot_full (k : Nat) (hk : k ≤ 64) : rotM 18446744073709551615 k = 18446744073709551615 := by
  have : (allB 65 fun k => Nat.beq (rotM 18446744073709551615 k) 18446744073709551615) = true := by kernel_rfl
  have := allB_spec this k (by omega)
  simpa using this
theorem rot_lt {m k : Nat} (h : m < 18446744073709551616) (hk : k ≤ 64) : rotM m k < 18446744073709551616 := by
  rcases Nat.lt_or_ge m 18446744073709551615 with h1 | h1
  · rw [rot_eq h1 hk]
    exact Nat.lt_of_lt_of_le (Nat.mod_lt _ (by decide)) (by decide)
  · obtain rfl : m = 18446744073709551615 := by omega
    rw [rot_full k hk]
    decide
/-- A number turned about is a mask just if it is. -/
theorem ok_rot {m k : Nat} (h : m < 18446744073709551616) (hk : k ≤ 64) : (ofM (rotM m k)).2.2.2 = (ofM m).2.2.2 := by
  rcases Nat.lt_or_ge m 18446744073709551615 with h1 | h1
  · have hl := rot_lt h hk
    rw [Bool.eq_iff_iff, of_ok hl, of_ok h, rot_eq h1 hk]
    refine ⟨fun hi => ?_, fun hi => ins_pow hi k⟩
    have := ins_pow hi (64 - k)
    rw [Nat.mod_mul_mod, Nat.mul_assoc, ← Nat.pow_add, show k + (64 - k) = 64 by omega] at this
    rw [show m * 2 ^ 64 % 18446744073709551615 = m by simp only [Nat.reducePow]; omega] at this
    exact this
  · obtain rfl : m = 18446744073709551615 := by omega
    rw [rot_full k hk]
theorem ok_neg {m : Nat} (h : m < 18446744073709551616) : (ofM (18446744073709551615 - m)).2.2.2 = (ofM m).2.2.2 := by
  rw [Bool.eq_iff_iff, of_ok (by omega), of_ok h]
  refine ⟨fun hi => ?_, ins_neg⟩
  have := ins_neg hi
  rwa [show 18446744073709551615 - (18446744073709551615 - m) = m by omega] at this
/-- A mask's element, as the law looks for it; its ones. -/
theorem per_mask {e c r : Nat} (h : Par e c r) : perRM (maskM e c r) 5 2 = e := by simpa [chk_per] using mask_per h
theorem cnt_mask {e c r : Nat} (h : Par e c r) : cntLM (maskM e c r) 64 = c * (64 / e) := by simpa [chk_cnt] using mask_cnt h
def chk_imms (e c : Nat) : Bool := Nat.beq ((fldM e c 0).2.2.1 % e + 1) c
theorem imms_all : ∀ e ∈ Es, (allB (e - 1) fun c => chk_imms e (c + 1)) = true := es_all (by kernel_rfl) (by kernel_rfl) (by kernel_rfl) (by kernel_rfl) (by kernel_rfl) (by kernel_rfl)
theorem imms_mask {e c r n imms : Nat} (h : Par e c r) (hf : fldM e c r = (n, r, imms, true)) : imms % e + 1 = c ∧ (n = 1 ↔ e = 64) := by
  have hk := allB_spec (imms_all e h.es) (c - 1) (by have := h.c1; have := h.c2; omega)
  rw [show c - 1 + 1 = c by have := h.c1; omega] at hk
  simp only [chk_imms, Nat.beq_eq] at hk
  have e2 : (fldM e c r).2.2.1 = (fldM e c 0).2.2.1 := by unfold fldM; split <;> rfl
  rw [← e2, hf] at hk
  refine ⟨hk, ?_⟩
  unfold fldM at hf
  split at hf
  · rename_i h64
    simp only [Prod.mk.injEq] at hf
    exact ⟨fun _ => h64, fun _ => hf.1.symm⟩
  · rename_i h64
    simp only [Prod.mk.injEq] at hf
    exact ⟨fun h => by omega, fun h => absurd h h64⟩
/-! ### All of them -/
def gAt (i : Nat) : Option Nat := if (atM (i / 4096) (i % 64) (i / 64 % 64)).2 then some (atM (i / 4096) (i % 64) (i / 64 % 64)).1 else none
def allL (k : Nat) : List Nat := (List.range k).filterMap gAt
theorem allL_succ (k : Nat) : allL (k + 1) = if (atM (k / 4096) (k % 64) (k / 64 % 64)).2 then allL k ++ [(atM (k / 4096) (k % 64) (k / 64 % 64)).1] else allL k := by
  unfold allL
  rw [List.range_succ, List.filterMap_append]
  by_cases h : (atM (k / 4096) (k % 64) (k / 64 % 64)).2 = true
  · rw [if_pos h, List.filterMap_cons_some (b := (atM (k / 4096) (k % 64) (k / 64 % 64)).1) (by unfold gAt; rw [if_pos h])]
    rfl
  · rw [if_neg h, List.filterMap_cons_none (by unfold gAt; rw [if_neg h])]
    simp
theorem len_le (k : Nat) : (allL k).length ≤ k := by
  unfold allL
  exact Nat.le_trans (List.length_filterMap_le _ _) (by simp)
def cntA : Nat → Nat := Nat.rec 0 fun i ih => ih + (if (atM (i / 4096) (i % 64) (i / 64 % 64)).2 then 1 else 0)
theorem len_cnt (k : Nat) : (allL k).length = cntA k := by
  induction k with
  | zero => rfl
  | succ k ih =>
    rw [allL_succ]
    show _ = cntA k + (if (atM (k / 4096) (k % 64) (k / 64 % 64)).2 then 1 else 0)
    split <;> simp [ih]
theorem len_all : (allL 8192).length = 5334 := by
  rw [len_cnt]
  kernel_rfl
theorem gAt_ins {i m : Nat} (hi : i < 8192) (h : gAt i = some m) : ∃ e c, Par e c (i % 64) ∧ m = maskM e c (i % 64) ∧ ofM m = (i / 4096, i % 64, i / 64 % 64, true) := by
  unfold gAt at h
  rcases at_cases (n := i / 4096) (immr := i % 64) (imms := i / 64 % 64) (by omega) (by omega) with ⟨e, c, hp, ha, hf⟩ | ha
  · rw [ha] at h
    simp only [if_true] at h
    cases h
    exact ⟨e, c, hp, rfl, by rw [of_mask hp, hf]⟩
  · rw [ha] at h
    cases h
theorem ins_all {e c r : Nat} (h : Par e c r) : maskM e c r ∈ allL 8192 := by
  obtain ⟨h1, -, h2, h3⟩ := at_fld h
  have hr := h.r
  have h64 := (es_le h.es).2
  refine List.mem_filterMap.2 ⟨(fldM e c r).1 * 4096 + (fldM e c r).2.2.1 * 64 + r, by simp; omega, ?_⟩
  unfold gAt
  rw [show ((fldM e c r).1 * 4096 + (fldM e c r).2.2.1 * 64 + r) / 4096 = (fldM e c r).1 by omega, show ((fldM e c r).1 * 4096 + (fldM e c r).2.2.1 * 64 + r) % 64 = r by omega, show ((fldM e c r).1 * 4096 + (fldM e c r).2.2.1 * 64 + r) / 64 % 64 = (fldM e c r).2.2.1 by omega, h3]
  rfl
theorem all_nodup : (allL 8192).Nodup := by
  unfold allL
  rw [List.nodup_iff_pairwise_ne, List.pairwise_filterMap]
  refine List.Pairwise.imp_of_mem ?_ (List.nodup_iff_pairwise_ne.1 List.nodup_range)
  intro i j hi hj hij m hm m' hm' e
  subst e
  obtain ⟨_, _, _, _, h1⟩ := gAt_ins (by simpa using hi) hm
  obtain ⟨_, _, _, _, h2⟩ := gAt_ins (by simpa using hj) hm'
  rw [h1] at h2
  simp only [Prod.mk.injEq] at h2
  omega
end Go.Fd
namespace Go.Fd
theorem ones_lt (n : Nat) : onesM n < 18446744073709551616 := by
  unfold onesM
  split
  · decide
  · have : 2 ^ n ≤ 2 ^ 63 := Nat.pow_le_pow_right (by decide) (by omega)
    omega
theorem or_lt {a b : Nat} (h1 : a < 18446744073709551616) (h2 : b < 18446744073709551616) : Nat.lor a b < 18446744073709551616 := Nat.or_lt_two_pow (n := 64) h1 h2
theorem and_lt {a b : Nat} (h1 : a < 18446744073709551616) : Nat.land a b < 18446744073709551616 := Nat.lt_of_le_of_lt Nat.and_le_left h1
theorem turnM_lt (x e r : Nat) : turnM x e r < 18446744073709551616 := Nat.lt_of_le_of_lt Nat.and_le_right (ones_lt e)
theorem bor64 {a b : Nat} (h1 : a < 18446744073709551616) (h2 : b < 18446744073709551616) : bits .or .u64 (a : Int) (b : Int) = ((Nat.lor a b : Nat) : Int) := bits_or_u64_nat a b h1 h2
theorem band64 {a b : Nat} (h1 : a < 18446744073709551616) (h2 : b < 18446744073709551616) : bits .and .u64 (a : Int) (b : Int) = ((Nat.land a b : Nat) : Int) := bits_and_u64_nat a b h1 h2
/-- x << k as the walk has it. -/
theorem shl64 (x k : Nat) : IntKind.u64.wrap ((x : Int) * 2 ^ k) = ((x * 2 ^ k % 18446744073709551616 : Nat) : Int) := by
  rw [IntKind.wrap_u64, Int.natCast_emod, Int.natCast_mul, Int.natCast_pow]
  rfl
theorem shr64 (x k : Nat) : (x : Int) / 2 ^ k = ((x / 2 ^ k : Nat) : Int) := by push_cast; rfl
end Go.Fd
namespace Go.Proofs.Ytjklfichjaapoaa
open Go.RowKit Go.Fd
set_option maxRecDepth 100000 in
theorem mkOnes_any (n : Nat) (hn : n ≤ 1000) (w : World) : Calls Try.prog 16 #[.int .i64 (n : Int)] w fun e w' => e = .returned (.int .u64 ((onesM n : Nat) : Int)) ∧ w' = w := by
  by_cases h : 64 ≤ n
  · have HR := Lib.hid (show onesM n = 18446744073709551615 by unfold onesM; rw [if_pos h])
    have d1 : decide ((n : Int) ≥ 64) = true := by simp; omega
    go_enter Try.func16, Try.ntmps16
    go_wp2
    go_ret
    rw [HR.out]
    exact ⟨rfl, rfl⟩
  · have HR := Lib.hid (show onesM n = 2 ^ n - 1 by unfold onesM; rw [if_neg h])
    have d1 : decide ((n : Int) ≥ 64) = false := by simp; omega
    have hp : (2 : Nat) ^ n ≤ 2 ^ 63 := Nat.pow_le_pow_right (by decide) (by omega)
    have hp0 : 0 < (2 : Nat) ^ n := Nat.two_pow_pos n
    have e1 : (2 : Int) ^ n = ((2 ^ n : Nat) : Int) := by push_cast; rfl
    have e2 : min n 64 = n := Nat.min_eq_left (by omega)
    have HP := Lib.hid (show IntKind.u64.wrap (IntKind.u64.wrap ((2 : Int) ^ n) - 1) = ((2 ^ n - 1 : Nat) : Int) by
      rw [IntKind.wrap_u64, IntKind.wrap_u64, e1]
      omega)
    clear e1
    go_enter Try.func16, Try.ntmps16
    go_wp2
    go_ret
    rw [HR.out, ← HP.out]
    exact ⟨rfl, rfl⟩
set_option maxRecDepth 100000 in
theorem mkSpread_any (x e : Nat) (hx : x < 18446744073709551616) (he : 1 ≤ e) (he2 : e ≤ 64) (w : World) : Calls Try.prog 15 #[.int .u64 (x : Int), .int .i64 (e : Int)] w fun r w' => r = .returned (.int .u64 ((sprM 6 x e : Nat) : Int)) ∧ w' = w := by
  have HX := Lib.hid hx
  clear hx
  go_enter Try.func15, Try.ntmps15
  go_wp2
  go_loopw [0, 1] (fun vx ve wr => ∃ (y k f : Nat), vx = .int .u64 (y : Int) ∧ ve = .int .i64 (k : Int) ∧ 1 ≤ k ∧ k ≤ 126 ∧ Hid (64 ≤ k * 2 ^ f) ∧ Hid (y < 18446744073709551616) ∧ Hid (sprM f y k = sprM 6 x e) ∧ wr = w) (fun _ ve _ => 64 - (intOf ve).toNat)
  case atStart => exact ⟨x, e, 6, rfl, rfl, he, by omega, Lib.hid (by omega), HX, Lib.hid rfl, rfl⟩
  case round =>
    obtain ⟨y, k, f, rfl, rfl, hk1, hk2, HF, HY, HO, rfl⟩ := hrel
    by_cases hk : k < 64
    · have d1 : decide (k < 64) = true := decide_eq_true hk
      have d2 : decide ((k : Int) < 64) = true := by simp; omega
      obtain ⟨f, rfl⟩ : ∃ f', f = f' + 1 := by
        cases f with
        | zero => exact absurd HF.out (by simp; omega)
        | succ f => exact ⟨f, rfl⟩
      have e2 : min k 64 = k := Nat.min_eq_left (by omega)
      obtain ⟨z, hz⟩ : ∃ z, z = y * 2 ^ k % 18446744073709551616 := ⟨_, rfl⟩
      have hzl : z < 18446744073709551616 := by rw [hz]; exact Nat.mod_lt _ (by decide)
      have e3 : IntKind.u64.wrap ((y : Int) * 2 ^ k) = (z : Int) := by rw [hz]; exact shl64 y k
      obtain ⟨v, hv⟩ : ∃ v, v = Nat.lor y z := ⟨_, rfl⟩
      have e4 : bits .or .u64 (y : Int) (z : Int) = (v : Int) := by rw [hv]; exact bor64 HY.out hzl
      have HV := Lib.hid (show v < 18446744073709551616 by rw [hv]; exact or_lt HY.out hzl)
      have HE := Lib.hid (show sprM (f + 1) y k = sprM f v (k * 2) by rw [sprM, if_pos hk, hv, hz])
      have HF2 := Lib.hid (show 64 ≤ k * 2 * 2 ^ f by have := HF.out; rw [Nat.pow_succ, Nat.mul_comm (2 ^ f), ← Nat.mul_assoc] at this; exact this)
      clear hz hv hzl
      go_wp2
      go_roundw
      case rel => exact ⟨v, k * 2, f, rfl, int_eq (by omega), by omega, by omega, HF2, HV, Lib.hid (by rw [← HE.out]; exact HO.out), trivial⟩
      case measure => simp [intOf] <;> omega
    · have d1 : decide (k < 64) = false := decide_eq_false hk
      have d2 : decide ((k : Int) < 64) = false := by simp; omega
      have HE := Lib.hid (show y = sprM 6 x e by
        rw [← HO.out]
        cases f with
        | zero => rfl
        | succ f => rw [sprM, if_neg hk])
      go_wp2
      go_ret
      rw [← HE.out]
      exact ⟨rfl, rfl⟩
set_option maxRecDepth 100000 in
theorem mkTurned_any (x e r : Nat) (hx : x < 18446744073709551616) (he : e ≤ 64) (hr : r < e) (w : World) : Calls Try.prog 18 #[.int .u64 (x : Int), .int .i64 (e : Int), .int .i64 (r : Int)] w fun q w' => q = .returned (.int .u64 ((turnM x e r : Nat) : Int)) ∧ ∃ n, w' = w.drewN n := by
  have HO := Lib.hid (fun n => mkOnes_any e (by omega) (w.drewN n))
  obtain ⟨d, hd⟩ : ∃ d, e = r + d := ⟨e - r, by omega⟩
  obtain ⟨a, ha⟩ : ∃ a, a = x / 2 ^ r := ⟨_, rfl⟩
  obtain ⟨b, hb⟩ : ∃ b, b = x * 2 ^ d % 18446744073709551616 := ⟨_, rfl⟩
  obtain ⟨c, hc⟩ : ∃ c, c = Nat.lor a b := ⟨_, rfl⟩
  obtain ⟨o, ho⟩ : ∃ o, o = onesM e := ⟨_, rfl⟩
  obtain ⟨v, hv⟩ : ∃ v, v = Nat.land c o := ⟨_, rfl⟩
  have la : a < 18446744073709551616 := by rw [ha]; exact Nat.lt_of_le_of_lt (Nat.div_le_self _ _) hx
  have lb : b < 18446744073709551616 := by rw [hb]; exact Nat.mod_lt _ (by decide)
  have lc : c < 18446744073709551616 := by rw [hc]; exact or_lt la lb
  have lo : o < 18446744073709551616 := by rw [ho]; exact ones_lt e
  have e1 : (x : Int) / 2 ^ r = (a : Int) := by rw [ha]; exact shr64 x r
  have e2 : IntKind.u64.wrap ((x : Int) * 2 ^ d) = (b : Int) := by rw [hb]; exact shl64 x d
  have e3 : bits .or .u64 (a : Int) (b : Int) = (c : Int) := by rw [hc]; exact bor64 la lb
  have e4 : bits .and .u64 (c : Int) (o : Int) = (v : Int) := by rw [hv]; exact band64 lc lo
  have e5 : min d 64 = d := Nat.min_eq_left (by omega)
  have e6 : min r 64 = r := Nat.min_eq_left (by omega)
  have e7 : ((r : Int) + (d : Int) - (r : Int)) = (d : Int) := by omega
  have HV := Lib.hid (show turnM x e r = v by rw [hv, hc, ho, ha, hb]; unfold turnM; rw [show e - r = d by omega])
  rw [← ho] at HO
  clear ha hb hc ho hv la lb lc lo
  subst hd
  rw [show ((r + d : Nat) : Int) = (r : Int) + (d : Int) by omega] at HO ⊢
  go_enter Try.func18, Try.ntmps18
  go_wp2
  go_quiet (first | (go_at_call 16; exact Calls.quiet_of_same (HO.out _)))
  go_wp2
  go_ret
  rw [HV.out]
  exact ⟨rfl, nq, rfl⟩
end Go.Proofs.Ytjklfichjaapoaa
namespace Go.Proofs.Ytjklfichjaapoaa
open Go.RowKit Go.Fd Go.Sort
section
variable {α : Type} [Inhabited α] (lt : α → α → Bool)
theorem insIn_go (a j : Nat) (d : Array α) (hj : a < j) (hl : lt d[j]! d[j - 1]! = true) : insInner lt a j d = insInner lt a (j - 1) (swp d j (j - 1)) := by
  cases j with
  | zero => omega
  | succ k =>
    simp only [Nat.add_sub_cancel] at hl ⊢
    rw [insInner, hl, if_pos (by simp; omega)]
theorem insIn_end (a j : Nat) (d : Array α) (h : j ≤ a ∨ lt d[j]! d[j - 1]! = false) : insInner lt a j d = d := by
  cases j with
  | zero => rfl
  | succ k =>
    simp only [Nat.add_sub_cancel] at h
    rw [insInner, if_neg]
    rcases h with h | h
    · simp; omega
    · simp [h]
theorem insOut_go (a b i : Nat) (d : Array α) (h : i < b) : insOuter lt a b i d = insOuter lt a b (i + 1) (insInner lt a i d) := by rw [insOuter, if_pos h]
theorem insOut_end (a b i : Nat) (d : Array α) (h : ¬ i < b) : insOuter lt a b i d = d := by rw [insOuter, if_neg h]
end
set_option maxHeartbeats 1000000 in
set_option maxRecDepth 100000 in
theorem uInsertion_any (t g cap n a b : Nat) (c : Array Value) (d : Array Int) (w : World) (h : UAt t g c w d) (hn : d.size = n) (hab : a ≤ b) (hb : b ≤ n) (hs : n < 1000000000) :
    Calls Try.prog 29 #[.slice (some ⟨g, 0, none⟩) n cap, .int .i64 (a : Int), .int .i64 (b : Int)] w fun e w' => e = .returned (.tuple #[]) ∧ UB t g c w n w' (insertionSort ltInt d a b) := by
  have H := Lib.hid (UB.mk' h hn)
  clear h hn
  go_enter Try.func29, Try.ntmps29
  go_wp2
  go_loopw [6] (fun vi wr => ∃ (i : Nat) (dk : Array Int), vi = .int .i64 (i : Int) ∧ a < i ∧ i ≤ b + 1 ∧ Hid (UB t g c w n wr dk) ∧ Hid (insOuter ltInt a b i dk = insertionSort ltInt d a b)) (fun vi _ => b + 1 - (intOf vi).toNat)
  case atStart => exact ⟨a + 1, d, by go_num, by omega, by omega, H, Lib.hid rfl⟩
  case round =>
    obtain ⟨i, dk, rfl, hai, hib, HU, HO⟩ := hrel
    by_cases hlt : i < b
    · have d1 : decide (i < b) = true := decide_eq_true hlt
      have d2 : decide ((i : Int) < (b : Int)) = true := by simp; exact hlt
      go_wp2
      go_loopw [7] (fun vj wr2 => ∃ (j : Nat) (dj : Array Int), vj = .int .i64 (j : Int) ∧ a ≤ j ∧ j ≤ i ∧ Hid (UB t g c w n wr2 dj) ∧ Hid (insInner ltInt a j dj = insInner ltInt a i dk)) (fun vj _ => (intOf vj).toNat)
      case atStart => exact ⟨i, dk, rfl, by omega, Nat.le_refl _, HU, Lib.hid rfl⟩
      case round =>
        obtain ⟨j, dj, rfl, haj, hji, HU2, HI⟩ := hrel
        have OUT := Lib.hid (fun (hq : j ≤ a ∨ ltInt dj[j]! dj[j - 1]! = false) => show insOuter ltInt a b (i + 1) dj = insertionSort ltInt d a b by
          rw [← HO.out, insOut_go _ _ _ _ _ hlt, ← HI.out, insIn_end _ _ _ _ hq])
        by_cases hja : a < j
        · have d3 : decide (a < j) = true := decide_eq_true hja
          have d4 : decide ((j : Int) > (a : Int)) = true := by simp; omega
          obtain ⟨x, hx⟩ : ∃ x, x = dj[j]! := ⟨_, rfl⟩
          obtain ⟨y, hy⟩ : ∃ y, y = dj[j - 1]! := ⟨_, rfl⟩
          have cx := HU2.out.cell (by omega) hx
          have cy := HU2.out.cell (by omega) hy
          have fx := HU2.out.free j
          have fy := HU2.out.free (j - 1)
          have HX := Lib.hid hx
          have HY := Lib.hid hy
          clear hx hy
          go_wp2
          go_quiet (first | (go_at_call 35; refine Calls.quiet_of_same (uLess_any _ _ _)))
          cases hl : ltInt x y with
          | true =>
            have HLT := Lib.hid hl
            go_wp2
            go_region
            all_goals go_wp2
            go_roundw
            case rel => exact ⟨j - 1, swp dj j (j - 1), int_eq (by omega), by omega, by omega, Lib.hid ((HU2.out.drewN _).swap (by omega) (by omega) HY.out HX.out), Lib.hid (by rw [← HI.out]; exact (insIn_go ltInt a j dj hja (by rw [← HX.out, ← HY.out]; exact HLT.out)).symm)⟩
            case measure => simp [intOf] <;> omega
          | false =>
            have HLT := Lib.hid hl
            go_wp2
            go_roundw
            case rel => exact ⟨i + 1, dj, by go_num, by omega, by omega, Lib.hid (HU2.out.drewN nq), Lib.hid (OUT.out (.inr (by rw [← HX.out, ← HY.out]; exact HLT.out)))⟩
            case measure => simp [intOf] <;> omega
        · have d3 : decide (a < j) = false := decide_eq_false hja
          have d4 : decide ((j : Int) > (a : Int)) = false := by simp; omega
          go_wp2
          go_quiet (fail)
          go_wp2
          go_roundw
          case rel => exact ⟨i + 1, dj, by go_num, by omega, by omega, Lib.hid (HU2.out.drewN nq), Lib.hid (OUT.out (.inl (by omega)))⟩
          case measure => simp [intOf] <;> omega
    · have d1 : decide (i < b) = false := decide_eq_false hlt
      have d2 : decide ((i : Int) < (b : Int)) = false := by simp; omega
      go_wp2
      go_end0
      exact ⟨rfl, by rw [← HO.out, insOut_end _ _ _ _ _ hlt]; exact HU.out⟩
end Go.Proofs.Ytjklfichjaapoaa
namespace Go.Proofs.Ytjklfichjaapoaa
open Go.RowKit Go.Fd Go.Sort
section
variable {α : Type} [Inhabited α] (lt : α → α → Bool)
theorem rev_go (i j : Nat) (d : Array α) (h : i < j) : reverseLoop i j d = reverseLoop (i + 1) (j - 1) (swp d i j) := by rw [reverseLoop, if_pos h]
theorem rev_end (i j : Nat) (d : Array α) (h : ¬ i < j) : reverseLoop i j d = d := by rw [reverseLoop, if_neg h]
theorem sift_end (hi f r : Nat) (d : Array α) (h : hi ≤ 2 * r + 1) : siftDown lt hi f r d = d := by rw [siftDown, dif_pos h]
/-- The child that is looked at. -/
def childOf (hi f r : Nat) (d : Array α) : Nat := if 2 * r + 1 + 1 < hi && lt d[f + (2 * r + 1)]! d[f + (2 * r + 1) + 1]! then 2 * r + 2 else 2 * r + 1
theorem sift_step (hi f r : Nat) (d : Array α) (h : ¬ hi ≤ 2 * r + 1) : siftDown lt hi f r d = if lt d[f + r]! d[f + childOf lt hi f r d]! then siftDown lt hi f (childOf lt hi f r d) (swp d (f + r) (f + childOf lt hi f r d)) else d := by
  rw [siftDown, dif_neg h]
  unfold childOf
  by_cases h1 : (2 * r + 1 + 1 < hi && lt d[f + (2 * r + 1)]! d[f + (2 * r + 1) + 1]!) = true
  · rw [if_pos h1, if_pos h1]
    have h2 : 2 * r + 2 < hi := by simp at h1; omega
    cases h3 : lt d[f + r]! d[f + (2 * r + 2)]! <;> simp [h2]
  · rw [if_neg h1, if_neg h1]
    cases h3 : lt d[f + r]! d[f + (2 * r + 1)]! <;> simp
end
set_option maxHeartbeats 1000000 in
set_option maxRecDepth 100000 in
theorem uReverse_any (t g cap n a b : Nat) (c : Array Value) (d : Array Int) (w : World) (h : UAt t g c w d) (hn : d.size = n) (hab : a < b) (hb : b ≤ n) (hs : n < 1000000000) :
    Calls Try.prog 33 #[.slice (some ⟨g, 0, none⟩) n cap, .int .i64 (a : Int), .int .i64 (b : Int)] w fun e w' => e = .returned (.tuple #[]) ∧ UB t g c w n w' (reverseRange d a b) := by
  have H := Lib.hid (UB.mk' h hn)
  clear h hn
  go_enter Try.func33, Try.ntmps33
  go_wp2
  go_loopw [6, 7] (fun vi vj wr => ∃ (i j : Nat) (dk : Array Int), vi = .int .i64 (i : Int) ∧ vj = .int .i64 (j : Int) ∧ i ≤ n ∧ j < n ∧ Hid (UB t g c w n wr dk) ∧ Hid (reverseLoop i j dk = reverseRange d a b)) (fun vi vj _ => (intOf vj).toNat - (intOf vi).toNat)
  case atStart => exact ⟨a, b - 1, d, rfl, int_eq (by omega), by omega, by omega, H, Lib.hid rfl⟩
  case round =>
    obtain ⟨i, j, dk, rfl, rfl, hin, hjn, HU, HO⟩ := hrel
    by_cases hlt : i < j
    · have d1 : decide (i < j) = true := decide_eq_true hlt
      have d2 : decide ((i : Int) < (j : Int)) = true := by simp; exact hlt
      obtain ⟨x, hx⟩ : ∃ x, x = dk[j]! := ⟨_, rfl⟩
      obtain ⟨y, hy⟩ : ∃ y, y = dk[i]! := ⟨_, rfl⟩
      have cx := HU.out.cell (by omega) hx
      have cy := HU.out.cell (by omega) hy
      have fx := HU.out.free j
      have fy := HU.out.free i
      have HX := Lib.hid hx
      have HY := Lib.hid hy
      clear hx hy
      go_wp2
      go_region
      all_goals go_wp2
      go_roundw
      case rel => exact ⟨i + 1, j - 1, swp dk i j, by go_num, int_eq (by omega), by omega, by omega, Lib.hid (HU.out.drew.swap (by omega) (by omega) HX.out HY.out), Lib.hid (by rw [← HO.out, rev_go _ _ _ hlt])⟩
      case measure => simp [intOf] <;> omega
    · have d1 : decide (i < j) = false := decide_eq_false hlt
      have d2 : decide ((i : Int) < (j : Int)) = false := by simp; omega
      go_wp2
      go_end0
      exact ⟨rfl, by rw [← HO.out, rev_end _ _ _ hlt]; exact HU.out⟩
set_option maxHeartbeats 1000000 in
set_option maxRecDepth 100000 in
theorem uSift_any (t g cap n lo hi f : Nat) (c : Array Value) (d : Array Int) (w : World) (h : UAt t g c w d) (hn : d.size = n) (hlo : lo ≤ hi) (hb : f + hi ≤ n) (hs : n < 1000000000) :
    Calls Try.prog 38 #[.slice (some ⟨g, 0, none⟩) n cap, .int .i64 (lo : Int), .int .i64 (hi : Int), .int .i64 (f : Int)] w fun e w' => e = .returned (.tuple #[]) ∧ UB t g c w n w' (siftDown ltInt hi f lo d) := by
  have H := Lib.hid (UB.mk' h hn)
  clear h hn
  go_enter Try.func38, Try.ntmps38
  go_wp2
  go_loopw [8, 9] (fun vr vc wr => ∃ (r : Nat) (dk : Array Int), vr = .int .i64 (r : Int) ∧ r ≤ hi ∧ Hid (UB t g c w n wr dk) ∧ Hid (siftDown ltInt hi f r dk = siftDown ltInt hi f lo d)) (fun vr _ _ => hi - (intOf vr).toNat)
  case atStart => exact ⟨lo, d, rfl, hlo, H, Lib.hid rfl⟩
  case round =>
    obtain ⟨r, dk, rfl, hr, HU, HO⟩ := hrel
    by_cases hend : hi ≤ 2 * r + 1
    · have d1 : decide (hi ≤ 2 * r + 1) = true := decide_eq_true hend
      have d2 : decide (((2 : Int) * (r : Int) + 1) ≥ (hi : Int)) = true := by simp; omega
      go_wp2
      go_end0
      exact ⟨rfl, by rw [← HO.out, sift_end _ _ _ _ _ hend]; exact HU.out⟩
    · have d1 : decide (hi ≤ 2 * r + 1) = false := decide_eq_false hend
      have d2 : decide (((2 : Int) * (r : Int) + 1) ≥ (hi : Int)) = false := by simp; omega
      by_cases htwo : 2 * r + 2 < hi
      · have d3 : decide (2 * r + 1 + 1 < hi) = true := decide_eq_true (by omega)
        have d4 : decide (((2 : Int) * (r : Int) + 1 + 1) < (hi : Int)) = true := by simp; omega
        obtain ⟨x0, hx0⟩ : ∃ x, x = dk[f + (2 * r + 1)]! := ⟨_, rfl⟩
        obtain ⟨y0, hy0⟩ : ∃ y, y = dk[f + (2 * r + 1) + 1]! := ⟨_, rfl⟩
        have cx0 := HU.out.cell (by omega) hx0
        have cy0 := HU.out.cell (by omega) hy0
        have HX0 := Lib.hid hx0
        have HY0 := Lib.hid hy0
        clear hx0 hy0
        go_wp2
        go_quiet (first | (go_at_call 35; refine Calls.quiet_of_same (uLess_any _ _ _)))
        have HU3 := Lib.hid (HU.out.drewN nq)
        generalize wr.drewN nq = wz at *
        cases hl0 : ltInt x0 y0 with
        | true =>
          have HCH := Lib.hid (show childOf ltInt hi f r dk = 2 * r + 2 by unfold childOf; rw [← HX0.out, ← HY0.out, hl0, if_pos (by simp; omega)])
          have HL0 := Lib.hid hl0
          go_wp2
          clear hl0 cx0 cy0
          have i1 : f + r < n := by omega
          have i2 : f + (2 * r + 1 + 1) < n := by omega
          obtain ⟨x, hx⟩ : ∃ x, x = dk[f + r]! := ⟨_, rfl⟩
          obtain ⟨y, hy⟩ : ∃ y, y = dk[f + (2 * r + 1 + 1)]! := ⟨_, rfl⟩
          have cx := HU3.out.cell (by omega) hx
          have cy := HU3.out.cell (by omega) hy
          have fx := HU3.out.free (f + r)
          have fy := HU3.out.free (f + (2 * r + 1 + 1))
          have HX := Lib.hid hx
          have HY := Lib.hid hy
          clear hx hy
          go_quiet (first | (go_at_call 35; refine Calls.quiet_of_same (uLess_any _ _ _)))
          rename_i nq2
          cases hl : ltInt x y with
          | true =>
            have HLT := Lib.hid hl
            go_wp2
            go_region
            all_goals go_wp2
            go_roundw
            case rel => exact ⟨(2 * r + 1 + 1), swp dk (f + r) (f + (2 * r + 1 + 1)), by go_num, by omega, Lib.hid ((HU3.out.drewN _).swap (by omega) (by omega) HY.out HX.out), Lib.hid (by rw [← HO.out, sift_step ltInt hi f r dk (by omega), HCH.out, if_pos (by rw [← HX.out, ← HY.out]; exact HLT.out)])⟩
            case measure => simp [intOf] <;> omega
          | false =>
            have HLT := Lib.hid hl
            go_wp2
            (try simp only [Exit.inBlock, Exit.then])
            refine bodyPost_ret (results_none rfl _ _ _) rfl ?_
            exact ⟨rfl, by rw [← HO.out, sift_step ltInt hi f r dk (by omega), HCH.out, if_neg (by rw [← HX.out, ← HY.out, HLT.out]; exact Bool.false_ne_true)]; exact HU3.out.drewN _⟩

        | false =>
          have HCH := Lib.hid (show childOf ltInt hi f r dk = 2 * r + 1 by unfold childOf; rw [← HX0.out, ← HY0.out, hl0, if_neg (by simp)])
          go_wp2
          clear hl0 cx0 cy0
          have i1 : f + r < n := by omega
          have i2 : f + (2 * r + 1) < n := by omega
          obtain ⟨x, hx⟩ : ∃ x, x = dk[f + r]! := ⟨_, rfl⟩
          obtain ⟨y, hy⟩ : ∃ y, y = dk[f + (2 * r + 1)]! := ⟨_, rfl⟩
          have cx := HU3.out.cell (by omega) hx
          have cy := HU3.out.cell (by omega) hy
          have fx := HU3.out.free (f + r)
          have fy := HU3.out.free (f + (2 * r + 1))
          have HX := Lib.hid hx
          have HY := Lib.hid hy
          clear hx hy
          go_quiet (first | (go_at_call 35; refine Calls.quiet_of_same (uLess_any _ _ _)))
          rename_i nq2
          cases hl : ltInt x y with
          | true =>
            have HLT := Lib.hid hl
            go_wp2
            go_region
            all_goals go_wp2
            go_roundw
            case rel => exact ⟨(2 * r + 1), swp dk (f + r) (f + (2 * r + 1)), by go_num, by omega, Lib.hid ((HU3.out.drewN _).swap (by omega) (by omega) HY.out HX.out), Lib.hid (by rw [← HO.out, sift_step ltInt hi f r dk (by omega), HCH.out, if_pos (by rw [← HX.out, ← HY.out]; exact HLT.out)])⟩
            case measure => simp [intOf] <;> omega
          | false =>
            have HLT := Lib.hid hl
            go_wp2
            (try simp only [Exit.inBlock, Exit.then])
            refine bodyPost_ret (results_none rfl _ _ _) rfl ?_
            exact ⟨rfl, by rw [← HO.out, sift_step ltInt hi f r dk (by omega), HCH.out, if_neg (by rw [← HX.out, ← HY.out, HLT.out]; exact Bool.false_ne_true)]; exact HU3.out.drewN _⟩

      · have d3 : decide (2 * r + 1 + 1 < hi) = false := decide_eq_false (by omega)
        have d4 : decide (((2 : Int) * (r : Int) + 1 + 1) < (hi : Int)) = false := by simp; omega
        have HCH := Lib.hid (show childOf ltInt hi f r dk = 2 * r + 1 by unfold childOf; rw [if_neg (by simp; omega)])
        go_wp2
        go_quiet (fail)
        have HU3 := Lib.hid (HU.out.drewN nq)
        generalize wr.drewN nq = wz at *
        go_wp2
        have i1 : f + r < n := by omega
        have i2 : f + (2 * r + 1) < n := by omega
        obtain ⟨x, hx⟩ : ∃ x, x = dk[f + r]! := ⟨_, rfl⟩
        obtain ⟨y, hy⟩ : ∃ y, y = dk[f + (2 * r + 1)]! := ⟨_, rfl⟩
        have cx := HU3.out.cell (by omega) hx
        have cy := HU3.out.cell (by omega) hy
        have fx := HU3.out.free (f + r)
        have fy := HU3.out.free (f + (2 * r + 1))
        have HX := Lib.hid hx
        have HY := Lib.hid hy
        clear hx hy
        go_quiet (first | (go_at_call 35; refine Calls.quiet_of_same (uLess_any _ _ _)))
        rename_i nq2
        cases hl : ltInt x y with
        | true =>
          have HLT := Lib.hid hl
          go_wp2
          go_region
          all_goals go_wp2
          go_roundw
          case rel => exact ⟨(2 * r + 1), swp dk (f + r) (f + (2 * r + 1)), by go_num, by omega, Lib.hid ((HU3.out.drewN _).swap (by omega) (by omega) HY.out HX.out), Lib.hid (by rw [← HO.out, sift_step ltInt hi f r dk (by omega), HCH.out, if_pos (by rw [← HX.out, ← HY.out]; exact HLT.out)])⟩
          case measure => simp [intOf] <;> omega
        | false =>
          have HLT := Lib.hid hl
          go_wp2
          (try simp only [Exit.inBlock, Exit.then])
          refine bodyPost_ret (results_none rfl _ _ _) rfl ?_
          exact ⟨rfl, by rw [← HO.out, sift_step ltInt hi f r dk (by omega), HCH.out, if_neg (by rw [← HX.out, ← HY.out, HLT.out]; exact Bool.false_ne_true)]; exact HU3.out.drewN _⟩
end Go.Proofs.Ytjklfichjaapoaa
namespace Go.Proofs.Ytjklfichjaapoaa
open Go.RowKit Go.Fd Go.Sort
theorem pred_val (k : Nat) : Value.int .i64 (((k + 1 : Nat) : Int) - 1) = .int .i64 (k : Int) := int_eq (by omega)
set_option maxHeartbeats 1000000 in
set_option maxRecDepth 100000 in
theorem uHeap_any (t g cap n a b : Nat) (c : Array Value) (d : Array Int) (w : World) (h : UAt t g c w d) (hn : d.size = n) (hab : a < b) (hb : b ≤ n) (hs : n < 1000000000) :
    Calls Try.prog 30 #[.slice (some ⟨g, 0, none⟩) n cap, .int .i64 (a : Int), .int .i64 (b : Int)] w fun e w' => e = .returned (.tuple #[]) ∧ UB t g c w n w' (heapSort ltInt d a b) := by
  have H := Lib.hid (UB.mk' h hn)
  clear h hn
  obtain ⟨m, hm⟩ : ∃ m, b = a + (m + 1) := ⟨b - a - 1, by omega⟩
  subst hm
  have HE := Lib.hid (show heapSort ltInt d a (a + (m + 1)) = heapPop ltInt a (m + 1) (heapBuild ltInt (m + 1) a (m / 2 + 1) d) by
    unfold heapSort
    rw [show a + (m + 1) - a = m + 1 by omega, show m + 1 - 1 = m by omega])
  have e1 : ((a + (m + 1) : Nat) : Int) = (a : Int) + ((m : Int) + 1) := by omega
  rw [e1]
  have e2 : (a : Int) + ((m : Int) + 1) - (a : Int) = (m : Int) + 1 := by omega
  have e3 : (m : Int) + 1 - 1 = (m : Int) := by omega
  have e4 : (m : Int).tdiv 2 = ((m / 2 : Nat) : Int) := by rw [Int.tdiv_eq_ediv_of_nonneg (by omega)]; omega
  go_enter Try.func30, Try.ntmps30
  go_wp2
  go_loopw [9] (fun vi wr => ∃ (k : Nat) (dk : Array Int), vi = .int .i64 ((k : Int) - 1) ∧ k ≤ m / 2 + 1 ∧ Hid (UB t g c w n wr dk) ∧ Hid (heapBuild ltInt (m + 1) a k dk = heapBuild ltInt (m + 1) a (m / 2 + 1) d)) (fun vi _ => (intOf vi + 1).toNat)
  case atStart => exact ⟨m / 2 + 1, d, int_eq (by omega), Nat.le_refl _, H, Lib.hid rfl⟩
  case round =>
    obtain ⟨k, dk, rfl, hk, HU, HO⟩ := hrel
    cases k with
    | succ i =>
      rw [pred_val]
      have d1 : decide ((i : Int) ≥ 0) = true := by simp
      have HC := Lib.hid (fun (wx : World) (hx : UB t g c w n wx dk) => uSift_any t g cap n i (m + 1) a c dk wx hx.at_ hx.sz (by omega) (by omega) hs)
      rw [show ((m + 1 : Nat) : Int) = (m : Int) + 1 by omega] at HC
      go_wp2_with (go_at_call 38; go_must (refine (HC.out _ HU.out).mono ?_; rintro e w5 ⟨rfl, hu5⟩; have HU5 := Lib.hid (HU.out.then hu5); clear hu5))
      go_roundw
      case rel => exact ⟨i, _, rfl, by omega, HU5, Lib.hid (by rw [← HO.out]; rfl)⟩
      case measure => simp [intOf] <;> omega
    | zero =>
      rw [show ((0 : Nat) : Int) - 1 = -1 from rfl]
      have d1 : decide ((-1 : Int) ≥ 0) = false := by decide
      have HB := Lib.hid (show dk = heapBuild ltInt (m + 1) a (m / 2 + 1) d by rw [← HO.out]; rfl)
      go_wp2
      go_loopw [10] (fun vi wx => ∃ (k : Nat) (dk : Array Int), vi = .int .i64 ((k : Int) - 1) ∧ k ≤ m + 1 ∧ Hid (UB t g c w n wx dk) ∧ Hid (heapPop ltInt a k dk = heapSort ltInt d a (a + (m + 1)))) (fun vi _ => (intOf vi + 1).toNat)
      case atStart => exact ⟨m + 1, dk, int_eq (by omega), Nat.le_refl _, HU, Lib.hid (by rw [HE.out, HB.out])⟩
      case round =>
        obtain ⟨k, dk, rfl, hk, HU, HO⟩ := hrel
        cases k with
        | succ i =>
          rw [pred_val]
          have d3 : decide ((i : Int) ≥ 0) = true := by simp
          obtain ⟨x, hx⟩ : ∃ x, x = dk[a + i]! := ⟨_, rfl⟩
          obtain ⟨y, hy⟩ : ∃ y, y = dk[a]! := ⟨_, rfl⟩
          have i1 : a + i < n := by omega
          have cx := HU.out.cell i1 hx
          have cy := HU.out.cell (by omega) hy
          have fx := HU.out.free (a + i)
          have fy := HU.out.free a
          have HX := Lib.hid hx
          have HY := Lib.hid hy
          clear hx hy
          obtain ⟨v', cz⟩ := cell?_setCell_some (w := wr) (p := ⟨g, a, none⟩) (x := .int .u64 x) (q := ⟨g, a + i, none⟩) cx
          have HSW := Lib.hid (HU.out.drew.swap (i := a) (j := a + i) (by omega) i1 HX.out HY.out)
          have HC := Lib.hid (fun (wx : World) (dj : Array Int) (hx : UB t g c w n wx dj) => uSift_any t g cap n 0 i a c dj wx hx.at_ hx.sz (by omega) (by omega) hs)
          go_wp2
          go_region
          all_goals go_wp2_with (go_at_call 38; go_must (refine (HC.out _ _ HSW.out).mono ?_; rintro e w5 ⟨rfl, hu5⟩; have HU5 := Lib.hid (HSW.out.then hu5); clear hu5))
          go_roundw
          case rel => exact ⟨i, _, rfl, by omega, HU5, Lib.hid (by rw [← HO.out]; rfl)⟩
          case measure => simp [intOf] <;> omega
        | zero =>
          have d3 : decide ((((0 : Nat) : Int) - 1) ≥ 0) = false := by decide
          go_wp2
          go_end0
          exact ⟨rfl, by rw [← HO.out]; exact HU.out⟩
end Go.Proofs.Ytjklfichjaapoaa
namespace Go.Fd
open Go.RowKit Go.Sort
/-- Block p holds a count. -/
def CntAt (t p s : Nat) (w : World) : Prop := w.heap[p]? = some (.cells #[.int .i64 (s : Int)] t (0, 0))
section
variable {t p s : Nat} {w w' : World}
theorem CntAt.cell (h : CntAt t p s w) : w.cell? ⟨p, 0, none⟩ = some (.int .i64 (s : Int)) := cell_rec h 0
theorem CntAt.free (h : CntAt t p s w) : w.frozen? ⟨p, 0, none⟩ = false := by unfold CntAt at h; simp [World.frozen?, h]
theorem CntAt.drewN (h : CntAt t p s w) (n : Nat) : CntAt t p s (w.drewN n) := heap_below (below_drewN (Below.refl _ _) n) h
theorem CntAt.set (h : CntAt t p s w) (s' : Nat) : CntAt t p s' (w.setCell ⟨p, 0, none⟩ (.int .i64 (s' : Int))) := by
  unfold CntAt at *
  simp [World.setCell, Array.getElem?_modify, h]
end
/-- Behind w0 the count alone has turned. -/
structure CB (t p : Nat) (w0 : World) (w : World) (s : Nat) : Prop where
  at_ : CntAt t p s w
  st : Stirs (fun k => k = p) w0 w
section
variable {t p s s' : Nat} {w0 w w' : World}
theorem CB.mk' (h : CntAt t p s w) : CB t p w w s := ⟨h, Stirs.refl _ _⟩
theorem CB.drewN (h : CB t p w0 w s) (q : Nat) : CB t p w0 (w.drewN q) s := ⟨h.at_.drewN q, h.st.trans (stirs_drewN _ _ q) fun _ _ h => h⟩
theorem CB.set (h : CB t p w0 w s) (s' : Nat) : CB t p w0 (w.setCell ⟨p, 0, none⟩ (.int .i64 (s' : Int))) s' := ⟨h.at_.set s', h.st.trans (stirs_setCell (S := fun k => k = p) _ p 0 _ rfl) fun _ _ h => h⟩
theorem CB.then (h : CB t p w0 w s) (k : CB t p w w' s') : CB t p w0 w' s' := ⟨k.at_, h.st.trans k.st fun _ _ h => h⟩
theorem UAt.stirs {u g : Nat} {c : Array Value} {d : Array Int} {S : Nat → Prop} (h : UAt u g c w d) (hs : Stirs S w w') (hg : ¬ S g) : UAt u g c w' d := ⟨hs.kept h.1 hg, h.2⟩
end
end Go.Fd
namespace Go.Proofs.Ytjklfichjaapoaa
open Go.RowKit Go.Fd Go.Sort
set_option maxHeartbeats 1000000 in
set_option maxRecDepth 100000 in
theorem uOrder2_any (t g cap n p s a b : Nat) (c : Array Value) (d : Array Int) (w : World) (h : UAt t g c w d) (hn : d.size = n) (hp : CntAt 3 p s w) (ha : a < n) (hb : b < n) (_hs : n < 1000000000) (hs2 : s < 1000) :
    Calls Try.prog 44 #[.slice (some ⟨g, 0, none⟩) n cap, .int .i64 (a : Int), .int .i64 (b : Int), .pointer (some ⟨p, 0, none⟩)] w fun e w' =>
      e = .returned (.tuple #[.int .i64 ((order2 ltInt d a b s).1 : Nat), .int .i64 ((order2 ltInt d a b s).2.1 : Nat)]) ∧ CB 3 p w w' (order2 ltInt d a b s).2.2 := by
  have H := Lib.hid (UB.mk' h hn)
  have HP := Lib.hid (CB.mk' hp)
  obtain ⟨x, hx⟩ : ∃ x, x = d[b]! := ⟨_, rfl⟩
  obtain ⟨y, hy⟩ : ∃ y, y = d[a]! := ⟨_, rfl⟩
  have cx := H.out.cell hb hx
  have cy := H.out.cell ha hy
  have cp := hp.cell
  have fp := hp.free
  have HX := Lib.hid hx
  have HY := Lib.hid hy
  clear h hn hp hx hy
  go_enter Try.func44, Try.ntmps44
  go_wp2
  go_quiet (first | (go_at_call 35; refine Calls.quiet_of_same (uLess_any _ _ _)))
  cases hl : ltInt x y with
  | true =>
    have HO := Lib.hid (show order2 ltInt d a b s = (b, a, s + 1) by unfold order2; rw [← HX.out, ← HY.out, hl]; rfl)
    have HZ := Lib.hid ((HP.out.drewN nq).set (s + 1))
    rw [show ((s + 1 : Nat) : Int) = (s : Int) + 1 by omega] at HZ
    go_wp2
    go_ret2
    rw [HO.out]
    exact ⟨rfl, HZ.out⟩
  | false =>
    have HO := Lib.hid (show order2 ltInt d a b s = (a, b, s) by unfold order2; rw [← HX.out, ← HY.out, hl]; rfl)
    go_wp2
    go_ret2
    rw [HO.out]
    exact ⟨rfl, HP.out.drewN nq⟩
theorem order2_in {n : Nat} {d : Array Int} {a b s : Nat} (ha : a < n) (hb : b < n) : (order2 ltInt d a b s).1 < n ∧ (order2 ltInt d a b s).2.1 < n ∧ (order2 ltInt d a b s).2.2 ≤ s + 1 := by
  refine ⟨?_, ?_, order2_count _ _ _ _ _⟩
  · rcases order2_mem ltInt d a b s with h | h <;> omega
  · rcases order2_mem ltInt d a b s with h | h <;> omega
set_option maxHeartbeats 1000000 in
set_option maxRecDepth 100000 in
theorem uMedian_any (t g cap n p s a b e : Nat) (c : Array Value) (d : Array Int) (w : World) (h : UAt t g c w d) (hn : d.size = n) (hp : CntAt 3 p s w) (hpg : p ≠ g) (ha : a < n) (hb : b < n) (he : e < n) (hs : n < 1000000000) (hs2 : s < 900) :
    Calls Try.prog 42 #[.slice (some ⟨g, 0, none⟩) n cap, .int .i64 (a : Int), .int .i64 (b : Int), .int .i64 (e : Int), .pointer (some ⟨p, 0, none⟩)] w fun r w' =>
      r = .returned (.int .i64 ((median ltInt d a b e s).1 : Nat)) ∧ CB 3 p w w' (median ltInt d a b e s).2 := by
  have HU := Lib.hid (fun (wx : World) (s' : Nat) (hx : CB 3 p w wx s') => show UAt t g c wx d from h.stirs hx.st (fun e => hpg e.symm))
  have HN := Lib.hid hn
  have HP := Lib.hid (CB.mk' hp)
  clear h hn hp
  obtain ⟨r1, hr1⟩ : ∃ r, r = order2 ltInt d a b s := ⟨_, rfl⟩
  obtain ⟨r2, hr2⟩ : ∃ r, r = order2 ltInt d r1.2.1 e r1.2.2 := ⟨_, rfl⟩
  obtain ⟨r3, hr3⟩ : ∃ r, r = order2 ltInt d r1.1 r2.1 r2.2.2 := ⟨_, rfl⟩
  have HM := Lib.hid (show median ltInt d a b e s = (r3.2.1, r3.2.2) by rw [hr3, hr2, hr1]; rfl)
  obtain ⟨i1, j1, k1⟩ := order2_in (d := d) (s := s) ha hb
  rw [← hr1] at i1 j1 k1
  obtain ⟨i2, j2, k2⟩ := order2_in (d := d) (s := r1.2.2) j1 he
  rw [← hr2] at i2 j2 k2
  have HC1 := Lib.hid (fun (wx : World) (hx : CB 3 p w wx s) => hr1 ▸ uOrder2_any t g cap n p s a b c d wx (HU.out wx s hx) HN.out hx.at_ ha hb hs (by omega))
  have HC2 := Lib.hid (fun (wx : World) (hx : CB 3 p w wx r1.2.2) => hr2 ▸ uOrder2_any t g cap n p r1.2.2 r1.2.1 e c d wx (HU.out wx _ hx) HN.out hx.at_ j1 he hs (by omega))
  have HC3 := Lib.hid (fun (wx : World) (hx : CB 3 p w wx r2.2.2) => hr3 ▸ uOrder2_any t g cap n p r2.2.2 r1.1 r2.1 c d wx (HU.out wx _ hx) HN.out hx.at_ i1 i2 hs (by omega))
  rw [HM.out]
  obtain ⟨x1, y1, z1⟩ := r1
  obtain ⟨x2, y2, z2⟩ := r2
  obtain ⟨x3, y3, z3⟩ := r3
  clear hr1 hr2 hr3
  go_enter Try.func42, Try.ntmps42
  go_wp2_with fail
  refine (HC1.out _ HP.out).mono ?_
  rintro e1 w1 ⟨rfl, h1⟩
  have HP1 := Lib.hid (HP.out.then h1)
  clear h1
  go_wp2_with fail
  refine (HC2.out _ HP1.out).mono ?_
  rintro e1 w2 ⟨rfl, h1⟩
  have HP2 := Lib.hid (HP1.out.then h1)
  clear h1
  go_wp2_with fail
  refine (HC3.out _ HP2.out).mono ?_
  rintro e1 w3 ⟨rfl, h1⟩
  have HP3 := Lib.hid (HP2.out.then h1)
  clear h1
  go_wp2
  go_ret
  exact ⟨rfl, HP3.out⟩
set_option maxHeartbeats 1000000 in
set_option maxRecDepth 100000 in
theorem uMedianAdj_any (t g cap n p s a : Nat) (c : Array Value) (d : Array Int) (w : World) (h : UAt t g c w d) (hn : d.size = n) (hp : CntAt 3 p s w) (hpg : p ≠ g) (ha : 0 < a) (hb : a + 1 < n) (hs : n < 1000000000) (hs2 : s < 900) :
    Calls Try.prog 41 #[.slice (some ⟨g, 0, none⟩) n cap, .int .i64 (a : Int), .pointer (some ⟨p, 0, none⟩)] w fun r w' =>
      r = .returned (.int .i64 ((medianAdjacent ltInt d a s).1 : Nat)) ∧ CB 3 p w w' (medianAdjacent ltInt d a s).2 := by
  have HC := Lib.hid (uMedian_any t g cap n p s (a - 1) a (a + 1) c d w h hn hp hpg (by omega) (by omega) hb hs hs2)
  rw [show ((a - 1 : Nat) : Int) = (a : Int) - 1 by omega, show ((a + 1 : Nat) : Int) = (a : Int) + 1 by omega] at HC
  clear h hn hp
  go_enter Try.func41, Try.ntmps41
  go_wp2_with fail
  refine HC.out.mono ?_
  rintro e1 w1 ⟨rfl, h1⟩
  have HP1 := Lib.hid h1
  clear h1
  go_wp2
  go_ret
  exact ⟨rfl, HP1.out⟩
end Go.Proofs.Ytjklfichjaapoaa
namespace Go.Proofs.Ytjklfichjaapoaa
open Go.RowKit Go.Fd Go.Sort
/-- A hint as it is handed on. -/
def hintN : Hint → Nat
  | .unknown => 0
  | .increasing => 1
  | .decreasing => 2
def hintB (s : Nat) : Hint := if s = 0 then .increasing else if s = 12 then .decreasing else .unknown
theorem run_allocInt {w : World} : (execOp (fun _ => undef) ⟨none, .alloc 3, 0, "", #[], none⟩).run Try.prog w = .ok (.value (.pointer (some ⟨w.heap.size, 0, none⟩))) (w.alloc (.cells #[.int .i64 0] 3)) := by kernel_rfl
theorem wpList_allocInt {ops : Array Oper} {rest : List Oper} {Q : Exit → Act → World → Prop} {a : Act} {w : World} {d : Option Tmp} {ty : TypeId} {pos : String} {aft : Array Edge}
    (h : ∀ w1, CntAt 3 w.heap.size 0 w1 → Below w.heap.size w w1 → wpList Try.prog ops Q rest (a.put d (.pointer (some ⟨w.heap.size, 0, none⟩))) w1) :
    wpList Try.prog ops Q (⟨d, .alloc 3, ty, pos, aft, none⟩ :: rest) a w :=
  wpList_val rfl run_allocInt (h (w.alloc (.cells #[.int .i64 0] 3)) (heap_alloc_last w _) (below_alloc w _))
section
variable (d : Array Int) (a l : Nat)
theorem choose_small (h : l < 8) : choosePivot ltInt d a (a + l) = (a + l / 4 * 2, hintB 0) := by
  unfold choosePivot
  simp only [Nat.add_sub_cancel_left, ge_iff_le]
  rw [if_neg (by omega)]
  rfl
theorem choose_mid (h : ¬ l < 8) (h2 : l < 50) : choosePivot ltInt d a (a + l) = ((median ltInt d (a + l / 4 * 1) (a + l / 4 * 2) (a + l / 4 * 3) 0).1, hintB (median ltInt d (a + l / 4 * 1) (a + l / 4 * 2) (a + l / 4 * 3) 0).2) := by
  unfold choosePivot
  simp only [Nat.add_sub_cancel_left, ge_iff_le]
  rw [if_pos (by omega), if_neg (by omega)]
  rfl
theorem choose_big (_h : ¬ l < 8) (h2 : ¬ l < 50) {ri rj rk rm : Nat × Nat} (hi : ri = medianAdjacent ltInt d (a + l / 4 * 1) 0) (hj : rj = medianAdjacent ltInt d (a + l / 4 * 2) ri.2) (hk : rk = medianAdjacent ltInt d (a + l / 4 * 3) rj.2)
    (hm : rm = median ltInt d ri.1 rj.1 rk.1 rk.2) : choosePivot ltInt d a (a + l) = (rm.1, hintB rm.2) := by
  subst hi hj hk hm
  unfold choosePivot
  simp only [Nat.add_sub_cancel_left, ge_iff_le]
  rw [if_pos (by omega), if_pos (by omega)]
  rfl
end
theorem adj_in {n : Nat} {d : Array Int} {a s : Nat} (ha : a + 1 < n) : (medianAdjacent ltInt d a s).1 < n ∧ (medianAdjacent ltInt d a s).2 ≤ s + 3 := by
  refine ⟨?_, medianAdjacent_count _ _ _ _⟩
  rcases medianAdjacent_mem ltInt d a s with h | h | h <;> omega
set_option maxHeartbeats 1000000 in
set_option maxRecDepth 100000 in
theorem uChoose_any (t g cap n a b : Nat) (c : Array Value) (d : Array Int) (w : World) (h : UAt t g c w d) (hn : d.size = n) (hab : a ≤ b) (hb : b ≤ n) (hs : n < 1000000000) :
    Calls Try.prog 32 #[.slice (some ⟨g, 0, none⟩) n cap, .int .i64 (a : Int), .int .i64 (b : Int)] w fun e w' => e = .returned (.tuple #[.int .i64 ((choosePivot ltInt d a b).1 : Nat), .int .i64 (hintN (choosePivot ltInt d a b).2 : Nat)]) ∧ Below w.heap.size w w' := by
  obtain ⟨l, rfl⟩ : ∃ l, b = a + l := ⟨b - a, by omega⟩
  have H := Lib.hid h
  have HN := Lib.hid hn
  have hpg : w.heap.size ≠ g := fun e => by have := h.lt; omega
  clear h hn
  obtain ⟨q, hq⟩ : ∃ q, q = l / 4 := ⟨_, rfl⟩
  have HQ := Lib.hid hq
  have hq4 : 4 * q ≤ l := by omega
  have e1 : (a : Int) + (l : Int) - (a : Int) = (l : Int) := by omega
  have e2 : (l : Int) / 4 = (q : Int) := by omega
  rw [show ((a + l : Nat) : Int) = (a : Int) + (l : Int) by omega]
  have f1 : ((a + q * 1 : Nat) : Int) = (a : Int) + (q : Int) := by omega
  have f2 : ((a + q * 2 : Nat) : Int) = (a : Int) + (q : Int) * 2 := by omega
  have f3 : ((a + q * 3 : Nat) : Int) = (a : Int) + (q : Int) * 3 := by omega
  by_cases h8 : l < 8
  · obtain ⟨s, hs0⟩ : ∃ s, s = 0 := ⟨_, rfl⟩
    have HCH := Lib.hid (choose_small d a l h8)
    rw [← hq, ← hs0] at HCH
    have d1 : decide (l ≥ 8) = false := decide_eq_false (by omega)
    have d2 : decide ((l : Int) ≥ 8) = false := by simp; omega
    clear hq
    go_enter Try.func32, Try.ntmps32
    go_wp2_with ((with_reducible show wpList _ _ _ (⟨_, .alloc _, _, _, _, _⟩ :: _) _ _); go_must (refine wpList_allocInt ?_; intro w1 hc1 hb1; rw [← hs0] at hc1; have HPy := Lib.hid hc1; have cs := hc1.cell; have HBy := Lib.hid hb1; clear hc1 hb1))
    by_cases z0 : s = 0
    · have t1 : ((s : Int) == 0) = true := by simp; omega
      have HZ := Lib.hid (show hintB s = .increasing by unfold hintB; rw [if_pos z0])
      clear z0
      go_wp2
      go_ret2
      rw [HCH.out, HZ.out]
      exact ⟨ret2 (int_eq f2.symm) rfl, HBy.out⟩
    · exact absurd hs0 z0
  · have d1 : decide (l ≥ 8) = true := decide_eq_true (by omega)
    have d2 : decide ((l : Int) ≥ 8) = true := by simp; omega
    by_cases h50 : l < 50
    · have d3 : decide (l ≥ 50) = false := decide_eq_false (by omega)
      have d4 : decide ((l : Int) ≥ 50) = false := by simp; omega
      have HCH := Lib.hid (choose_mid d a l h8 h50)
      rw [← hq] at HCH
      have HC := Lib.hid (fun (wx : World) (hx : CntAt 3 w.heap.size 0 wx) (hb : Below w.heap.size w wx) => uMedian_any t g cap n w.heap.size 0 (a + q * 1) (a + q * 2) (a + q * 3) c d wx (H.out.mono hb) HN.out hx hpg (by omega) (by omega) (by omega) hs (by decide))
      obtain ⟨rm, hrm⟩ : ∃ r, r = median ltInt d (a + q * 1) (a + q * 2) (a + q * 3) 0 := ⟨_, rfl⟩
      rw [← hrm] at HC HCH
      rw [f1, f2, f3] at HC
      clear hq hrm f1 f2 f3
      obtain ⟨mi, s⟩ := rm
      go_enter Try.func32, Try.ntmps32
      go_wp2_with ((with_reducible show wpList _ _ _ (⟨_, .alloc _, _, _, _, _⟩ :: _) _ _); go_must (refine wpList_allocInt ?_; intro w1 hc1 hb1; have HPx := Lib.hid hc1; have HBx := Lib.hid hb1; clear hc1 hb1))
      refine (HC.out _ HPx.out HBx.out).mono ?_
      rintro e w2 ⟨rfl, hc2⟩
      have HPy := Lib.hid hc2.at_
      have cs := hc2.at_.cell
      have HBy := Lib.hid (HBx.out.trans (hc2.st.below HBx.out.size fun k hk => by omega))
      clear hc2
      by_cases z0 : s = 0
      · have t1 : ((s : Int) == 0) = true := by simp; omega
        have HZ := Lib.hid (show hintB s = .increasing by unfold hintB; rw [if_pos z0])
        clear z0
        go_wp2
        go_ret2
        rw [HCH.out, HZ.out]
        exact ⟨rfl, HBy.out⟩
      · have t1 : ((s : Int) == 0) = false := by simp; omega
        by_cases z1 : s = 12
        · have t2 : ((s : Int) == 12) = true := by simp; omega
          have HZ := Lib.hid (show hintB s = .decreasing by unfold hintB; rw [if_neg z0, if_pos z1])
          clear z0 z1
          go_wp2
          go_ret2
          rw [HCH.out, HZ.out]
          exact ⟨rfl, HBy.out⟩
        · have t2 : ((s : Int) == 12) = false := by simp; omega
          have HZ := Lib.hid (show hintB s = .unknown by unfold hintB; rw [if_neg z0, if_neg z1])
          clear z0 z1
          go_wp2
          go_ret2
          rw [HCH.out, HZ.out]
          exact ⟨rfl, HBy.out⟩
    · have d3 : decide (l ≥ 50) = true := decide_eq_true (by omega)
      have d4 : decide ((l : Int) ≥ 50) = true := by simp; omega
      obtain ⟨ri, hri⟩ : ∃ r, r = medianAdjacent ltInt d (a + q * 1) 0 := ⟨_, rfl⟩
      obtain ⟨rj, hrj⟩ : ∃ r, r = medianAdjacent ltInt d (a + q * 2) ri.2 := ⟨_, rfl⟩
      obtain ⟨rk, hrk⟩ : ∃ r, r = medianAdjacent ltInt d (a + q * 3) rj.2 := ⟨_, rfl⟩
      obtain ⟨rm, hrm⟩ : ∃ r, r = median ltInt d ri.1 rj.1 rk.1 rk.2 := ⟨_, rfl⟩
      have HCH := Lib.hid (choose_big d a l h8 h50 (hq ▸ hri) (hq ▸ hrj) (hq ▸ hrk) hrm)
      obtain ⟨ia, ib⟩ := adj_in (d := d) (s := 0) (show a + q * 1 + 1 < n by omega)
      rw [← hri] at ia ib
      obtain ⟨ja, jb⟩ := adj_in (d := d) (s := ri.2) (show a + q * 2 + 1 < n by omega)
      rw [← hrj] at ja jb
      obtain ⟨ka, kb⟩ := adj_in (d := d) (s := rj.2) (show a + q * 3 + 1 < n by omega)
      rw [← hrk] at ka kb
      have HC1 := Lib.hid (fun (wx : World) (hx : CntAt 3 w.heap.size 0 wx) (hb : Below w.heap.size w wx) => hri ▸ uMedianAdj_any t g cap n w.heap.size 0 (a + q * 1) c d wx (H.out.mono hb) HN.out hx hpg (by omega) (by omega) hs (by decide))
      have HC2 := Lib.hid (fun (wx : World) (hx : CntAt 3 w.heap.size ri.2 wx) (hb : Below w.heap.size w wx) => hrj ▸ uMedianAdj_any t g cap n w.heap.size ri.2 (a + q * 2) c d wx (H.out.mono hb) HN.out hx hpg (by omega) (by omega) hs (by omega))
      have HC3 := Lib.hid (fun (wx : World) (hx : CntAt 3 w.heap.size rj.2 wx) (hb : Below w.heap.size w wx) => hrk ▸ uMedianAdj_any t g cap n w.heap.size rj.2 (a + q * 3) c d wx (H.out.mono hb) HN.out hx hpg (by omega) (by omega) hs (by omega))
      have HC4 := Lib.hid (fun (wx : World) (hx : CntAt 3 w.heap.size rk.2 wx) (hb : Below w.heap.size w wx) => hrm ▸ uMedian_any t g cap n w.heap.size rk.2 ri.1 rj.1 rk.1 c d wx (H.out.mono hb) HN.out hx hpg ia ja ka hs (by omega))
      rw [f1] at HC1
      rw [f2] at HC2
      rw [f3] at HC3
      clear hq hri hrj hrk hrm f1 f2 f3
      obtain ⟨i1, s1⟩ := ri
      obtain ⟨i2, s2⟩ := rj
      obtain ⟨i3, s3⟩ := rk
      obtain ⟨mi, s⟩ := rm
      go_enter Try.func32, Try.ntmps32
      go_wp2_with ((with_reducible show wpList _ _ _ (⟨_, .alloc _, _, _, _, _⟩ :: _) _ _); go_must (refine wpList_allocInt ?_; intro w1 hc1 hb1; have HPx := Lib.hid hc1; have HBx := Lib.hid hb1; clear hc1 hb1))
      refine (HC1.out _ HPx.out HBx.out).mono ?_
      rintro e w2 ⟨rfl, hc2⟩
      have HP2 := Lib.hid hc2.at_
      have HB2 := Lib.hid (HBx.out.trans (hc2.st.below HBx.out.size fun k hk => by omega))
      clear hc2
      go_wp2_with fail
      refine (HC2.out _ HP2.out HB2.out).mono ?_
      rintro e w3 ⟨rfl, hc2⟩
      have HP3 := Lib.hid hc2.at_
      have HB3 := Lib.hid (HB2.out.trans (hc2.st.below HB2.out.size fun k hk => by omega))
      clear hc2
      go_wp2_with fail
      refine (HC3.out _ HP3.out HB3.out).mono ?_
      rintro e w4 ⟨rfl, hc2⟩
      have HP4 := Lib.hid hc2.at_
      have HB4 := Lib.hid (HB3.out.trans (hc2.st.below HB3.out.size fun k hk => by omega))
      clear hc2
      go_wp2_with fail
      refine (HC4.out _ HP4.out HB4.out).mono ?_
      rintro e w5 ⟨rfl, hc2⟩
      have HPy := Lib.hid hc2.at_
      have cs := hc2.at_.cell
      have HBy := Lib.hid (HB4.out.trans (hc2.st.below HB4.out.size fun k hk => by omega))
      clear hc2
      by_cases z0 : s = 0
      · have t1 : ((s : Int) == 0) = true := by simp; omega
        have HZ := Lib.hid (show hintB s = .increasing by unfold hintB; rw [if_pos z0])
        clear z0
        go_wp2
        go_ret2
        rw [HCH.out, HZ.out]
        exact ⟨rfl, HBy.out⟩
      · have t1 : ((s : Int) == 0) = false := by simp; omega
        by_cases z1 : s = 12
        · have t2 : ((s : Int) == 12) = true := by simp; omega
          have HZ := Lib.hid (show hintB s = .decreasing by unfold hintB; rw [if_neg z0, if_pos z1])
          clear z0 z1
          go_wp2
          go_ret2
          rw [HCH.out, HZ.out]
          exact ⟨rfl, HBy.out⟩
        · have t2 : ((s : Int) == 12) = false := by simp; omega
          have HZ := Lib.hid (show hintB s = .unknown by unfold hintB; rw [if_neg z0, if_neg z1])
          clear z0 z1
          go_wp2
          go_ret2
          rw [HCH.out, HZ.out]
          exact ⟨rfl, HBy.out⟩
end Go.Proofs.Ytjklfichjaapoaa
namespace Go.Fd
open Go.RowKit Go.Sort
/-- Block p holds a generator's state. -/
def XAt (t p r : Nat) (w : World) : Prop := w.heap[p]? = some (.cells #[.int .u64 (r : Int)] t (0, 0))
section
variable {t p r : Nat} {w w' : World}
theorem XAt.cell (h : XAt t p r w) : w.cell? ⟨p, 0, none⟩ = some (.int .u64 (r : Int)) := cell_rec h 0
theorem XAt.free (h : XAt t p r w) : w.frozen? ⟨p, 0, none⟩ = false := by unfold XAt at h; simp [World.frozen?, h]
theorem XAt.drewN (h : XAt t p r w) (n : Nat) : XAt t p r (w.drewN n) := heap_below (below_drewN (Below.refl _ _) n) h
theorem XAt.set (h : XAt t p r w) (s' : Nat) : XAt t p s' (w.setCell ⟨p, 0, none⟩ (.int .u64 (s' : Int))) := by
  unfold XAt at *
  simp [World.setCell, Array.getElem?_modify, h]
theorem XAt.stirs {S : Nat → Prop} (h : XAt t p r w) (hs : Stirs S w w') (hg : ¬ S p) : XAt t p r w' := hs.kept h hg
/-- A store over a store. -/
theorem set_set (w : World) (b o : Nat) (v v' : Value) : (w.setCell ⟨b, o, none⟩ v).setCell ⟨b, o, none⟩ v' = w.setCell ⟨b, o, none⟩ v' := by
  rw [setCell_eq, setCell_eq, mapBlock_mapBlock, setCell_eq]
  congr 1
  funext c
  simp
end
theorem bitLen_is (x : Nat) (h : x < 2 ^ 64) : Lib.bitLen x = bitsLen x := by
  induction x using Nat.strongRecOn with
  | _ x ih =>
    rcases Nat.lt_or_ge x 2 with h2 | h2
    · rcases Nat.lt_or_ge x 1 with h1 | h1
      · obtain rfl : x = 0 := by omega
        rfl
      · obtain rfl : x = 1 := by omega
        decide
    · rw [Lib.bitLen_half x (by omega) h, ih (x / 2) (by omega) (by omega)]
      unfold bitsLen
      rw [if_neg (by omega), if_neg (by omega), Nat.log2_def x, if_pos h2]
      omega
end Go.Fd
namespace Go.Proofs.Ytjklfichjaapoaa
open Go.RowKit Go.Fd Go.Sort
set_option maxHeartbeats 1000000 in
set_option maxRecDepth 100000 in
theorem uNext_any (p X : Nat) (w : World) (hp : XAt 62 p X w) (hX : X < 18446744073709551616) :
    Calls Try.prog 40 #[.pointer (some ⟨p, 0, none⟩)] w fun e w' => e = .returned (.int .u64 (xorNextN X : Nat)) ∧ XAt 62 p (xorNextN X) w' ∧ Stirs (fun k => k = p) w w' := by
  obtain ⟨A, hA⟩ : ∃ A : Nat, A = X ^^^ (X * 8192 % 18446744073709551616) := ⟨_, rfl⟩
  obtain ⟨B, hB⟩ : ∃ B : Nat, B = A ^^^ (A / 128) := ⟨_, rfl⟩
  obtain ⟨C, hC⟩ : ∃ C : Nat, C = B ^^^ (B * 131072 % 18446744073709551616) := ⟨_, rfl⟩
  have lA : A < 18446744073709551616 := by rw [hA]; exact Nat.xor_lt_two_pow (n := 64) (by omega) (by omega)
  have lB : B < 18446744073709551616 := by rw [hB]; exact Nat.xor_lt_two_pow (n := 64) (by omega) (by omega)
  have e1 : bits .xor .u64 (X : Int) (IntKind.u64.wrap ((X : Int) * 8192)) = (A : Int) := by
    rw [IntKind.wrap_u64, show ((X : Int) * 8192 % 18446744073709551616) = ((X * 8192 % 18446744073709551616 : Nat) : Int) by omega, bits_xor_u64_nat _ _ hX (by omega), hA]
  have e2 : bits .xor .u64 (A : Int) ((A : Int) / 128) = (B : Int) := by
    rw [show ((A : Int) / 128) = ((A / 128 : Nat) : Int) by omega, bits_xor_u64_nat _ _ lA (by omega), hB]
  have e3 : bits .xor .u64 (B : Int) (IntKind.u64.wrap ((B : Int) * 131072)) = (C : Int) := by
    rw [IntKind.wrap_u64, show ((B : Int) * 131072 % 18446744073709551616) = ((B * 131072 % 18446744073709551616 : Nat) : Int) by omega, bits_xor_u64_nat _ _ lB (by omega), hC]
  have hv : xorNextN X = C := by unfold xorNextN; simp only []; rw [← hA, ← hB, ← hC]
  rw [hv]
  have hc := hp.cell
  have hf := hp.free
  have HEND := Lib.hid (show ∀ q : Nat, XAt 62 p C ((w.drewN q).setCell ⟨p, 0, none⟩ (.int .u64 (C : Int))) ∧ Stirs (fun k => k = p) w ((w.drewN q).setCell ⟨p, 0, none⟩ (.int .u64 (C : Int))) from fun q => ⟨(hp.drewN q).set C, (stirs_drewN _ w q).trans (stirs_setCell (S := fun k => k = p) _ p 0 _ rfl) fun _ _ h => h⟩)
  clear hA hB hC hv hp
  have hss : ∀ v v', (w.setCell ⟨p, 0, none⟩ v).setCell ⟨p, 0, none⟩ v' = w.setCell ⟨p, 0, none⟩ v' := set_set w p 0
  go_enter Try.func40, Try.ntmps40
  go_wp2
  go_region
  all_goals go_wp2
  all_goals go_region
  all_goals go_wp2
  all_goals go_region
  all_goals go_wp2
  go_ret
  exact ⟨rfl, HEND.out 3⟩
theorem two_pow_wrap (k : Nat) (hk : k ≤ 62) : IntKind.u64.wrap ((2 : Int) ^ k) = ((1 <<< k : Nat) : Int) := by
  have h : (2 : Nat) ^ k ≤ 2 ^ 62 := Nat.pow_le_pow_right (by decide) hk
  have h2 : (2 : Int) ^ k = ((2 ^ k : Nat) : Int) := by push_cast; rfl
  rw [IntKind.wrap_u64, Nat.one_shiftLeft, h2]
  generalize (2 : Nat) ^ k = p at h
  omega
theorem uLen_any (n : Nat) (w : World) (hn : n < 1000000000) : Calls Try.prog 25 #[.int .u64 (n : Int)] w fun e w' => e = .returned (.int .i64 (bitsLen n : Nat)) ∧ w' = w := by
  have h := Try.bits_Len (n : Int) w (by omega) (by omega)
  rwa [Int.toNat_natCast, bitLen_is _ (by omega)] at h
theorem bitsLen_30 {n : Nat} (hn : n < 1000000000) : bitsLen n ≤ 30 := (bitsLen_le_iff n 30).2 (Nat.lt_of_lt_of_le hn (by decide))
set_option maxHeartbeats 1000000 in
set_option maxRecDepth 100000 in
theorem uPower_any (n : Nat) (w : World) (hn : n < 1000000000) :
    Calls Try.prog 39 #[.int .i64 (n : Int)] w fun e w' => e = .returned (.int .u64 ((1 <<< bitsLen n : Nat) : Int)) ∧ w' = w := by
  have hp := two_pow_wrap (bitsLen n) (Nat.le_trans (bitsLen_30 hn) (by decide))
  have hk := bitsLen_30 hn
  have hmin : min (bitsLen n) 64 = bitsLen n := Nat.min_eq_left (by omega)
  have hLen := Lib.hid (fun w => uLen_any n w hn)
  go_enter Try.func39, Try.ntmps39
  go_wp2_with (first | (go_at_call 25; refine (hLen.out _).mono ?_; rintro e w' ⟨rfl, rfl⟩))
  go_ret
  exact ⟨rfl, rfl⟩
section
variable {α : Type} [Inhabited α]
/-- So many rounds are left; t have been made. -/
def bpLeft (a L M i0 : Nat) : Nat → Nat → UInt64 × Array α → Array α
  | 0, _, st => st.2
  | k + 1, t, st => bpLeft a L M i0 k (t + 1) (breakStep a L M st (i0 + t))
theorem bp_eq (d : Array α) (a L : Nat) (h8 : 8 ≤ L) : breakPatterns d a (a + L) = bpLeft a L (1 <<< bitsLen L) (a + L / 4 * 2 - 1) 3 0 (UInt64.ofNat L, d) := by
  unfold breakPatterns
  simp only [Nat.add_sub_cancel_left]
  rw [if_pos h8]
  rfl
theorem bp_go (a L M i0 t : Nat) (r : UInt64) (d : Array α) (o : Nat) (ht : t < 3) (ho : (if (xorNext r).toNat &&& (M - 1) ≥ L then ((xorNext r).toNat &&& (M - 1)) - L else (xorNext r).toNat &&& (M - 1)) = o) :
    bpLeft a L M i0 (3 - t) t (r, d) = bpLeft a L M i0 (3 - (t + 1)) (t + 1) (xorNext r, swp d (i0 + t) (a + o)) := by
  rw [show 3 - t = (3 - (t + 1)) + 1 by omega, bpLeft]
  unfold breakStep
  simp only [ho]
end
theorem run_allocX {w : World} : (execOp (fun _ => undef) ⟨none, .alloc 62, 0, "", #[], none⟩).run Try.prog w = .ok (.value (.pointer (some ⟨w.heap.size, 0, none⟩))) (w.alloc (.cells #[.int .u64 0] 62)) := by kernel_rfl
theorem wpList_allocX {ops : Array Oper} {rest : List Oper} {Q : Exit → Act → World → Prop} {a : Act} {w : World} {d : Option Tmp} {ty : TypeId} {pos : String} {aft : Array Edge}
    (h : ∀ w1, XAt 62 w.heap.size 0 w1 → Below w.heap.size w w1 → wpList Try.prog ops Q rest (a.put d (.pointer (some ⟨w.heap.size, 0, none⟩))) w1) :
    wpList Try.prog ops Q (⟨d, .alloc 62, ty, pos, aft, none⟩ :: rest) a w :=
  wpList_val rfl run_allocX (h (w.alloc (.cells #[.int .u64 0] 62)) (heap_alloc_last w _) (below_alloc w _))
/-- The row and the generator's state. -/
structure BPB (t g : Nat) (c : Array Value) (w0 : World) (n : Nat) (w : World) (d : Array Int) (r : Nat) : Prop where
  ub : UB t g c w0 n w d
  x : XAt 62 w0.heap.size r w
theorem BPB.next {t g n r r' : Nat} {c : Array Value} {w0 w w' : World} {d : Array Int} (h : BPB t g c w0 n w d r) (hx : XAt 62 w0.heap.size r' w') (hs : Stirs (fun k => k = w0.heap.size) w w') (hg : g < w0.heap.size) : BPB t g c w0 n w' d r' :=
  ⟨⟨h.ub.at_.stirs hs (by omega), h.ub.st.trans hs (fun i hi e => by omega), h.ub.sz⟩, hx⟩
theorem BPB.drewN {t g n r : Nat} {c : Array Value} {w0 w : World} {d : Array Int} (h : BPB t g c w0 n w d r) (q : Nat) : BPB t g c w0 n (w.drewN q) d r := ⟨h.ub.drewN q, h.x.drewN q⟩
theorem BPB.swap {t g n r : Nat} {c : Array Value} {w0 w : World} {d : Array Int} (h : BPB t g c w0 n w d r) (hg : g < w0.heap.size) {i j : Nat} (hi : i < n) (hj : j < n) {x y : Int} (hx : x = d[j]!) (hy : y = d[i]!) : BPB t g c w0 n ((w.setCell ⟨g, i, none⟩ (.int .u64 x)).setCell ⟨g, j, none⟩ (.int .u64 y)) (swp d i j) r :=
  ⟨h.ub.swap hi hj hx hy, h.x.stirs (stirs_swap w g i j _ _) (by omega)⟩
set_option maxHeartbeats 1000000 in
set_option maxRecDepth 100000 in
theorem uBreak_any (t g cap n a b : Nat) (c : Array Value) (d : Array Int) (w : World) (h : UAt t g c w d) (hn : d.size = n) (hab : a + 8 ≤ b) (hb : b ≤ n) (hs : n < 1000000000) :
    Calls Try.prog 31 #[.slice (some ⟨g, 0, none⟩) n cap, .int .i64 (a : Int), .int .i64 (b : Int)] w fun e w' => e = .returned (.tuple #[]) ∧ UB t g c w n w' (breakPatterns d a b) := by
  obtain ⟨L, rfl⟩ : ∃ L, b = a + L := ⟨b - a, by omega⟩
  have h8 : 8 ≤ L := by omega
  rw [bp_eq d a L h8]
  obtain ⟨M, hM⟩ : ∃ M : Nat, M = 1 <<< bitsLen L := ⟨_, rfl⟩
  have hM1 : 1 ≤ M := by rw [hM, Nat.one_shiftLeft]; exact Nat.two_pow_pos _
  have hM2 : M ≤ 2 * L := by rw [hM, Nat.one_shiftLeft]; exact two_pow_bitsLen_le (by omega)
  have HNP := Lib.hid (show ∀ w, Calls Try.prog 39 #[.int .i64 (L : Int)] w fun e w' => e = .returned (.int .u64 (M : Int)) ∧ w' = w by rw [hM]; exact fun w => uPower_any L w (by omega))
  rw [← hM]
  clear hM
  have hgw := h.lt
  have H := Lib.hid (UB.mk' h hn)
  clear h hn hab
  obtain ⟨q, hq⟩ : ∃ q, q = L / 4 := ⟨_, rfl⟩
  have hq4 : 4 * q ≤ L := by omega
  have hq2 : 2 ≤ q := by omega
  obtain ⟨i0, hi0⟩ : ∃ i0, i0 + 1 = a + 2 * q := ⟨a + 2 * q - 1, by omega⟩
  have HI0 := Lib.hid (show a + L / 4 * 2 - 1 = i0 by omega)
  rw [HI0.out]
  rw [show ((a + L : Nat) : Int) = (a : Int) + (L : Int) by omega]
  have e1 : (a : Int) + (L : Int) - (a : Int) = (L : Int) := by omega
  have e2 : (L : Int) / 4 = (q : Int) := by omega
  have e3 : (a : Int) + (q : Int) * 2 - 1 = (i0 : Int) := by omega
  have e4 : (a : Int) + (q : Int) * 2 + 1 = (i0 : Int) + 2 := by omega
  have e5 : IntKind.u64.wrap (L : Int) = (L : Int) := by rw [IntKind.wrap_u64]; omega
  have d1 : decide ((L : Int) ≥ 8) = true := by simp; omega
  have d2 : decide (L ≥ 8) = true := decide_eq_true h8
  clear hq
  go_enter Try.func31, Try.ntmps31
  go_wp2_with (first
    | ((with_reducible show wpList _ _ _ (⟨_, .alloc _, _, _, _, _⟩ :: _) _ _); go_must (refine wpList_allocX ?_; intro w1 hx1 hb1; have HU1 := Lib.hid (show BPB t g c w n w1 d 0 from ⟨⟨H.out.at_.mono hb1, Stirs.of_below hb1, H.out.sz⟩, hx1⟩); have cx1 := hx1.cell; have fx1 := hx1.free; clear hx1 hb1))
    | (go_at_call 39; go_must (refine (HNP.out _).mono ?_; rintro e w' ⟨rfl, rfl⟩)))
  have HU2 := Lib.hid (show BPB t g c w n (w1.setCell ⟨w.heap.size, 0, none⟩ (.int .u64 (L : Int))) d L from HU1.out.next (HU1.out.x.set L) (stirs_setCell (S := fun k => k = w.heap.size) _ _ 0 _ rfl) hgw)
  go_loopw [9, 10] (fun vi vo wr => ∃ (t' : Nat) (r : UInt64) (dk : Array Int), vi = .int .i64 ((i0 : Int) + (t' : Int)) ∧ t' ≤ 3 ∧ Hid (BPB t g c w n wr dk r.toNat) ∧ Hid (bpLeft a L M i0 (3 - t') t' (r, dk) = bpLeft a L M i0 3 0 (UInt64.ofNat L, d))) (fun vi _ _ => i0 + 3 - (intOf vi).toNat)
  case atStart => exact ⟨0, UInt64.ofNat L, d, int_eq (by omega), by omega, Lib.hid (by rw [show (UInt64.ofNat L).toNat = L by simp; omega]; exact HU2.out), Lib.hid rfl⟩
  case round =>
    obtain ⟨t', r, dk, rfl, ht, HU, HO⟩ := hrel
    by_cases ht3 : t' < 3
    · have d3 : decide ((i0 : Int) + (t' : Int) ≤ (i0 : Int) + 2) = true := by simp; omega
      have d4 : decide (t' ≤ 2) = true := decide_eq_true (by omega)
      obtain ⟨R, hR⟩ : ∃ R : Nat, R = xorNextN r.toNat := ⟨_, rfl⟩
      have lR : R < 18446744073709551616 := by rw [hR]; exact xorNextN_lt _ r.toNat_lt
      obtain ⟨O, hO⟩ : ∃ O : Nat, O = R &&& (M - 1) := ⟨_, rfl⟩
      have lO : O ≤ M - 1 := by rw [hO]; exact Nat.and_le_right
      have eAnd : bits .and .u64 (R : Int) ((M : Int) - 1) = (O : Int) := by
        rw [show ((M : Int) - 1) = ((M - 1 : Nat) : Int) by omega, bits_and_u64_nat _ _ lR (by omega), hO]
      have eO : IntKind.i64.wrap (O : Int) = (O : Int) := by rw [IntKind.wrap_i64]; omega
      have HRR := Lib.hid (show R = (xorNext r).toNat from hR.trans (xorNext_toNat r).symm)
      have HOO := Lib.hid (show O = (xorNext r).toNat &&& (M - 1) by rw [hO, HRR.out])
      have HN := Lib.hid (show Calls Try.prog 40 #[.pointer (some ⟨w.heap.size, 0, none⟩)] wr fun e w' => e = .returned (.int .u64 (R : Int)) ∧ BPB t g c w n w' dk R by
        refine (uNext_any _ _ wr HU.out.x r.toNat_lt).mono ?_
        rintro e w' ⟨rfl, h1, h2⟩
        rw [← hR] at h1 ⊢
        exact ⟨rfl, HU.out.next h1 h2 hgw⟩)
      clear hR hO
      by_cases hLO : L ≤ O
      · have d5 : decide ((O : Int) ≥ (L : Int)) = true := by simp; omega
        obtain ⟨o, ho⟩ : ∃ o, O = L + o := ⟨O - L, by omega⟩
        have e6 : (O : Int) - (L : Int) = (o : Int) := by omega
        have HGO := Lib.hid (bp_go a L M i0 t' r dk o ht3 (by rw [← HOO.out, if_pos hLO]; omega))
        clear ho
        have i1 : i0 + t' < n := by omega
        have i2 : a + o < n := by omega
        go_wp2_with fail
        refine HN.out.mono ?_
        rintro e w5 ⟨rfl, h5⟩
        obtain ⟨x, hx⟩ : ∃ x, x = dk[a + o]! := ⟨_, rfl⟩
        obtain ⟨y, hy⟩ : ∃ y, y = dk[i0 + t']! := ⟨_, rfl⟩
        have cx := h5.ub.cell i2 hx
        have cy := h5.ub.cell i1 hy
        have fx := h5.ub.free (a + o)
        have fy := h5.ub.free (i0 + t')
        obtain ⟨v', cz⟩ := cell?_setCell_some (w := w5) (p := ⟨g, i0 + t', none⟩) (x := .int .u64 x) (q := ⟨g, a + o, none⟩) cx
        have HSW := Lib.hid (fun q => (h5.drewN q).swap hgw i1 i2 hx hy)
        clear hx hy h5
        go_wp2
        go_region
        all_goals go_wp2
        go_roundw
        case rel => exact ⟨t' + 1, xorNext r, swp dk (i0 + t') (a + o), int_eq (by omega), by omega, Lib.hid (by rw [← HRR.out]; exact HSW.out 1), Lib.hid (by rw [← HO.out]; exact HGO.out.symm)⟩
        case measure => simp [intOf] <;> omega
      · have d5 : decide ((O : Int) ≥ (L : Int)) = false := by simp; omega
        obtain ⟨o, ho⟩ : ∃ o, o = O := ⟨_, rfl⟩
        have HGO := Lib.hid (bp_go a L M i0 t' r dk o ht3 (by rw [← HOO.out, if_neg hLO]; omega))
        subst ho
        have i1 : i0 + t' < n := by omega
        have i2 : a + o < n := by omega
        go_wp2_with fail
        refine HN.out.mono ?_
        rintro e w5 ⟨rfl, h5⟩
        obtain ⟨x, hx⟩ : ∃ x, x = dk[a + o]! := ⟨_, rfl⟩
        obtain ⟨y, hy⟩ : ∃ y, y = dk[i0 + t']! := ⟨_, rfl⟩
        have cx := h5.ub.cell i2 hx
        have cy := h5.ub.cell i1 hy
        have fx := h5.ub.free (a + o)
        have fy := h5.ub.free (i0 + t')
        obtain ⟨v', cz⟩ := cell?_setCell_some (w := w5) (p := ⟨g, i0 + t', none⟩) (x := .int .u64 x) (q := ⟨g, a + o, none⟩) cx
        have HSW := Lib.hid (fun q => (h5.drewN q).swap hgw i1 i2 hx hy)
        clear hx hy h5
        go_wp2
        go_region
        all_goals go_wp2
        go_roundw
        case rel => exact ⟨t' + 1, xorNext r, swp dk (i0 + t') (a + o), int_eq (by omega), by omega, Lib.hid (by rw [← HRR.out]; exact HSW.out 1), Lib.hid (by rw [← HO.out]; exact HGO.out.symm)⟩
        case measure => simp [intOf] <;> omega
    · have d3 : decide ((i0 : Int) + (t' : Int) ≤ (i0 : Int) + 2) = false := by simp; omega
      have d4 : decide (t' ≤ 2) = false := decide_eq_false (by omega)
      obtain rfl : t' = 3 := by omega
      go_wp2
      go_end0
      exact ⟨rfl, by rw [← HO.out]; exact HU.out.ub⟩
end Go.Proofs.Ytjklfichjaapoaa
namespace Go.Fd
open Go.Sort
theorem not63_all : (allB 64 fun i => decide (bits .and .i64 (bits .xor .i64 (-1) (i : Int)) 63 = ((63 - i : Nat) : Int))) = true := by kernel_rfl
theorem or64_all : (allB 2 fun n => allB 64 fun j => decide (bits .or .i64 ((n : Int) * 64) (j : Int) = ((n * 64 + j : Nat) : Int))) = true := by kernel_rfl
theorem and64_all : (allB 7 fun L => allB 64 fun i => decide (bits .and .i64 (i : Int) (((2 ^ L : Nat) : Int) - 1) = ((i % 2 ^ L : Nat) : Int))) = true := by kernel_rfl
theorem not63 {i : Nat} (h : i < 64) : bits .and .i64 (bits .xor .i64 (-1) (i : Int)) 63 = ((63 - i : Nat) : Int) := of_decide_eq_true (allB_spec not63_all i h)
theorem or64 {n j : Nat} (hn : n < 2) (h : j < 64) : bits .or .i64 ((n : Int) * 64) (j : Int) = ((n * 64 + j : Nat) : Int) := of_decide_eq_true (allB_spec (allB_spec or64_all n hn) j h)
theorem and64 {L i : Nat} (hn : L < 7) (h : i < 64) : bits .and .i64 (i : Int) (((2 ^ L : Nat) : Int) - 1) = ((i % 2 ^ L : Nat) : Int) := of_decide_eq_true (allB_spec (allB_spec and64_all L hn) i h)
theorem log_le {x : Nat} (h : x < 128) (h0 : x ≠ 0) : Nat.log2 x < 7 := (Nat.log2_lt h0).2 h
theorem bits_log {x : Nat} (h : x ≠ 0) : bitsLen x = Nat.log2 x + 1 := by unfold bitsLen; rw [if_neg h]
end Go.Fd
namespace Go.Proofs.Ytjklfichjaapoaa
open Go.RowKit Go.Fd Go.Sort
set_option maxHeartbeats 1000000 in
set_option maxRecDepth 100000 in
theorem mkElem_any (n i : Nat) (hn : n < 2) (hi : i < 64) (w : World) : Calls Try.prog 21 #[.int .i64 (n : Int), .int .i64 (i : Int)] w fun q w' => q = .returned (.tuple #[.int .i64 ((elemM n i).1 : Nat), .int .i64 ((elemM n i).2.1 : Nat), .bool (elemM n i).2.2]) ∧ w' = w := by
  have t0 : ((n : Int) == 0) = decide (n = 0) := by by_cases h : n = 0 <;> simp [h]
  by_cases h0 : n = 0 ∧ 62 ≤ i
  · have HR := Lib.hid (show elemM n i = (0, 0, false) by unfold elemM; rw [if_pos h0])
    rw [decide_eq_true h0.1] at t0
    have d1 : decide ((i : Int) ≥ 62) = true := by simp; omega
    go_enter Try.func21, Try.ntmps21
    go_wp2
    go_ret3
    rw [HR.out]
    exact ⟨rfl, rfl⟩
  · obtain ⟨j, hj⟩ : ∃ j, j = 63 - i := ⟨_, rfl⟩
    obtain ⟨x, hx⟩ : ∃ x, x = n * 64 + j := ⟨_, rfl⟩
    have hx0 : x ≠ 0 := by omega
    have hx1 : x < 128 := by omega
    obtain ⟨L, hL⟩ : ∃ L, L = Nat.log2 x := ⟨_, rfl⟩
    have hL7 : L < 7 := by rw [hL]; exact log_le hx1 hx0
    obtain ⟨E, hE⟩ : ∃ E, E = 2 ^ L := ⟨_, rfl⟩
    have hE1 : 1 ≤ E := by rw [hE]; exact Nat.two_pow_pos L
    have hE2 : E ≤ 64 := by rw [hE]; exact Nat.pow_le_pow_right (n := 2) (by decide) (show L ≤ 6 by omega)
    have e1 := not63 hi
    rw [← hj] at e1
    have e2 := or64 hn (show j < 64 by omega)
    rw [← hx] at e2
    have e3 : IntKind.u64.wrap (x : Int) = (x : Int) := by rw [IntKind.wrap_u64]; omega
    have HLN := Lib.hid (fun w => uLen_any x w (by omega))
    rw [bits_log hx0, ← hL, show ((L + 1 : Nat) : Int) = (L : Int) + 1 by omega] at HLN
    have e4 : (L : Int) + 1 - 1 = (L : Int) := by omega
    have e5 : min L 64 = L := Nat.min_eq_left (by omega)
    have e6 : IntKind.i64.wrap ((2 : Int) ^ L) = (E : Int) := by
      rw [show (2 : Int) ^ L = ((2 ^ L : Nat) : Int) by push_cast; rfl, ← hE, IntKind.wrap_i64]
      omega
    obtain ⟨m, hm⟩ : ∃ m, m = i % E := ⟨_, rfl⟩
    have hmE : m < E := by rw [hm]; exact Nat.mod_lt _ hE1
    have e7 := and64 hL7 hi
    rw [← hE, ← hm] at e7
    have HR := Lib.hid (show elemM n i = (E, m + 1, decide (2 ≤ E) && decide (m + 1 < E)) by
      unfold elemM
      rw [if_neg h0, ← hj, ← hx, ← hL, ← hE]
      simp only []
      rw [← hm])
    have b1 : decide ((E : Int) ≥ 2) = decide (2 ≤ E) := decide_eq_decide.2 (by omega)
    have b2 : decide ((m : Int) + 1 < (E : Int)) = decide (m + 1 < E) := decide_eq_decide.2 (by omega)
    clear hj hx hL hE hm
    rw [HR.out]
    rw [show ((m + 1 : Nat) : Int) = (m : Int) + 1 by omega]
    by_cases hn0 : n = 0
    · rw [decide_eq_true hn0] at t0
      have d1 : decide ((i : Int) ≥ 62) = false := by simp; omega
      clear hn0
      by_cases hE3 : 2 ≤ E
      · have d2 : decide (2 ≤ E) = true := decide_eq_true hE3
        rw [d2] at b1 ⊢
        go_enter Try.func21, Try.ntmps21
        go_wp2_with fail
        refine (HLN.out _).mono ?_
        rintro e w' ⟨rfl, rfl⟩
        go_wp2
        go_ret3
        exact ⟨by simp, rfl⟩
      · have d2 : decide (2 ≤ E) = false := decide_eq_false hE3
        rw [d2] at b1 ⊢
        go_enter Try.func21, Try.ntmps21
        go_wp2_with fail
        refine (HLN.out _).mono ?_
        rintro e w' ⟨rfl, rfl⟩
        go_wp2
        go_ret3
        exact ⟨by simp, rfl⟩
    · rw [decide_eq_false hn0] at t0
      clear hn0
      by_cases hE3 : 2 ≤ E
      · have d2 : decide (2 ≤ E) = true := decide_eq_true hE3
        rw [d2] at b1 ⊢
        go_enter Try.func21, Try.ntmps21
        go_wp2_with fail
        refine (HLN.out _).mono ?_
        rintro e w' ⟨rfl, rfl⟩
        go_wp2
        go_ret3
        exact ⟨by simp, rfl⟩
      · have d2 : decide (2 ≤ E) = false := decide_eq_false hE3
        rw [d2] at b1 ⊢
        go_enter Try.func21, Try.ntmps21
        go_wp2_with fail
        refine (HLN.out _).mono ?_
        rintro e w' ⟨rfl, rfl⟩
        go_wp2
        go_ret3
        exact ⟨by simp, rfl⟩
end Go.Proofs.Ytjklfichjaapoaa
namespace Go.Fd
/-- Are the fields in range? -/
def inRg (n r i : Int) : Prop := 0 ≤ n ∧ n ≤ 1 ∧ 0 ≤ r ∧ r ≤ 63 ∧ 0 ≤ i ∧ i ≤ 63
instance (n r i : Int) : Decidable (inRg n r i) := by unfold inRg; infer_instance
def atI (n r i : Int) : Nat × Bool := if inRg n r i then atM n.toNat r.toNat i.toNat else (0, false)
end Go.Fd
namespace Go.Proofs.Ytjklfichjaapoaa
open Go.RowKit Go.Fd Go.Sort
set_option maxHeartbeats 1000000 in
set_option maxRecDepth 100000 in
theorem mkAt_dr (n r i : Nat) (hn : n < 2) (hr : r < 64) (hi : i < 64) (w : World) : Calls Try.prog 10 #[.int .i64 (n : Int), .int .i64 (r : Int), .int .i64 (i : Int)] w fun q w' => q = .returned (.tuple #[.int .u64 ((atM n r i).1 : Nat), .bool (atM n r i).2]) ∧ ∃ d, w' = w.drewN d := by
  have HE := Lib.hid (mkElem_any n i hn hi)
  have HY := Lib.hid (elem_yes hn hi)
  have HA := Lib.hid (show atM n r i = if ((elemM n i).2.2 && decide (r < (elemM n i).1)) = true then (maskM (elemM n i).1 (elemM n i).2.1 r, true) else (0, false) from rfl)
  generalize elemM n i = el at *
  obtain ⟨e, c, ok⟩ := el
  have z1 : decide ((n : Int) > 1) = false := by simp; omega
  have z2 : decide ((r : Int) > 63) = false := by simp; omega
  have z3 : decide ((i : Int) > 63) = false := by simp; omega
  have z4 : decide ((n : Int) < 0) = false := by simp
  have z5 : decide ((r : Int) < 0) = false := by simp
  have z6 : decide ((i : Int) < 0) = false := by simp
  cases ok with
  | false =>
    have HR := Lib.hid (show atM n r i = (0, false) by rw [HA.out]; rfl)
    go_enter Try.func10, Try.ntmps10
    go_wp2_with fail
    refine (HE.out _).mono ?_
    rintro q w1 ⟨rfl, rfl⟩
    go_wp2
    go_ret2
    rw [HR.out]
    exact ⟨rfl, 0, rfl⟩
  | true =>
    obtain ⟨h1, h2, h3, -, -, -⟩ := HY.out rfl
    simp only at h1 h2 h3
    have hle := (es_le h1).2
    have hge := (es_le h1).1
    clear h1
    by_cases hre : r < e
    · have HR := Lib.hid (show atM n r i = (maskM e c r, true) by rw [HA.out, if_pos (by simp [hre])])
      have d1 : decide ((r : Int) ≥ (e : Int)) = false := by simp; omega
      have H1 := Lib.hid (mkOnes_any c (by omega))
      have H2 := Lib.hid (mkTurned_any (onesM c) e r (ones_lt c) hle hre)
      have H3 := Lib.hid (mkSpread_any (turnM (onesM c) e r) e (turnM_lt _ _ _) (by omega) hle)
      go_enter Try.func10, Try.ntmps10
      go_wp2_with fail
      refine (HE.out _).mono ?_
      rintro q w1 ⟨rfl, rfl⟩
      go_wp2_with fail
      refine (H1.out _).mono ?_
      rintro q w1 ⟨rfl, rfl⟩
      go_wp2_with fail
      refine (H2.out _).mono ?_
      rintro q w1 ⟨rfl, nq, rfl⟩
      go_wp2_with fail
      refine (H3.out _).mono ?_
      rintro q w1 ⟨rfl, rfl⟩
      go_wp2
      go_ret2
      rw [HR.out]
      exact ⟨rfl, nq, rfl⟩
    · have HR := Lib.hid (show atM n r i = (0, false) by rw [HA.out, if_neg (by simp [hre])])
      have d1 : decide ((r : Int) ≥ (e : Int)) = true := by simp; omega
      go_enter Try.func10, Try.ntmps10
      go_wp2_with fail
      refine (HE.out _).mono ?_
      rintro q w1 ⟨rfl, rfl⟩
      go_wp2
      go_ret2
      rw [HR.out]
      exact ⟨rfl, 0, rfl⟩
theorem mkAt_in (n r i : Nat) (hn : n < 2) (hr : r < 64) (hi : i < 64) (w : World) : Calls Try.prog 10 #[.int .i64 (n : Int), .int .i64 (r : Int), .int .i64 (i : Int)] w fun q w' => q = .returned (.tuple #[.int .u64 ((atM n r i).1 : Nat), .bool (atM n r i).2]) ∧ Below w.heap.size w w' :=
  (mkAt_dr n r i hn hr hi w).mono fun _q _w' ⟨h1, d, h2⟩ => ⟨h1, h2 ▸ below_drewN (Below.refl _ _) d⟩
set_option maxHeartbeats 1000000 in
set_option maxRecDepth 100000 in
theorem mkAt_any (n r i : Int) (w : World) : Calls Try.prog 10 #[.int .i64 n, .int .i64 r, .int .i64 i] w fun q w' => q = .returned (.tuple #[.int .u64 ((atI n r i).1 : Nat), .bool (atI n r i).2]) ∧ Below w.heap.size w w' := by
  by_cases h : inRg n r i
  · have hk := h
    obtain ⟨h1, h2, h3, h4, h5, h6⟩ := h
    obtain ⟨n, rfl⟩ := Int.eq_ofNat_of_zero_le h1
    obtain ⟨r, rfl⟩ := Int.eq_ofNat_of_zero_le h3
    obtain ⟨i, rfl⟩ := Int.eq_ofNat_of_zero_le h5
    have := mkAt_in n r i (by omega) (by omega) (by omega) w
    unfold atI
    rw [if_pos hk]
    exact this
  · have HR := Lib.hid (show atI n r i = (0, false) by unfold atI; rw [if_neg h])
    rw [HR.out]
    unfold inRg at h
    by_cases c0 : n < 0
    · have d0 : decide (n < 0) = true := decide_eq_true c0
      go_enter Try.func10, Try.ntmps10
      go_wp2
      go_ret2
      exact ⟨rfl, Below.refl _ _⟩
    have d0 : decide (n < 0) = false := decide_eq_false c0
    by_cases c1 : n > 1
    · have d1 : decide (n > 1) = true := decide_eq_true c1
      go_enter Try.func10, Try.ntmps10
      go_wp2
      go_ret2
      exact ⟨rfl, Below.refl _ _⟩
    have d1 : decide (n > 1) = false := decide_eq_false c1
    by_cases c2 : r < 0
    · have d2 : decide (r < 0) = true := decide_eq_true c2
      go_enter Try.func10, Try.ntmps10
      go_wp2
      go_ret2
      exact ⟨rfl, Below.refl _ _⟩
    have d2 : decide (r < 0) = false := decide_eq_false c2
    by_cases c3 : r > 63
    · have d3 : decide (r > 63) = true := decide_eq_true c3
      go_enter Try.func10, Try.ntmps10
      go_wp2
      go_ret2
      exact ⟨rfl, Below.refl _ _⟩
    have d3 : decide (r > 63) = false := decide_eq_false c3
    by_cases c4 : i < 0
    · have d4 : decide (i < 0) = true := decide_eq_true c4
      go_enter Try.func10, Try.ntmps10
      go_wp2
      go_ret2
      exact ⟨rfl, Below.refl _ _⟩
    have d4 : decide (i < 0) = false := decide_eq_false c4
    have c5 : i > 63 := by omega
    have d5 : decide (i > 63) = true := decide_eq_true c5
    go_enter Try.func10, Try.ntmps10
    go_wp2
    go_ret2
    exact ⟨rfl, Below.refl _ _⟩
end Go.Proofs.Ytjklfichjaapoaa
namespace Go.Fd
open Go.RowKit
theorem found_c {m r : Nat} (h : m < 18446744073709551616) (h0 : ¬ (m = 0 ∨ m = 18446744073709551615)) (hr : r < perM 6 m 2) (ht : turnM (onesM (cntM (Nat.land m (onesM (perM 6 m 2))))) (perM 6 m 2) r = Nat.land m (onesM (perM 6 m 2))) :
    1 ≤ cntM (Nat.land m (onesM (perM 6 m 2))) ∧ cntM (Nat.land m (onesM (perM 6 m 2))) < perM 6 m 2 := by
  obtain ⟨he, hp⟩ := per_cases m
  generalize perM 6 m 2 = e at *
  have hm : m = maskM e (cntM (Nat.land m (onesM e))) r := by
    unfold maskM
    rw [ht]
    by_cases h64 : e < 64
    · exact (hp h64).symm
    · obtain rfl : e = 64 := by have := (es_le he).2; omega
      rw [land_full h]
      rfl
  have hle := (es_le he).2
  constructor
  · rcases Nat.eq_zero_or_pos (cntM (Nat.land m (onesM e))) with hz | hz
    · rw [hz] at hm
      have := allB_spec (allB_spec zero_ones e (by omega)) r (by omega)
      rw [Nat.beq_eq] at this
      exact absurd (.inl (hm.trans this)) h0
    · exact hz
  · rcases Nat.lt_or_ge (cntM (Nat.land m (onesM e))) e with hz | hz
    · exact hz
    · have h1 := cnt_le (Nat.land m (onesM e))
      obtain ⟨c, hc⟩ : ∃ c, cntM (Nat.land m (onesM e)) = e + c := ⟨_, (Nat.add_sub_cancel' hz).symm⟩
      rw [hc] at hm h1
      have := allB_spec (allB_spec (full_all e he) c (by omega)) r (by omega)
      rw [Nat.beq_eq] at this
      exact absurd (.inr (hm.trans this)) h0
def chk_im (e : Nat) : Bool := allB e fun c => decide (bits .or .i64 (bits .and .i64 (bits .xor .i64 (-1) (2 * (e : Int) - 1)) 63) (c : Int) = ((64 - 2 * e + c : Nat) : Int))
theorem im_all : ∀ e ∈ Es, (Nat.beq e 64 || chk_im e) = true := es_all (by kernel_rfl) (by kernel_rfl) (by kernel_rfl) (by kernel_rfl) (by kernel_rfl) (by kernel_rfl)
theorem im_eq {e c : Nat} (he : e ∈ Es) (h : e ≠ 64) (hc : c < e) : bits .or .i64 (bits .and .i64 (bits .xor .i64 (-1) (2 * (e : Int) - 1)) 63) (c : Int) = ((64 - 2 * e + c : Nat) : Int) := by
  have := im_all e he
  rw [Bool.or_eq_true, Nat.beq_eq] at this
  rcases this with h1 | h1
  · exact absurd h1 h
  · exact of_decide_eq_true (allB_spec h1 c hc)
theorem and127 {s : Nat} (h : s < 18446744073709551616) : bits .and .i64 (wrap64 (s : Int)) 127 = ((Nat.land s 127 : Nat) : Int) := by
  have hx : Nat.land s 127 ≤ 127 := Nat.and_le_right
  have h1 : (BitVec.ofInt 64 (wrap64 (s : Int))).toNat = s := by
    rw [BitVec.toNat_ofInt]
    unfold wrap64
    omega
  have h2 : (BitVec.ofInt 64 (127 : Int)).toNat = 127 := by decide
  show IntKind.i64.wrap ((BitVec.ofInt 64 (wrap64 (s : Int)) &&& BitVec.ofInt 64 (127 : Int)).toNat : Int) = _
  rw [BitVec.toNat_and, h1, h2, IntKind.wrap_i64]
  have : s &&& 127 = Nat.land s 127 := rfl
  rw [this]
  omega
def resM (o : Option Nat) (e c : Nat) : Fld := match o with
  | some r => fldM e c r
  | none => noFld
theorem of_res {m : Nat} (h0 : ¬ (m = 0 ∨ m = 18446744073709551615)) : ofM m = resM (findM (cntM (Nat.land m (onesM (perM 6 m 2)))) (perM 6 m 2) (Nat.land m (onesM (perM 6 m 2))) (perM 6 m 2) 0) (perM 6 m 2) (cntM (Nat.land m (onesM (perM 6 m 2)))) := by
  unfold ofM
  rw [if_neg h0]
  cases findM (cntM (Nat.land m (onesM (perM 6 m 2)))) (perM 6 m 2) (Nat.land m (onesM (perM 6 m 2))) (perM 6 m 2) 0 <;> rfl
theorem find_step (c e x f r : Nat) : findM c e x (f + 1) r = if turnM (onesM c) e r = x then some r else findM c e x f (r + 1) := rfl
end Go.Fd
namespace Go.Proofs.Ytjklfichjaapoaa
open Go.RowKit Go.Fd Go.Sort
set_option maxHeartbeats 1000000 in
set_option maxRecDepth 100000 in
theorem mkCount_any (x : Nat) (hx : x < 18446744073709551616) (w : World) : Calls Try.prog 17 #[.int .u64 (x : Int)] w fun q w' => q = .returned (.int .i64 ((cntM x : Nat) : Int)) ∧ w' = w := by
  obtain ⟨a1, ha1⟩ : ∃ a, a = x / 2 := ⟨_, rfl⟩
  obtain ⟨p1, hp1⟩ : ∃ a, a = Nat.land a1 6148914691236517205 := ⟨_, rfl⟩
  obtain ⟨q1, hq1⟩ : ∃ a, a = Nat.land x 6148914691236517205 := ⟨_, rfl⟩
  obtain ⟨s1, hs1⟩ : ∃ a, a = p1 + q1 := ⟨_, rfl⟩
  obtain ⟨a2, ha2⟩ : ∃ a, a = s1 / 4 := ⟨_, rfl⟩
  obtain ⟨p2, hp2⟩ : ∃ a, a = Nat.land a2 3689348814741910323 := ⟨_, rfl⟩
  obtain ⟨q2, hq2⟩ : ∃ a, a = Nat.land s1 3689348814741910323 := ⟨_, rfl⟩
  obtain ⟨s2, hs2⟩ : ∃ a, a = p2 + q2 := ⟨_, rfl⟩
  obtain ⟨a3, ha3⟩ : ∃ a, a = s2 / 16 := ⟨_, rfl⟩
  obtain ⟨b3, hb3⟩ : ∃ a, a = (a3 + s2) % 18446744073709551616 := ⟨_, rfl⟩
  obtain ⟨s3, hs3⟩ : ∃ a, a = Nat.land b3 1085102592571150095 := ⟨_, rfl⟩
  obtain ⟨a4, ha4⟩ : ∃ a, a = s3 / 256 := ⟨_, rfl⟩
  obtain ⟨s4, hs4⟩ : ∃ a, a = (s3 + a4) % 18446744073709551616 := ⟨_, rfl⟩
  obtain ⟨a5, ha5⟩ : ∃ a, a = s4 / 65536 := ⟨_, rfl⟩
  obtain ⟨s5, hs5⟩ : ∃ a, a = (s4 + a5) % 18446744073709551616 := ⟨_, rfl⟩
  obtain ⟨a6, ha6⟩ : ∃ a, a = s5 / 4294967296 := ⟨_, rfl⟩
  obtain ⟨s6, hs6⟩ : ∃ a, a = (s5 + a6) % 18446744073709551616 := ⟨_, rfl⟩
  obtain ⟨v, hv⟩ : ∃ a, a = Nat.land s6 127 := ⟨_, rfl⟩
  have HR := Lib.hid (show cntM x = v by rw [hv, hs6, ha6, hs5, ha5, hs4, ha4, hs3, hb3, ha3, hs2, hq2, hp2, ha2, hs1, hq1, hp1, ha1]; rfl)
  have lp1 : p1 ≤ 6148914691236517205 := by rw [hp1]; exact Nat.and_le_right
  have lq1 : q1 ≤ 6148914691236517205 := by rw [hq1]; exact Nat.and_le_right
  have lp2 : p2 ≤ 3689348814741910323 := by rw [hp2]; exact Nat.and_le_right
  have lq2 : q2 ≤ 3689348814741910323 := by rw [hq2]; exact Nat.and_le_right
  have e1 : (x : Int) / 2 = (a1 : Int) := by omega
  have e2 : bits .and .u64 (a1 : Int) 6148914691236517205 = (p1 : Int) := by rw [hp1]; exact band64 (b := 6148914691236517205) (by omega) (by decide)
  have e3 : bits .and .u64 (x : Int) 6148914691236517205 = (q1 : Int) := by rw [hq1]; exact band64 (b := 6148914691236517205) hx (by decide)
  have e4 : (p1 : Int) + (q1 : Int) = (s1 : Int) := by omega
  have e4' : IntKind.u64.wrap ((p1 : Int) + (q1 : Int)) = (s1 : Int) := by rw [IntKind.wrap_u64]; omega
  have e4'' : IntKind.u64.wrap (s1 : Int) = (s1 : Int) := by rw [IntKind.wrap_u64]; omega
  have e5 : (s1 : Int) / 4 = (a2 : Int) := by omega
  have e6 : bits .and .u64 (a2 : Int) 3689348814741910323 = (p2 : Int) := by rw [hp2]; exact band64 (b := 3689348814741910323) (by omega) (by decide)
  have e7 : bits .and .u64 (s1 : Int) 3689348814741910323 = (q2 : Int) := by rw [hq2]; exact band64 (b := 3689348814741910323) (by omega) (by decide)
  have e8 : (p2 : Int) + (q2 : Int) = (s2 : Int) := by omega
  have e8' : IntKind.u64.wrap ((p2 : Int) + (q2 : Int)) = (s2 : Int) := by rw [IntKind.wrap_u64]; omega
  have e8'' : IntKind.u64.wrap (s2 : Int) = (s2 : Int) := by rw [IntKind.wrap_u64]; omega
  have e9 : (s2 : Int) / 16 = (a3 : Int) := by omega
  have e10 : IntKind.u64.wrap ((a3 : Int) + (s2 : Int)) = (b3 : Int) := by rw [IntKind.wrap_u64]; omega
  have e11 : bits .and .u64 (b3 : Int) 1085102592571150095 = (s3 : Int) := by rw [hs3]; exact band64 (b := 1085102592571150095) (by omega) (by decide)
  have e12 : (s3 : Int) / 256 = (a4 : Int) := by omega
  have e13 : IntKind.u64.wrap ((s3 : Int) + (a4 : Int)) = (s4 : Int) := by rw [IntKind.wrap_u64]; omega
  have e14 : (s4 : Int) / 65536 = (a5 : Int) := by omega
  have e15 : IntKind.u64.wrap ((s4 : Int) + (a5 : Int)) = (s5 : Int) := by rw [IntKind.wrap_u64]; omega
  have e16 : (s5 : Int) / 4294967296 = (a6 : Int) := by omega
  have e17 : IntKind.u64.wrap ((s5 : Int) + (a6 : Int)) = (s6 : Int) := by rw [IntKind.wrap_u64]; omega
  have ls6 : s6 < 18446744073709551616 := by rw [hs6]; exact Nat.mod_lt _ (by decide)
  have e18 : bits .and .i64 (wrap64 (s6 : Int)) 127 = (v : Int) := by rw [hv]; exact and127 ls6
  clear ha1 hp1 hq1 hs1 ha2 hp2 hq2 hs2 ha3 hb3 hs3 ha4 hs4 ha5 hs5 ha6 hs6 hv lp1 lq1 lp2 lq2 ls6 hx
  go_enter Try.func17, Try.ntmps17
  go_wp2
  go_ret
  rw [HR.out]
  exact ⟨rfl, rfl⟩
theorem results_tmp4 {fn : Func} {t u v x : Tmp} (h : fn.results = #[.tmp t, .tmp u, .tmp v, .tmp x]) (tmps : Array Value) (P : Program) (w : World) :
    (results fn tmps).run P w = .ok (.tuple #[tmps.getD t undef, tmps.getD u undef, tmps.getD v undef, tmps.getD x undef]) w := by
  simp [results, h]
theorem ret4 {a b c d a' b' c' d' : Value} (h1 : a = a') (h2 : b = b') (h3 : c = c') (h4 : d = d') : Ending.returned (.tuple #[a, b, c, d]) = .returned (.tuple #[a', b', c', d']) := by rw [h1, h2, h3, h4]
set_option maxHeartbeats 4000000 in
set_option maxRecDepth 100000 in
theorem mkOf_any (m : Nat) (hm : m < 18446744073709551616) (w : World) : Calls Try.prog 8 #[.int .u64 (m : Int)] w fun q w' => q = .returned (.tuple #[.int .i64 ((ofM m).1 : Nat), .int .i64 ((ofM m).2.1 : Nat), .int .i64 ((ofM m).2.2.1 : Nat), .bool (ofM m).2.2.2]) ∧ Below w.heap.size w w' := by
  by_cases h0 : m = 0 ∨ m = 18446744073709551615
  · have HR := Lib.hid (show ofM m = noFld by unfold ofM; rw [if_pos h0])
    rw [HR.out]
    clear HR
    rcases h0 with rfl | rfl
    · go_enter Try.func8, Try.ntmps8
      go_wp2
      (try simp only [Exit.inBlock, Exit.then])
      refine bodyPost_ret (results_tmp4 rfl _ _ _) rfl ?_
      exact ⟨rfl, Below.refl _ _⟩
    · go_enter Try.func8, Try.ntmps8
      go_wp2
      (try simp only [Exit.inBlock, Exit.then])
      refine bodyPost_ret (results_tmp4 rfl _ _ _) rfl ?_
      exact ⟨rfl, Below.refl _ _⟩
  · have z1 : ((m : Int) == 0) = false := by simp; omega
    have z2 : ((m : Int) == 18446744073709551615) = false := by simp; omega
    have HM := Lib.hid hm
    have H0 := Lib.hid h0
    have HOF := Lib.hid (of_res h0)
    have HFC := Lib.hid (fun r => found_c (r := r) hm h0)
    have HPE := Lib.hid (per_cases m).1
    clear h0 hm
    go_enter Try.func8, Try.ntmps8
    go_wp2
    go_loopw [6] (fun ve wr => ∃ k f : Nat, ve = .int .i64 (k : Int) ∧ 2 ≤ k ∧ k ≤ 64 ∧ Hid (64 ≤ k * 2 ^ f) ∧ Hid (perM f m k = perM 6 m 2) ∧ Hid (k ∈ Es) ∧ Hid (Below w.heap.size w wr)) (fun ve _ => 64 - (intOf ve).toNat)
    case atStart => exact ⟨2, 6, rfl, by omega, by omega, Lib.hid (by decide), Lib.hid rfl, Lib.hid (by decide), Lib.hid (Below.refl _ _)⟩
    case round =>
      obtain ⟨k, f, rfl, hk1, hk2, HF, HP, HK, HB⟩ := hrel
      obtain ⟨o, ho⟩ : ∃ o, o = onesM k := ⟨_, rfl⟩
      obtain ⟨x, hx⟩ : ∃ x, x = Nat.land m o := ⟨_, rfl⟩
      have lo : o < 18446744073709551616 := by rw [ho]; exact ones_lt k
      have HXL := Lib.hid (show x < 18446744073709551616 by rw [hx]; exact and_lt HM.out)
      have ex : bits .and .u64 (m : Int) (o : Int) = (x : Int) := by rw [hx]; exact band64 HM.out lo
      have H1 := Lib.hid (mkOnes_any k (by omega))
      rw [← ho] at H1
      have HX := Lib.hid (show x = Nat.land m (onesM k) by rw [hx, ho])
      have HOK := Lib.hid ho.symm
      clear ho hx lo
      by_cases hk : k < 64 ∧ sprM 6 x k ≠ m
      · obtain ⟨hk, hne⟩ := hk
        have d1 : decide (k < 64) = true := decide_eq_true hk
        have d2 : decide ((k : Int) < 64) = true := by simp; omega
        obtain ⟨f, rfl⟩ : ∃ f', f = f' + 1 := by
          cases f with
          | zero => exact absurd HF.out (by simp; omega)
          | succ f => exact ⟨f, rfl⟩
        have HP2 := Lib.hid (show perM f m (k * 2) = perM 6 m 2 by
          rw [← HP.out, perM, if_pos hk, if_neg (by rw [← HX.out]; exact hne)])
        have HF2 := Lib.hid (show 64 ≤ k * 2 * 2 ^ f by have := HF.out; rw [Nat.pow_succ, Nat.mul_comm (2 ^ f), ← Nat.mul_assoc] at this; exact this)
        have HK2 := Lib.hid (show k * 2 ∈ Es from es_all (p := fun e => e < 64 → e * 2 ∈ Es) (by decide) (by decide) (by decide) (by decide) (by decide) (by decide) k HK.out hk)
        obtain ⟨s, hs⟩ : ∃ s, s = sprM 6 x k := ⟨_, rfl⟩
        have H2 := Lib.hid (mkSpread_any x k HXL.out (by omega) hk2)
        rw [← hs] at H2 hne
        have d3 : ((s : Int) != (m : Int)) = true := by simp; omega
        clear hs hne
        go_wp2_with fail
        refine (H1.out _).mono ?_
        rintro q w1 ⟨rfl, rfl⟩
        go_wp2_with fail
        refine (H2.out _).mono ?_
        rintro q w1 ⟨rfl, rfl⟩
        go_wp2
        go_roundw
        case rel => exact ⟨k * 2, f, int_eq (by omega), by omega, (es_le HK2.out).2, HF2, HP2, HK2, HB⟩
        case measure => simp [intOf] <;> omega
      · have HKE := Lib.hid (show k = perM 6 m 2 by
          rw [← HP.out]
          cases f with
          | zero => rfl
          | succ f =>
            rw [perM]
            by_cases h64 : k < 64
            · rw [if_pos h64, if_pos]
              rw [← HX.out]
              by_cases he : sprM 6 x k = m
              · exact he
              · exact absurd ⟨h64, he⟩ hk
            · rw [if_neg h64])
        obtain ⟨c, hc⟩ : ∃ c, c = cntM x := ⟨_, rfl⟩
        have H3 := Lib.hid (mkCount_any x HXL.out)
        rw [← hc] at H3
        have hcl : c ≤ 127 := by rw [hc]; exact cnt_le x
        have HC := Lib.hid hc
        rw [← HKE.out, ← HX.out, ← hc] at HOF HFC
        clear hc
        by_cases hk64 : k < 64
        · have d1 : decide (k < 64) = true := decide_eq_true hk64
          have d2 : decide ((k : Int) < 64) = true := by simp; omega
          have hse : sprM 6 x k = m := by
            by_cases he : sprM 6 x k = m
            · exact he
            · exact absurd ⟨hk64, he⟩ hk
          have H2 := Lib.hid (mkSpread_any x k HXL.out (by omega) hk2)
          rw [hse] at H2
          have d3 : ((m : Int) != (m : Int)) = false := by simp
          clear hse hk
          have HKES := HK
          go_wp2_with fail
          refine (H1.out _).mono ?_
          rintro q w1 ⟨rfl, rfl⟩
          go_wp2_with fail
          refine (H2.out _).mono ?_
          rintro q w1 ⟨rfl, rfl⟩
          have HBZ := HB
          have H1W := Lib.hid (mkOnes_any k (by omega))
          rw [HOK.out] at H1W
          obtain ⟨o2, ho2⟩ : ∃ o2, o2 = onesM c := ⟨_, rfl⟩
          have H4 := Lib.hid (mkOnes_any c (by omega))
          rw [← ho2] at H4
          have lo2 : o2 < 18446744073709551616 := by rw [ho2]; exact ones_lt c
          have HO2 := Lib.hid ho2
          have H5 := Lib.hid (fun r (hr : r < k) => mkTurned_any o2 k r lo2 hk2 hr)
          have HXV := HX
          clear ho2 lo2
          go_wp2_with fail
          refine (H1W.out _).mono ?_
          rintro q w1 ⟨rfl, rfl⟩
          go_wp2_with fail
          refine (H3.out _).mono ?_
          rintro q w1 ⟨rfl, rfl⟩
          go_wp2
          go_loopw [37, 9] (fun vr v9 wx => ∃ r : Nat, vr = .int .i64 (r : Int) ∧ r ≤ k ∧ Hid (findM c k x (k - r) r = findM c k x k 0) ∧ Hid (Below w.heap.size w wx)) (fun vr _ _ => k - (intOf vr).toNat)
          case atStart => exact ⟨0, rfl, Nat.zero_le _, Lib.hid rfl, HBZ⟩
          case round =>
            obtain ⟨r, rfl, hr, HFI, HB⟩ := hrel
            by_cases hrk : r < k
            · have d5 : decide (r < k) = true := decide_eq_true hrk
              have d6 : decide ((r : Int) < (k : Int)) = true := by simp; omega
              have HT := Lib.hid (H5.out r hrk)
              have HTL := Lib.hid (turnM_lt o2 k r)
              have HTV := Lib.hid (show turnM (onesM c) k r = turnM o2 k r by rw [HO2.out])
              generalize turnM o2 k r = tv at *
              have HFI2 := Lib.hid (show findM c k x k 0 = if tv = x then some r else findM c k x (k - (r + 1)) (r + 1) by
                rw [← HFI.out, show k - r = (k - (r + 1)) + 1 by omega, find_step, HTV.out])
              by_cases htx : tv = x
              · have d7 : ((tv : Int) != (x : Int)) = false := by simp; omega
                have HRES := Lib.hid (show ofM m = fldM k c r by rw [HOF.out, HFI2.out, if_pos htx]; rfl)
                have HCB := Lib.hid (HFC.out r hrk (by rw [HTV.out]; exact htx))
                have hc1 := HCB.out.1
                have hc2 := HCB.out.2
                by_cases h64 : k = 64
                · have d8 : ((k : Int) == 64) = true := by simp; omega
                  have HV := Lib.hid (show fldM k c r = (1, r, c - 1, true) by unfold fldM; rw [if_pos h64])
                  clear h64
                  go_wp2_with fail
                  refine (H4.out _).mono ?_
                  rintro q w1 ⟨rfl, rfl⟩
                  go_wp2_with fail
                  refine (HT.out _).mono ?_
                  rintro q w1 ⟨rfl, nq2, rfl⟩
                  go_wp2
                  (try simp only [Exit.inBlock, Exit.then])
                  refine bodyPost_ret (results_tmp4 rfl _ _ _) rfl ?_
                  rw [HRES.out, HV.out]
                  exact ⟨ret4 rfl rfl (int_eq (by show (c : Int) - 1 = ((c - 1 : Nat) : Int); omega)) rfl, HB.out.trans (below_drewN (Below.refl _ _) nq2 |>.mono HB.out.size)⟩
                · have d8 : ((k : Int) == 64) = false := by simp; omega
                  have HV := Lib.hid (show fldM k c r = (0, r, 64 - 2 * k + c - 1, true) by unfold fldM; rw [if_neg h64])
                  have eim := im_eq HKES.out h64 hc2
                  clear h64
                  go_wp2_with fail
                  refine (H4.out _).mono ?_
                  rintro q w1 ⟨rfl, rfl⟩
                  go_wp2_with fail
                  refine (HT.out _).mono ?_
                  rintro q w1 ⟨rfl, nq2, rfl⟩
                  go_wp2
                  (try simp only [Exit.inBlock, Exit.then])
                  refine bodyPost_ret (results_tmp4 rfl _ _ _) rfl ?_
                  rw [HRES.out, HV.out]
                  exact ⟨ret4 rfl rfl (int_eq (by show wrap64 (((64 - 2 * k : Nat) : Int) + (c : Int) - 1) = ((64 - 2 * k + c - 1 : Nat) : Int); unfold wrap64; omega)) rfl, HB.out.trans (below_drewN (Below.refl _ _) nq2 |>.mono HB.out.size)⟩
              · have d7 : ((tv : Int) != (x : Int)) = true := by simp; omega
                go_wp2_with fail
                refine (H4.out _).mono ?_
                rintro q w1 ⟨rfl, rfl⟩
                go_wp2_with fail
                refine (HT.out _).mono ?_
                rintro q w1 ⟨rfl, nq2, rfl⟩
                go_wp2
                go_roundw
                case rel => exact ⟨r + 1, by go_num, by omega, Lib.hid (by rw [HFI2.out, if_neg htx]), Lib.hid (HB.out.trans (below_drewN (Below.refl _ _) nq2 |>.mono HB.out.size))⟩
                case measure => simp [intOf] <;> omega
            · obtain rfl : r = k := by omega
              have HRES := Lib.hid (show ofM m = noFld by rw [HOF.out, ← HFI.out, Nat.sub_self]; rfl)
              go_wp2
              (try simp only [Exit.inBlock, Exit.then])
              refine bodyPost_ret (results_tmp4 rfl _ _ _) rfl ?_
              rw [HRES.out]
              exact ⟨rfl, HB.out⟩
        · have d1 : decide (k < 64) = false := decide_eq_false hk64
          have d2 : decide ((k : Int) < 64) = false := by simp; omega
          clear hk
          have HKES := HK
          have HBZ := HB
          have H1W := Lib.hid (mkOnes_any k (by omega))
          rw [HOK.out] at H1W
          obtain ⟨o2, ho2⟩ : ∃ o2, o2 = onesM c := ⟨_, rfl⟩
          have H4 := Lib.hid (mkOnes_any c (by omega))
          rw [← ho2] at H4
          have lo2 : o2 < 18446744073709551616 := by rw [ho2]; exact ones_lt c
          have HO2 := Lib.hid ho2
          have H5 := Lib.hid (fun r (hr : r < k) => mkTurned_any o2 k r lo2 hk2 hr)
          have HXV := HX
          clear ho2 lo2
          go_wp2_with fail
          refine (H1W.out _).mono ?_
          rintro q w1 ⟨rfl, rfl⟩
          go_wp2_with fail
          refine (H3.out _).mono ?_
          rintro q w1 ⟨rfl, rfl⟩
          go_wp2
          go_loopw [37, 9] (fun vr v9 wx => ∃ r : Nat, vr = .int .i64 (r : Int) ∧ r ≤ k ∧ Hid (findM c k x (k - r) r = findM c k x k 0) ∧ Hid (Below w.heap.size w wx)) (fun vr _ _ => k - (intOf vr).toNat)
          case atStart => exact ⟨0, rfl, Nat.zero_le _, Lib.hid rfl, HBZ⟩
          case round =>
            obtain ⟨r, rfl, hr, HFI, HB⟩ := hrel
            by_cases hrk : r < k
            · have d5 : decide (r < k) = true := decide_eq_true hrk
              have d6 : decide ((r : Int) < (k : Int)) = true := by simp; omega
              have HT := Lib.hid (H5.out r hrk)
              have HTL := Lib.hid (turnM_lt o2 k r)
              have HTV := Lib.hid (show turnM (onesM c) k r = turnM o2 k r by rw [HO2.out])
              generalize turnM o2 k r = tv at *
              have HFI2 := Lib.hid (show findM c k x k 0 = if tv = x then some r else findM c k x (k - (r + 1)) (r + 1) by
                rw [← HFI.out, show k - r = (k - (r + 1)) + 1 by omega, find_step, HTV.out])
              by_cases htx : tv = x
              · have d7 : ((tv : Int) != (x : Int)) = false := by simp; omega
                have HRES := Lib.hid (show ofM m = fldM k c r by rw [HOF.out, HFI2.out, if_pos htx]; rfl)
                have HCB := Lib.hid (HFC.out r hrk (by rw [HTV.out]; exact htx))
                have hc1 := HCB.out.1
                have hc2 := HCB.out.2
                by_cases h64 : k = 64
                · have d8 : ((k : Int) == 64) = true := by simp; omega
                  have HV := Lib.hid (show fldM k c r = (1, r, c - 1, true) by unfold fldM; rw [if_pos h64])
                  clear h64
                  go_wp2_with fail
                  refine (H4.out _).mono ?_
                  rintro q w1 ⟨rfl, rfl⟩
                  go_wp2_with fail
                  refine (HT.out _).mono ?_
                  rintro q w1 ⟨rfl, nq2, rfl⟩
                  go_wp2
                  (try simp only [Exit.inBlock, Exit.then])
                  refine bodyPost_ret (results_tmp4 rfl _ _ _) rfl ?_
                  rw [HRES.out, HV.out]
                  exact ⟨ret4 rfl rfl (int_eq (by show (c : Int) - 1 = ((c - 1 : Nat) : Int); omega)) rfl, HB.out.trans (below_drewN (Below.refl _ _) nq2 |>.mono HB.out.size)⟩
                · have d8 : ((k : Int) == 64) = false := by simp; omega
                  have HV := Lib.hid (show fldM k c r = (0, r, 64 - 2 * k + c - 1, true) by unfold fldM; rw [if_neg h64])
                  have eim := im_eq HKES.out h64 hc2
                  clear h64
                  go_wp2_with fail
                  refine (H4.out _).mono ?_
                  rintro q w1 ⟨rfl, rfl⟩
                  go_wp2_with fail
                  refine (HT.out _).mono ?_
                  rintro q w1 ⟨rfl, nq2, rfl⟩
                  go_wp2
                  (try simp only [Exit.inBlock, Exit.then])
                  refine bodyPost_ret (results_tmp4 rfl _ _ _) rfl ?_
                  rw [HRES.out, HV.out]
                  exact ⟨ret4 rfl rfl (int_eq (by show wrap64 (((64 - 2 * k : Nat) : Int) + (c : Int) - 1) = ((64 - 2 * k + c - 1 : Nat) : Int); unfold wrap64; omega)) rfl, HB.out.trans (below_drewN (Below.refl _ _) nq2 |>.mono HB.out.size)⟩
              · have d7 : ((tv : Int) != (x : Int)) = true := by simp; omega
                go_wp2_with fail
                refine (H4.out _).mono ?_
                rintro q w1 ⟨rfl, rfl⟩
                go_wp2_with fail
                refine (HT.out _).mono ?_
                rintro q w1 ⟨rfl, nq2, rfl⟩
                go_wp2
                go_roundw
                case rel => exact ⟨r + 1, by go_num, by omega, Lib.hid (by rw [HFI2.out, if_neg htx]), Lib.hid (HB.out.trans (below_drewN (Below.refl _ _) nq2 |>.mono HB.out.size))⟩
                case measure => simp [intOf] <;> omega
            · obtain rfl : r = k := by omega
              have HRES := Lib.hid (show ofM m = noFld by rw [HOF.out, ← HFI.out, Nat.sub_self]; rfl)
              go_wp2
              (try simp only [Exit.inBlock, Exit.then])
              refine bodyPost_ret (results_tmp4 rfl _ _ _) rfl ?_
              rw [HRES.out]
              exact ⟨rfl, HB.out⟩
end Go.Proofs.Ytjklfichjaapoaa
namespace Go.Proofs.Ytjklfichjaapoaa
open Go.RowKit Go.Fd Go.Sort
section
variable {α : Type} [Inhabited α] (lt : α → α → Bool)
theorem scanS_go (d : Array α) (b i : Nat) (h : i < b) (hl : lt d[i]! d[i - 1]! = false) : scanSorted lt d b i = scanSorted lt d b (i + 1) := by rw [scanSorted, if_pos (by simp [h, hl])]
theorem scanS_end (d : Array α) (b i : Nat) (h : ¬ i < b ∨ lt d[i]! d[i - 1]! = true) : scanSorted lt d b i = i := by
  rw [scanSorted, if_neg]
  rcases h with h | h <;> simp [h]
theorem shD_go (j : Nat) (d : Array α) (h : 1 ≤ j) (hl : lt d[j]! d[j - 1]! = true) : shiftDown lt j d = shiftDown lt (j - 1) (swp d j (j - 1)) := by
  cases j with
  | zero => omega
  | succ k =>
    simp only [Nat.add_sub_cancel] at hl ⊢
    rw [shiftDown, hl]
    rfl
theorem shD_end (j : Nat) (d : Array α) (h : ¬ 1 ≤ j ∨ lt d[j]! d[j - 1]! = false) : shiftDown lt j d = d := by
  cases j with
  | zero => rfl
  | succ k =>
    simp only [Nat.add_sub_cancel] at h
    rw [shiftDown, if_pos]
    rcases h with h | h
    · omega
    · simp [h]
theorem shU_go (b j : Nat) (d : Array α) (h : j < b) (hl : lt d[j]! d[j - 1]! = true) : shiftUp lt b j d = shiftUp lt b (j + 1) (swp d j (j - 1)) := by
  rw [shiftUp, if_pos h, hl]
  rfl
theorem shU_end (b j : Nat) (d : Array α) (h : ¬ j < b ∨ lt d[j]! d[j - 1]! = false) : shiftUp lt b j d = d := by
  rw [shiftUp]
  rcases h with h | h
  · rw [if_neg h]
  · by_cases hb : j < b
    · rw [if_pos hb, h]; rfl
    · rw [if_neg hb]
/-- What one round makes of the row. -/
def shiftBoth (a b i : Nat) (d : Array α) : Array α :=
  let d := swp d i (i - 1)
  let d := if i - a ≥ 2 then shiftDown lt (i - 1) d else d
  if b - i ≥ 2 then shiftUp lt b (i + 1) d else d
theorem part_full (a b s i i' : Nat) (d : Array α) (h : scanSorted lt d b i = i') (hb : i' = b) : partialIns lt a b (s + 1) i d = (d, true) := by
  rw [partialIns_succ, h, if_pos hb]
theorem part_short (a b s i i' : Nat) (d : Array α) (h : scanSorted lt d b i = i') (hb : ¬ i' = b) (hs : b - a < 50) : partialIns lt a b (s + 1) i d = (d, false) := by
  rw [partialIns_succ, h, if_neg hb, if_pos hs]
theorem part_go (a b s i i' : Nat) (d : Array α) (h : scanSorted lt d b i = i') (hb : ¬ i' = b) (hs : ¬ b - a < 50) : partialIns lt a b (s + 1) i d = partialIns lt a b s i' (shiftBoth lt a b i' d) := by
  rw [partialIns_succ, h, if_neg hb, if_neg hs]
  rfl
end
set_option maxHeartbeats 4000000 in
set_option maxRecDepth 100000 in
theorem uPartial_any (t g cap n a b : Nat) (c : Array Value) (d : Array Int) (w : World) (h : UAt t g c w d) (hn : d.size = n) (hab : a < b) (hb : b ≤ n) (hs : n < 1000000000) :
    Calls Try.prog 34 #[.slice (some ⟨g, 0, none⟩) n cap, .int .i64 (a : Int), .int .i64 (b : Int)] w fun e w' => e = .returned (.bool (partialInsertionSort ltInt d a b).2) ∧ UB t g c w n w' (partialInsertionSort ltInt d a b).1 := by
  have H := Lib.hid (UB.mk' h hn)
  clear h hn
  go_enter Try.func34, Try.ntmps34
  go_wp2
  go_loopw [7, 8, 9, 10] (fun vi vs v9 v10 wr => ∃ (i s k : Nat) (dk : Array Int), vi = .int .i64 (i : Int) ∧ vs = .int .i64 (k : Int) ∧ k + s = 5 ∧ a < i ∧ i ≤ b ∧ Hid (UB t g c w n wr dk) ∧ Hid (partialIns ltInt a b s i dk = partialInsertionSort ltInt d a b)) (fun _ vs _ _ _ => 5 - (intOf vs).toNat)
  case atStart => exact ⟨a + 1, 5, 0, d, by go_num, rfl, by omega, by omega, by omega, H, Lib.hid rfl⟩
  case round =>
    obtain ⟨i, s, k, dk, rfl, rfl, hks, hai, hib, HU, HO⟩ := hrel
    by_cases hk5 : k < 5
    · have d1 : decide (k < 5) = true := decide_eq_true hk5
      have d2 : decide ((k : Int) < 5) = true := by simp; omega
      obtain ⟨s, rfl⟩ : ∃ s', s = s' + 1 := ⟨s - 1, by omega⟩
      have HK := Lib.hid hks
      go_wp2
      go_loopw [7] (fun vi wx => ∃ i' : Nat, vi = .int .i64 (i' : Int) ∧ a < i' ∧ i' ≤ b ∧ Hid (UB t g c w n wx dk) ∧ Hid (scanSorted ltInt dk b i' = scanSorted ltInt dk b i)) (fun vi _ => b - (intOf vi).toNat)
      case atStart => exact ⟨i, rfl, hai, hib, HU, Lib.hid rfl⟩
      case round =>
        obtain ⟨i', rfl, hai', hib', HU, HSC⟩ := hrel
        by_cases hlt : i' < b
        · have d3 : decide (i' < b) = true := decide_eq_true hlt
          have d4 : decide ((i' : Int) < (b : Int)) = true := by simp; omega
          obtain ⟨x, hx⟩ : ∃ x, x = dk[i']! := ⟨_, rfl⟩
          obtain ⟨y, hy⟩ : ∃ y, y = dk[i' - 1]! := ⟨_, rfl⟩
          have cx := HU.out.cell (by omega) hx
          have cy := HU.out.cell (by omega) hy
          have fx := HU.out.free i'
          have fy := HU.out.free (i' - 1)
          have HX := Lib.hid hx
          have HY := Lib.hid hy
          clear hx hy
          go_wp2
          go_quiet (first | (go_at_call 35; refine Calls.quiet_of_same (uLess_any _ _ _)))
          cases hl : ltInt x y with
          | false =>
            have HL := Lib.hid hl
            go_wp2
            go_roundw
            case rel => exact ⟨i' + 1, by go_num, by omega, by omega, Lib.hid (HU.out.drewN nq), Lib.hid (by rw [← HSC.out, scanS_go ltInt dk b i' hlt (by rw [← HX.out, ← HY.out]; exact HL.out)])⟩
            case measure => simp [intOf] <;> omega
          | true =>
            have HI := Lib.hid (show scanSorted ltInt dk b i = i' by rw [← HSC.out]; exact scanS_end ltInt dk b i' (.inr (by rw [← HX.out, ← HY.out]; exact hl)))
            have HU2 := Lib.hid (HU.out.drewN nq)
            have hne : ((i' : Int) == (b : Int)) = false := by simp; omega
            have hne2 : ¬ i' = b := by omega
            by_cases h50 : b - a < 50
            · have d5 : decide ((b : Int) - (a : Int) < 50) = true := by simp; omega
              have HR := Lib.hid (part_short ltInt a b s i i' dk HI.out hne2 h50)
              clear cx cy
              go_wp2
              go_ret
              rw [← HO.out, HR.out]
              exact ⟨rfl, HU2.out⟩
            · have d5 : decide ((b : Int) - (a : Int) < 50) = false := by simp; omega
              have HR := Lib.hid (part_go ltInt a b s i i' dk HI.out hne2 h50)
              have HSW := Lib.hid (fun q => (HU.out.drewN q).swap (i := i') (j := i' - 1) (by omega) (by omega) HY.out HX.out)
              clear HI hl
              have HS2 := Lib.hid (show ∀ dd, dd = swp dk i' (i' - 1) → True from fun _ _ => trivial)
              by_cases h3 : b - i' ≥ 2
              · have d8 : decide (2 ≤ (b : Int) - (i' : Int)) = true := by simp; omega
                by_cases h2 : i' - a ≥ 2
                · have d6 : decide (2 ≤ (i' : Int) - (a : Int)) = true := by simp; omega
                  go_wp2
                  go_region
                  all_goals go_wp2
                  generalize hd1 : swp dk i' (i' - 1) = dd at *
                  have HD1 := Lib.hid hd1
                  clear hd1 cx cy fx fy
                  have HU3 := Lib.hid (HSW.out (nq + 1))
                  go_loopw [9] (fun vj wx => ∃ (j : Nat) (dj : Array Int), vj = .int .i64 (j : Int) ∧ j < i' ∧ Hid (UB t g c w n wx dj) ∧ Hid (shiftDown ltInt j dj = shiftDown ltInt (i' - 1) dd)) (fun vj _ => (intOf vj).toNat)
                  case atStart => exact ⟨i' - 1, dd, int_eq (by omega), by omega, HU3, Lib.hid rfl⟩
                  case round =>
                    obtain ⟨j, dj, rfl, hj, HU, HSD⟩ := hrel
                    by_cases hj1 : 1 ≤ j
                    · have d7 : decide ((j : Int) ≥ 1) = true := by simp; omega
                      have d9 : decide (1 ≤ j) = true := decide_eq_true hj1
                      obtain ⟨x, hx⟩ : ∃ x, x = dj[j]! := ⟨_, rfl⟩
                      obtain ⟨y, hy⟩ : ∃ y, y = dj[j - 1]! := ⟨_, rfl⟩
                      have cx := HU.out.cell (by omega) hx
                      have cy := HU.out.cell (by omega) hy
                      have fx := HU.out.free j
                      have fy := HU.out.free (j - 1)
                      have HX := Lib.hid hx
                      have HY := Lib.hid hy
                      clear hx hy
                      go_wp2
                      go_quiet (first | (go_at_call 35; refine Calls.quiet_of_same (uLess_any _ _ _)))
                      cases hl : ltInt x y with
                      | true =>
                        have HL := Lib.hid hl
                        go_wp2
                        go_region
                        all_goals go_wp2
                        go_roundw
                        case rel => exact ⟨j - 1, swp dj j (j - 1), int_eq (by omega), by omega, Lib.hid ((HU.out.drewN _).swap (by omega) (by omega) HY.out HX.out), Lib.hid (by rw [← HSD.out]; exact (shD_go ltInt j dj hj1 (by rw [← HX.out, ← HY.out]; exact HL.out)).symm)⟩
                        case measure => simp [intOf] <;> omega
                      | false =>
                        have HE := Lib.hid (show dj = shiftDown ltInt (i' - 1) dd by rw [← HSD.out]; exact (shD_end ltInt j dj (.inr (by rw [← HX.out, ← HY.out]; exact hl))).symm)
                        have HU4 := Lib.hid (HU.out.drewN nq)
                        generalize wr.drewN nq = wz at *
                        clear hl cx cy fx fy
                        go_wp2
                        go_loopw [10] (fun vj wx => ∃ (j2 : Nat) (dj2 : Array Int), vj = .int .i64 (j2 : Int) ∧ i' < j2 ∧ j2 ≤ b ∧ Hid (UB t g c w n wx dj2) ∧ Hid (shiftUp ltInt b j2 dj2 = shiftUp ltInt b (i' + 1) dj)) (fun vj _ => b - (intOf vj).toNat)
                        case atStart => exact ⟨i' + 1, dj, by go_num, by omega, by omega, HU4, Lib.hid rfl⟩
                        case round =>
                          obtain ⟨j2, dj2, rfl, hj2, hjb, HU, HSU⟩ := hrel
                          by_cases hjl : j2 < b
                          · have e7 : decide ((j2 : Int) < (b : Int)) = true := by simp; omega
                            have e9 : decide (j2 < b) = true := decide_eq_true hjl
                            obtain ⟨x, hx⟩ : ∃ x, x = dj2[j2]! := ⟨_, rfl⟩
                            obtain ⟨y, hy⟩ : ∃ y, y = dj2[j2 - 1]! := ⟨_, rfl⟩
                            have cx := HU.out.cell (by omega) hx
                            have cy := HU.out.cell (by omega) hy
                            have fx := HU.out.free j2
                            have fy := HU.out.free (j2 - 1)
                            have HX := Lib.hid hx
                            have HY := Lib.hid hy
                            clear hx hy
                            go_wp2
                            go_quiet (first | (go_at_call 35; refine Calls.quiet_of_same (uLess_any _ _ _)))
                            cases hl : ltInt x y with
                            | true =>
                              have HL := Lib.hid hl
                              go_wp2
                              go_region
                              all_goals go_wp2
                              go_roundw
                              case rel => exact ⟨j2 + 1, swp dj2 j2 (j2 - 1), by go_num, by omega, by omega, Lib.hid ((HU.out.drewN _).swap (by omega) (by omega) HY.out HX.out), Lib.hid (by rw [← HSU.out]; exact (shU_go ltInt b j2 dj2 hjl (by rw [← HX.out, ← HY.out]; exact HL.out)).symm)⟩
                              case measure => simp [intOf] <;> omega
                            | false =>
                              have HE2 := Lib.hid (show dj2 = shiftUp ltInt b (i' + 1) dj by rw [← HSU.out]; exact (shU_end ltInt b j2 dj2 (.inr (by rw [← HX.out, ← HY.out]; exact hl))).symm)
                              go_wp2
                              go_roundw
                              case rel => exact ⟨i', s, k + 1, dj2, rfl, by go_num, by omega, by omega, by omega, Lib.hid (HU.out.drewN nq), Lib.hid (by rw [← HO.out, HR.out]; unfold shiftBoth; simp only []; rw [HD1.out, if_pos h2, ← HE.out, if_pos h3, ← HE2.out])⟩
                              case measure => simp [intOf] <;> omega
                          · have e7 : decide ((j2 : Int) < (b : Int)) = false := by simp; omega
                            have e9 : decide (j2 < b) = false := decide_eq_false hjl
                            have HE2 := Lib.hid (show dj2 = shiftUp ltInt b (i' + 1) dj by rw [← HSU.out]; exact (shU_end ltInt b j2 dj2 (.inl hjl)).symm)
                            go_wp2
                            go_roundw
                            case rel => exact ⟨i', s, k + 1, dj2, rfl, by go_num, by omega, by omega, by omega, HU, Lib.hid (by rw [← HO.out, HR.out]; unfold shiftBoth; simp only []; rw [HD1.out, if_pos h2, ← HE.out, if_pos h3, ← HE2.out])⟩
                            case measure => simp [intOf] <;> omega
                    · have d7 : decide ((j : Int) ≥ 1) = false := by simp; omega
                      have d9 : decide (1 ≤ j) = false := decide_eq_false hj1
                      have HE := Lib.hid (show dj = shiftDown ltInt (i' - 1) dd by rw [← HSD.out]; exact (shD_end ltInt j dj (.inl hj1)).symm)
                      have HU4 := HU
                      go_wp2
                      go_loopw [10] (fun vj wx => ∃ (j2 : Nat) (dj2 : Array Int), vj = .int .i64 (j2 : Int) ∧ i' < j2 ∧ j2 ≤ b ∧ Hid (UB t g c w n wx dj2) ∧ Hid (shiftUp ltInt b j2 dj2 = shiftUp ltInt b (i' + 1) dj)) (fun vj _ => b - (intOf vj).toNat)
                      case atStart => exact ⟨i' + 1, dj, by go_num, by omega, by omega, HU4, Lib.hid rfl⟩
                      case round =>
                        obtain ⟨j2, dj2, rfl, hj2, hjb, HU, HSU⟩ := hrel
                        by_cases hjl : j2 < b
                        · have e7 : decide ((j2 : Int) < (b : Int)) = true := by simp; omega
                          have e9 : decide (j2 < b) = true := decide_eq_true hjl
                          obtain ⟨x, hx⟩ : ∃ x, x = dj2[j2]! := ⟨_, rfl⟩
                          obtain ⟨y, hy⟩ : ∃ y, y = dj2[j2 - 1]! := ⟨_, rfl⟩
                          have cx := HU.out.cell (by omega) hx
                          have cy := HU.out.cell (by omega) hy
                          have fx := HU.out.free j2
                          have fy := HU.out.free (j2 - 1)
                          have HX := Lib.hid hx
                          have HY := Lib.hid hy
                          clear hx hy
                          go_wp2
                          go_quiet (first | (go_at_call 35; refine Calls.quiet_of_same (uLess_any _ _ _)))
                          cases hl : ltInt x y with
                          | true =>
                            have HL := Lib.hid hl
                            go_wp2
                            go_region
                            all_goals go_wp2
                            go_roundw
                            case rel => exact ⟨j2 + 1, swp dj2 j2 (j2 - 1), by go_num, by omega, by omega, Lib.hid ((HU.out.drewN _).swap (by omega) (by omega) HY.out HX.out), Lib.hid (by rw [← HSU.out]; exact (shU_go ltInt b j2 dj2 hjl (by rw [← HX.out, ← HY.out]; exact HL.out)).symm)⟩
                            case measure => simp [intOf] <;> omega
                          | false =>
                            have HE2 := Lib.hid (show dj2 = shiftUp ltInt b (i' + 1) dj by rw [← HSU.out]; exact (shU_end ltInt b j2 dj2 (.inr (by rw [← HX.out, ← HY.out]; exact hl))).symm)
                            go_wp2
                            go_roundw
                            case rel => exact ⟨i', s, k + 1, dj2, rfl, by go_num, by omega, by omega, by omega, Lib.hid (HU.out.drewN nq), Lib.hid (by rw [← HO.out, HR.out]; unfold shiftBoth; simp only []; rw [HD1.out, if_pos h2, ← HE.out, if_pos h3, ← HE2.out])⟩
                            case measure => simp [intOf] <;> omega
                        · have e7 : decide ((j2 : Int) < (b : Int)) = false := by simp; omega
                          have e9 : decide (j2 < b) = false := decide_eq_false hjl
                          have HE2 := Lib.hid (show dj2 = shiftUp ltInt b (i' + 1) dj by rw [← HSU.out]; exact (shU_end ltInt b j2 dj2 (.inl hjl)).symm)
                          go_wp2
                          go_roundw
                          case rel => exact ⟨i', s, k + 1, dj2, rfl, by go_num, by omega, by omega, by omega, HU, Lib.hid (by rw [← HO.out, HR.out]; unfold shiftBoth; simp only []; rw [HD1.out, if_pos h2, ← HE.out, if_pos h3, ← HE2.out])⟩
                          case measure => simp [intOf] <;> omega
                · have d6 : decide (2 ≤ (i' : Int) - (a : Int)) = false := by simp; omega
                  go_wp2
                  go_region
                  all_goals go_wp2
                  generalize hd1 : swp dk i' (i' - 1) = dd at *
                  have HD1 := Lib.hid hd1
                  clear hd1 cx cy fx fy
                  have HU3 := Lib.hid (HSW.out (nq + 1))
                  have HU4 := HU3
                  go_loopw [10] (fun vj wx => ∃ (j2 : Nat) (dj2 : Array Int), vj = .int .i64 (j2 : Int) ∧ i' < j2 ∧ j2 ≤ b ∧ Hid (UB t g c w n wx dj2) ∧ Hid (shiftUp ltInt b j2 dj2 = shiftUp ltInt b (i' + 1) dd)) (fun vj _ => b - (intOf vj).toNat)
                  case atStart => exact ⟨i' + 1, dd, by go_num, by omega, by omega, HU4, Lib.hid rfl⟩
                  case round =>
                    obtain ⟨j2, dj2, rfl, hj2, hjb, HU, HSU⟩ := hrel
                    by_cases hjl : j2 < b
                    · have e7 : decide ((j2 : Int) < (b : Int)) = true := by simp; omega
                      have e9 : decide (j2 < b) = true := decide_eq_true hjl
                      obtain ⟨x, hx⟩ : ∃ x, x = dj2[j2]! := ⟨_, rfl⟩
                      obtain ⟨y, hy⟩ : ∃ y, y = dj2[j2 - 1]! := ⟨_, rfl⟩
                      have cx := HU.out.cell (by omega) hx
                      have cy := HU.out.cell (by omega) hy
                      have fx := HU.out.free j2
                      have fy := HU.out.free (j2 - 1)
                      have HX := Lib.hid hx
                      have HY := Lib.hid hy
                      clear hx hy
                      go_wp2
                      go_quiet (first | (go_at_call 35; refine Calls.quiet_of_same (uLess_any _ _ _)))
                      cases hl : ltInt x y with
                      | true =>
                        have HL := Lib.hid hl
                        go_wp2
                        go_region
                        all_goals go_wp2
                        go_roundw
                        case rel => exact ⟨j2 + 1, swp dj2 j2 (j2 - 1), by go_num, by omega, by omega, Lib.hid ((HU.out.drewN _).swap (by omega) (by omega) HY.out HX.out), Lib.hid (by rw [← HSU.out]; exact (shU_go ltInt b j2 dj2 hjl (by rw [← HX.out, ← HY.out]; exact HL.out)).symm)⟩
                        case measure => simp [intOf] <;> omega
                      | false =>
                        have HE2 := Lib.hid (show dj2 = shiftUp ltInt b (i' + 1) dd by rw [← HSU.out]; exact (shU_end ltInt b j2 dj2 (.inr (by rw [← HX.out, ← HY.out]; exact hl))).symm)
                        go_wp2
                        go_roundw
                        case rel => exact ⟨i', s, k + 1, dj2, rfl, by go_num, by omega, by omega, by omega, Lib.hid (HU.out.drewN nq), Lib.hid (by rw [← HO.out, HR.out]; unfold shiftBoth; simp only []; rw [HD1.out, if_neg h2, if_pos h3, ← HE2.out])⟩
                        case measure => simp [intOf] <;> omega
                    · have e7 : decide ((j2 : Int) < (b : Int)) = false := by simp; omega
                      have e9 : decide (j2 < b) = false := decide_eq_false hjl
                      have HE2 := Lib.hid (show dj2 = shiftUp ltInt b (i' + 1) dd by rw [← HSU.out]; exact (shU_end ltInt b j2 dj2 (.inl hjl)).symm)
                      go_wp2
                      go_roundw
                      case rel => exact ⟨i', s, k + 1, dj2, rfl, by go_num, by omega, by omega, by omega, HU, Lib.hid (by rw [← HO.out, HR.out]; unfold shiftBoth; simp only []; rw [HD1.out, if_neg h2, if_pos h3, ← HE2.out])⟩
                      case measure => simp [intOf] <;> omega
              · have d8 : decide (2 ≤ (b : Int) - (i' : Int)) = false := by simp; omega
                by_cases h2 : i' - a ≥ 2
                · have d6 : decide (2 ≤ (i' : Int) - (a : Int)) = true := by simp; omega
                  go_wp2
                  go_region
                  all_goals go_wp2
                  generalize hd1 : swp dk i' (i' - 1) = dd at *
                  have HD1 := Lib.hid hd1
                  clear hd1 cx cy fx fy
                  have HU3 := Lib.hid (HSW.out (nq + 1))
                  go_loopw [9] (fun vj wx => ∃ (j : Nat) (dj : Array Int), vj = .int .i64 (j : Int) ∧ j < i' ∧ Hid (UB t g c w n wx dj) ∧ Hid (shiftDown ltInt j dj = shiftDown ltInt (i' - 1) dd)) (fun vj _ => (intOf vj).toNat)
                  case atStart => exact ⟨i' - 1, dd, int_eq (by omega), by omega, HU3, Lib.hid rfl⟩
                  case round =>
                    obtain ⟨j, dj, rfl, hj, HU, HSD⟩ := hrel
                    by_cases hj1 : 1 ≤ j
                    · have d7 : decide ((j : Int) ≥ 1) = true := by simp; omega
                      have d9 : decide (1 ≤ j) = true := decide_eq_true hj1
                      obtain ⟨x, hx⟩ : ∃ x, x = dj[j]! := ⟨_, rfl⟩
                      obtain ⟨y, hy⟩ : ∃ y, y = dj[j - 1]! := ⟨_, rfl⟩
                      have cx := HU.out.cell (by omega) hx
                      have cy := HU.out.cell (by omega) hy
                      have fx := HU.out.free j
                      have fy := HU.out.free (j - 1)
                      have HX := Lib.hid hx
                      have HY := Lib.hid hy
                      clear hx hy
                      go_wp2
                      go_quiet (first | (go_at_call 35; refine Calls.quiet_of_same (uLess_any _ _ _)))
                      cases hl : ltInt x y with
                      | true =>
                        have HL := Lib.hid hl
                        go_wp2
                        go_region
                        all_goals go_wp2
                        go_roundw
                        case rel => exact ⟨j - 1, swp dj j (j - 1), int_eq (by omega), by omega, Lib.hid ((HU.out.drewN _).swap (by omega) (by omega) HY.out HX.out), Lib.hid (by rw [← HSD.out]; exact (shD_go ltInt j dj hj1 (by rw [← HX.out, ← HY.out]; exact HL.out)).symm)⟩
                        case measure => simp [intOf] <;> omega
                      | false =>
                        have HE := Lib.hid (show dj = shiftDown ltInt (i' - 1) dd by rw [← HSD.out]; exact (shD_end ltInt j dj (.inr (by rw [← HX.out, ← HY.out]; exact hl))).symm)
                        have HU4 := Lib.hid (HU.out.drewN nq)
                        generalize wr.drewN nq = wz at *
                        clear hl cx cy fx fy
                        go_wp2
                        go_roundw
                        case rel => exact ⟨i', s, k + 1, dj, rfl, by go_num, by omega, by omega, by omega, HU4, Lib.hid (by rw [← HO.out, HR.out]; unfold shiftBoth; simp only []; rw [HD1.out, if_pos h2, ← HE.out, if_neg h3])⟩
                        case measure => simp [intOf] <;> omega
                    · have d7 : decide ((j : Int) ≥ 1) = false := by simp; omega
                      have d9 : decide (1 ≤ j) = false := decide_eq_false hj1
                      have HE := Lib.hid (show dj = shiftDown ltInt (i' - 1) dd by rw [← HSD.out]; exact (shD_end ltInt j dj (.inl hj1)).symm)
                      have HU4 := HU
                      go_wp2
                      go_roundw
                      case rel => exact ⟨i', s, k + 1, dj, rfl, by go_num, by omega, by omega, by omega, HU4, Lib.hid (by rw [← HO.out, HR.out]; unfold shiftBoth; simp only []; rw [HD1.out, if_pos h2, ← HE.out, if_neg h3])⟩
                      case measure => simp [intOf] <;> omega
                · omega
        · obtain rfl : i' = b := by omega
          have d3 : decide (i' < i') = false := decide_eq_false hlt
          have d4 : decide ((i' : Int) < (i' : Int)) = false := by simp
          have heq : ((i' : Int) == (i' : Int)) = true := by simp
          have HR := Lib.hid (part_full ltInt a i' s i i' dk (by rw [← HSC.out]; exact scanS_end ltInt dk i' i' (.inl hlt)) rfl)
          go_wp2
          go_quiet (fail)
          go_wp2
          go_ret
          rw [← HO.out, HR.out]
          exact ⟨rfl, HU.out.drewN nq⟩
    · have d1 : decide (k < 5) = false := decide_eq_false hk5
      have d2 : decide ((k : Int) < 5) = false := by simp; omega
      obtain rfl : s = 0 := by omega
      go_wp2
      go_ret
      rw [← HO.out]
      exact ⟨rfl, HU.out⟩
end Go.Proofs.Ytjklfichjaapoaa
