/-
  Slices whose elements have one cell each: strings, numbers.
-/
import Derived.Test.YtgknmmnffgikbaaByt
import Derived.Test.YtgknmmnffgikbaaTouch
import Derived.Lib.AppendStr
namespace Go.Fd
open Go.RowKit
/-- v reads as the list l. -/
def Rd {α : Type} (mk : α → Value) (w : World) (v : Value) (l : List α) : Prop := Reads w 1 v l.length (l.map mk)
/-- v owns the list l, in a block from 'base' on. -/
def Ow {α : Type} (mk : α → Value) (e : TypeId) (w : World) (base : Nat) (v : Value) (l : List α) : Prop := w.ownsRow base e 1 v l.length (l.map mk)
section
variable {α : Type} {mk : α → Value} {e : TypeId} {w w' : World} {base : Nat} {v : Value} {l : List α}
theorem Ow.rd (h : Ow mk e w base v l) : Rd mk w v l := Reads.of_owns h
theorem Ow.nil (mk : α → Value) (e : TypeId) (w : World) (base : Nat) : Ow mk e w base (.slice none 0 0) [] := World.ownsRow_nil _ _ _ _
theorem Rd.nil (mk : α → Value) (w : World) : Rd mk w (.slice none 0 0) [] := Reads.nil w 1
theorem Rd.mono (h : Rd mk w v l) (hb : Below w.heap.size w w') : Rd mk w' v l := Reads.mono h hb
theorem Ow.mono (h : Ow mk e w base v l) (hb : Below w.heap.size w w') : Ow mk e w' base v l := owns_mono h hb
theorem Ow.rebase {base' : Nat} (h : Ow mk e w base v l) (hb : base' ≤ base) : Ow mk e w base' v l := owns_base h hb
theorem Rd.stirs {S : Nat → Prop} (h : Rd mk w v l) (ht : Stirs S w w') (hn : ∀ k, v.ownBlock = some k → ¬ S k) : Rd mk w' v l := Reads.stirs h ht hn
theorem Ow.stirs {S : Nat → Prop} (h : Ow mk e w base v l) (ht : Stirs S w w') (hn : ∀ k, v.ownBlock = some k → ¬ S k) : Ow mk e w' base v l := owns_stirs h ht hn
theorem Rd.open (d : α) (h : Rd mk w v l) : ∃ a cap, v = .slice a l.length cap ∧ l.length ≤ cap ∧ (a = none → cap = 0) ∧
    ∀ i, i < l.length → ∃ b off, a = some ⟨b, off, none⟩ ∧ w.cell? ⟨b, off + i, none⟩ = some (mk (l[i]?.getD d)) := by
  obtain ⟨h1, a, cap, h2, h3, h0, h4⟩ := h
  refine ⟨a, cap, h2, h3, h0, fun i hi => ?_⟩
  obtain ⟨b, off, e1, e2⟩ := h4 i (by simpa using hi)
  refine ⟨b, off, e1, e2.trans ?_⟩
  simp [List.getElem?_map, List.getElem?_eq_getElem hi]
theorem Rd.shape (h : Rd mk w v l) : ∃ m a cap, Hid (m = l.length) ∧ v = .slice a m cap ∧ m ≤ cap ∧ (a = none → cap = 0) := Reads.shape h
theorem Ow.shape (h : Ow mk e w base v l) : ∃ m a cap, Hid (m = l.length) ∧ v = .slice a m cap ∧ m ≤ cap ∧ (a = none → cap = 0) := h.rd.shape
theorem Ow.open (d : α) (h : Ow mk e w base v l) (hl : 0 < l.length) : ∃ g cap, v = .slice (some ⟨g, 0, none⟩) l.length cap ∧ base ≤ g ∧ g < w.heap.size ∧ l.length ≤ cap ∧
    (∀ i, i < l.length → w.cell? ⟨g, i, none⟩ = some (mk (l[i]?.getD d))) ∧ (∀ i, w.frozen? ⟨g, i, none⟩ = false) := by
  obtain ⟨h1, h2⟩ := id h
  rcases h2 with ⟨rfl, h0⟩ | ⟨g, cap, cur, rfl, hb, hg, hn, hc, hs, ht⟩
  · omega
  · refine ⟨g, cap, rfl, hb, (Array.getElem?_eq_some_iff.1 hg).1, hn, fun i hi => ?_, fun i => ?_⟩
    · rw [World.ownsRow.cellAt h i (by simpa using hi)]
      simp [List.getElem?_map, List.getElem?_eq_getElem hi]
    · exact World.ownsRow.frozenAt h i
theorem Ow.stored {g cap : Nat} (h : Ow mk e w base (.slice (some ⟨g, 0, none⟩) l.length cap) l) (j : Nat) (x : α) :
    Ow mk e (w.setCell ⟨g, j, none⟩ (mk x)) base (.slice (some ⟨g, 0, none⟩) l.length cap) (l.set j x) := by
  have := (World.ownsRow.stored h j (mk x)).1
  unfold Ow
  rw [List.length_set, List.map_set]
  exact this
end
section
variable {P : Program} {ops : Array Oper} {rest : List Oper} {Q : Exit → Act → World → Prop} {a : Act} {w : World} {α : Type} {mk : α → Value} {e : TypeId}
/-- 'v = append(v, x)'. -/
theorem wpList_pushE {t bytes : Nat} (T : SliceT P t e 1 bytes) {d : Option Tmp} {ty : TypeId} {pos : String} {aft : Array Edge} {s x : Operand} {v : Value} {base : Nat} {l : List α} (hown : Ow mk e w base v l)
    (hs : a.eval s = v) (hx : a.eval x = .slice (some ⟨w.heap.size, 0, none⟩) 1 1) {u : Value} (c : α) (hc : u = mk c) (h1 : (mk c).oneCell' = true) (hn : (l.length + 1) * bytes ≤ 140737488355328) (hb8 : 1 ≤ bytes) (hb : base ≤ w.heap.size)
    (h : ∀ v' w', Ow mk e w' base v' (l ++ [c]) → w.grownBy w' v.ownBlock → Below base w w' → wpList P ops Q rest (a.put d v') w') :
    wpList P ops Q (⟨d, .call { callee := .builtin .append, args := #[s, x], argTypes := #[t, t] }, ty, pos, aft, none⟩ :: rest) a (w.alloc (.cells #[u] e)) := by
  subst hc
  refine wpList_push T hown hs hx rfl (by simp [h1]) hn (by have := Nat.le_mul_of_pos_right (l.length + 1) hb8; omega) hb fun v' w' h1 h2 h3 => h v' w' ?_ h2 h3
  unfold Ow
  rw [List.length_append, List.map_append]
  exact h1
end
/-- Rows of unlike elements lie in unlike blocks. -/
theorem own_apart {w : World} {b1 b2 e1 e2 s1 s2 n1 n2 : Nat} {v1 v2 : Value} {xs1 xs2 : List Value} (h1 : w.ownsRow b1 e1 s1 v1 n1 xs1) (h2 : w.ownsRow b2 e2 s2 v2 n2 xs2) (hne : e1 ≠ e2) {k : Nat} (hk : v1.ownBlock = some k) : v2.ownBlock ≠ some k := by
  intro hk2
  rcases h1.2 with ⟨rfl, _⟩ | ⟨g1, c1, u1, rfl, _, hg1, _⟩
  · cases hk
  rcases h2.2 with ⟨rfl, _⟩ | ⟨g2, c2, u2, rfl, _, hg2, _⟩
  · cases hk2
  simp only [Value.ownBlock, Option.some.injEq] at hk hk2
  subst hk hk2
  rw [hg1] at hg2
  simp at hg2
  exact hne hg2.2
theorem owns_grown {w w' : World} {base e size n : Nat} {v : Value} {xs : List Value} {row : Option Nat} (h : w.ownsRow base e size v n xs) (hg : w.grownBy w' row) (hne : ∀ k, v.ownBlock = some k → row ≠ some k) : w'.ownsRow base e size v n xs :=
  owns_stirs (S := fun k => row = some k) h (Stirs.of_grown hg fun _ h => h) hne
/-- A row lies in no map's block. -/
theorem own_noMap {w : World} {base e size n : Nat} {v : Value} {xs : List Value} (h : w.ownsRow base e size v n xs) {b : Nat} {es : Array MapEntry} {c : Nat} (hb : w.heap[b]? = some (.map es c)) : v.ownBlock ≠ some b := by
  intro hk
  rcases h.2 with ⟨rfl, _⟩ | ⟨g1, c1, u1, rfl, _, hg1, _⟩
  · cases hk
  simp only [Value.ownBlock, Option.some.injEq] at hk
  subst hk
  rw [hg1] at hb
  cases hb
end Go.Fd
namespace Go.Proofs.Ytgknmmnffgikbaa
open Go.RowKit Go.Fd
theorem strCells_mk (m : List UInt8) : Lib.strCells ⟨m.toArray⟩ = m.map B := by simp [Lib.strCells]
/-- 'append(tab, s...)', s a string. -/
theorem wpList_catS {ops : Array Oper} {rest : List Oper} {Q : Exit → Act → World → Prop} {a : Act} {w : World} {d : Option Tmp} {ty : TypeId} {pos : String} {aft : Array Edge} {s x : Operand} {v : Value} {base : Nat} {l m : List UInt8} (hown : OB w base v l)
    (hs : a.eval s = v) (hx : a.eval x = S m) (hn : l.length + m.length ≤ 140737488355328) (hb : base ≤ w.heap.size)
    (h : ∀ v' w', OB w' base v' (l ++ m) → w.grownBy w' v.ownBlock → Below base w w' → wpList Try.prog ops Q rest (a.put d v') w') :
    wpList Try.prog ops Q (⟨d, .call { callee := .builtin .append, args := #[s, x], argTypes := #[23, 9] }, ty, pos, aft, none⟩ :: rest) a w := by
  obtain ⟨i, z, h1', h2, h3, h4, h5⟩ := TB.info
  have hz : i.zero = some (.int .u8 0) := by
    obtain ⟨i', g1, g2, _⟩ := info_parts (P := Try.prog) (e := 5) (z := .int .u8 0) (size := 1) (bytes := 1) (by kernel_rfl)
    rw [h1'] at g1
    cases g1
    exact g2
  have hsz : (⟨m.toArray⟩ : ByteArray).size = m.length := by simp [ByteArray.size]
  refine Lib.wpList_append_own_string _ rfl s x 23 9 rfl base 5 i TB.ht (by kernel_rfl) h1' hz h3 h4 v l.length (l.map B) hs hown ⟨m.toArray⟩ hx (by rw [hsz]; exact maxLen_of hn) (by rw [hsz]; exact hn) hb fun v' w' h1 h2 _ => ?_
  refine h v' w' ?_ h2 (owns_below hown h2 hb)
  unfold OB
  rw [List.length_append, List.map_append, ← strCells_mk, ← hsz]
  exact h1
end Go.Proofs.Ytgknmmnffgikbaa
