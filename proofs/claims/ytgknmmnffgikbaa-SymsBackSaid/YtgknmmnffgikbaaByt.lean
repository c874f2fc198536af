/-
  Byte slices: read and owned, and the walk's laws for them.
-/
import Derived.Test.YtgknmmnffgikbaaProg
import Derived.Test.YtgknmmnffgikbaaMem
import Derived.BigQuiet
import Derived.Deep.QuietTactic
namespace Go.Proofs.Ytgknmmnffgikbaa
open Go.RowKit Go.Fd

/-- A byte as the model holds it. -/
abbrev B (c : UInt8) : Value := .int .u8 (c.toNat : Int)
/-- v reads as the bytes l. -/
def Bs (w : World) (v : Value) (l : List UInt8) : Prop := Reads w 1 v l.length (l.map B)
/-- v owns the bytes l, in a block from 'base' on. -/
def OB (w : World) (base : Nat) (v : Value) (l : List UInt8) : Prop := w.ownsRow base 5 1 v l.length (l.map B)

theorem TB : SliceT Try.prog 23 5 1 1 := SliceT.mk' (z := .int .u8 0) (by kernel_rfl) (by kernel_rfl) rfl (by omega)

theorem OB.bs {w : World} {base : Nat} {v : Value} {l : List UInt8} (h : OB w base v l) : Bs w v l := Reads.of_owns h
theorem OB.nil (w : World) (base : Nat) : OB w base (.slice none 0 0) [] := World.ownsRow_nil _ _ _ _
theorem Bs.nil (w : World) : Bs w (.slice none 0 0) [] := Reads.nil w 1
theorem Bs.mono {w w' : World} {v : Value} {l : List UInt8} (h : Bs w v l) (hb : Below w.heap.size w w') : Bs w' v l := Reads.mono h hb
theorem OB.mono {w w' : World} {base : Nat} {v : Value} {l : List UInt8} (h : OB w base v l) (hb : Below w.heap.size w w') : OB w' base v l := owns_mono h hb
theorem OB.base {w : World} {base base' : Nat} {v : Value} {l : List UInt8} (h : OB w base v l) (hb : base' ≤ base) : OB w base' v l := owns_base h hb

/-- A byte slice, opened for a walk. -/
theorem Bs.open {w : World} {v : Value} {l : List UInt8} (h : Bs w v l) : ∃ a cap, v = .slice a l.length cap ∧ l.length ≤ cap ∧ (a = none → cap = 0) ∧
    ∀ i, i < l.length → ∃ b off, a = some ⟨b, off, none⟩ ∧ w.cell? ⟨b, off + i, none⟩ = some (.int .u8 (l[i]?.getD 0).toNat) := by
  obtain ⟨h1, a, cap, h2, h3, h0, h4⟩ := h
  refine ⟨a, cap, h2, h3, h0, fun i hi => ?_⟩
  obtain ⟨b, off, e1, e2⟩ := h4 i (by simpa using hi)
  refine ⟨b, off, e1, e2.trans ?_⟩
  simp [List.getElem?_map, List.getElem?_eq_getElem hi]

theorem OB.open {w : World} {base : Nat} {v : Value} {l : List UInt8} (h : OB w base v l) (hl : 0 < l.length) : ∃ g cap, v = .slice (some ⟨g, 0, none⟩) l.length cap ∧ base ≤ g ∧ g < w.heap.size ∧ l.length ≤ cap ∧
    (∀ i, i < l.length → w.cell? ⟨g, i, none⟩ = some (.int .u8 (l[i]?.getD 0).toNat)) ∧ (∀ i, w.frozen? ⟨g, i, none⟩ = false) := by
  obtain ⟨h1, h2⟩ := id h
  rcases h2 with ⟨rfl, h0⟩ | ⟨g, cap, cur, rfl, hb, hg, hn, hc, hs, ht⟩
  · omega
  · refine ⟨g, cap, rfl, hb, (Array.getElem?_eq_some_iff.1 hg).1, hn, fun i hi => ?_, fun i => ?_⟩
    · rw [World.ownsRow.cellAt h i (by simpa using hi)]
      simp [List.getElem?_map, List.getElem?_eq_getElem hi]
    · exact World.ownsRow.frozenAt h i

theorem OB.stored {w : World} {base g cap : Nat} {l : List UInt8} (h : OB w base (.slice (some ⟨g, 0, none⟩) l.length cap) l) (j : Nat) (c : UInt8) :
    OB (w.setCell ⟨g, j, none⟩ (.int .u8 c.toNat)) base (.slice (some ⟨g, 0, none⟩) l.length cap) (l.set j c) := by
  have := (World.ownsRow.stored h j (B c)).1
  unfold OB
  rw [List.length_set, List.map_set]
  exact this

theorem Bs.shape {w : World} {v : Value} {l : List UInt8} (h : Bs w v l) : ∃ m a cap, Hid (m = l.length) ∧ v = .slice a m cap ∧ m ≤ cap ∧ (a = none → cap = 0) := Reads.shape h
theorem OB.shape {w : World} {base : Nat} {v : Value} {l : List UInt8} (h : OB w base v l) : ∃ m a cap, Hid (m = l.length) ∧ v = .slice a m cap ∧ m ≤ cap ∧ (a = none → cap = 0) := h.bs.shape

def lenV : Value → Nat
  | .slice _ n _ => n
  | _ => 0

/-- A string as the model holds it. -/
abbrev S (l : List UInt8) : Value := .string ⟨l.toArray⟩
theorem wrapEq (x : Int) : IntKind.i64.wrap x = wrap64 x := by rw [IntKind.wrap_i64, wrap64]
theorem take_snoc' {α : Type} (g : List α) (i : Nat) (d : α) (h : g[i]? = some d) : g.take (i + 1) = g.take i ++ [d] := by
  obtain ⟨h1, h2⟩ := List.getElem?_eq_some_iff.1 h
  rw [List.take_succ_eq_append_getElem h1, h2]

theorem u8_of (x : Nat) : (UInt8.ofNat x).toNat = x % 256 := by simp

section
variable {ops : Array Oper} {rest : List Oper} {Q : Exit → Act → World → Prop} {a : Act} {w : World}
theorem wpList_pushB {d : Option Tmp} {ty : TypeId} {pos : String} {aft : Array Edge} {s x : Operand} {v : Value} {base : Nat} {l : List UInt8} (hown : OB w base v l)
    (hs : a.eval s = v) (hx : a.eval x = .slice (some ⟨w.heap.size, 0, none⟩) 1 1) {k : Int} (c : UInt8) (hc : k = c.toNat) (hn : l.length + 1 ≤ 140737488355328) (hb : base ≤ w.heap.size)
    (h : ∀ v' w', OB w' base v' (l ++ [c]) → w.grownBy w' v.ownBlock → Below base w w' → wpList Try.prog ops Q rest (a.put d v') w') :
    wpList Try.prog ops Q (⟨d, .call { callee := .builtin .append, args := #[s, x], argTypes := #[23, 23] }, ty, pos, aft, none⟩ :: rest) a (w.alloc (.cells #[.int .u8 k] 5)) := by
  refine wpList_push TB hown hs hx rfl rfl (by omega) hn hb fun v' w' h1 h2 h3 => h v' w' ?_ h2 h3
  unfold OB
  rw [List.length_append, List.map_append]
  subst hc
  exact h1

theorem allB (l : List UInt8) : (l.map B).all (·.oneCell') = true := by
  rw [List.all_eq_true]
  intro x hx
  obtain ⟨c, _, rfl⟩ := List.mem_map.1 hx
  rfl

theorem wpList_catB {d : Option Tmp} {ty : TypeId} {pos : String} {aft : Array Edge} {s x : Operand} {v u : Value} {base : Nat} {l m : List UInt8} (hown : OB w base v l) (hy : Bs w u m)
    (hs : a.eval s = v) (hx : a.eval x = u) (hn : l.length + m.length ≤ 140737488355328) (hb : base ≤ w.heap.size)
    (h : ∀ v' w', OB w' base v' (l ++ m) → w.grownBy w' v.ownBlock → Below base w w' → wpList Try.prog ops Q rest (a.put d v') w') :
    wpList Try.prog ops Q (⟨d, .call { callee := .builtin .append, args := #[s, x], argTypes := #[23, 23] }, ty, pos, aft, none⟩ :: rest) a w := by
  refine wpList_cat TB hown hy hs hx (allB _) (by omega) hn hb fun v' w' h1 h2 h3 => h v' w' ?_ h2 h3
  unfold OB
  rw [List.length_append, List.map_append]
  exact h1

theorem made_zeros (n : Nat) : (madeCells (Value.int .u8 0).cells (n * 1)).toList = (List.replicate n (0 : UInt8)).map B := by
  rw [Nat.mul_one]
  apply List.ext_getElem?
  intro i
  by_cases h : i < n
  · simp [madeCells, Value.cells, h, Nat.mod_one]
  · simp [madeCells, h]
/-- 'make([]byte, n)'. -/
theorem wpList_makeB {d : Option Tmp} {ty : TypeId} {pos : String} {aft : Array Edge} {x y : Operand} (n : Nat) {k k' : IntKind} {l c : Int} (hl : a.eval x = .int k l) (hc : a.eval y = .int k' c) (hn' : l = n) (hn : c = n) (hm : n ≤ 140737488355328)
    (h : ∀ v' w', OB w' w.heap.size v' (List.replicate n 0) → Below w.heap.size w w' → wpList Try.prog ops Q rest (a.put d v') w') :
    wpList Try.prog ops Q (⟨d, .makeSlice 23 x y, ty, pos, aft, none⟩ :: rest) a w := by
  refine wpList_makeN TB (z := .int .u8 0) (fun i hi => ?_) n hl hc hn' hn (by omega) hm fun v' w' h1 h2 => h v' w' ?_ h2
  · have := info_parts (P := Try.prog) (e := 5) (z := .int .u8 0) (size := 1) (bytes := 1) (by kernel_rfl)
    obtain ⟨i', h1, h2, _⟩ := this
    rw [hi] at h1
    cases h1
    exact h2
  · unfold OB
    rw [made_zeros] at h1
    rw [List.length_replicate]
    exact h1

theorem foldl_push (l : List UInt8) (s : ByteArray) : (l.map fun c => (c.toNat : Int)).foldl (fun (r : ByteArray) (n : Int) => r.push (UInt8.ofNat n.toNat)) s = ⟨s.data ++ l.toArray⟩ := by
  induction l generalizing s with
  | nil => simp
  | cons c l ih =>
    rw [List.map_cons, List.foldl_cons, ih]
    have : (s.push (UInt8.ofNat ((c.toNat : Int)).toNat)).data = s.data.push c := by simp [ByteArray.push]
    rw [this]
    simp [List.push_append_toArray]

/-- 'string(b)'. -/
theorem run_str {v : Value} {l : List UInt8} (hv : Bs w v l) : (convert 23 9 v).run Try.prog w = .ok (.string ⟨l.toArray⟩) w := by
  obtain ⟨h1, a, cap, rfl, h3, h0, h4⟩ := hv
  rw [run_convert_bytes_string w 23 9 5 a l.length cap (by kernel_rfl) (by kernel_rfl) (by kernel_rfl)]
  cases a with
  | none =>
    have hl : l = [] := by
      cases l with
      | nil => rfl
      | cons c l => obtain ⟨b, off, h, _⟩ := h4 0 (by simp); cases h
    subst hl
    rfl
  | some ad =>
    rw [run_bytesToString w ad l.length cap (l.map fun c => (c.toNat : Int))]
    · rw [foldl_push]; simp
    · have h := run_loadCells_list (P := Try.prog) (w := w) ad (l.map B) (fun j v hj => by
        obtain ⟨b, off, e1, e2⟩ := h4 j (List.getElem?_eq_some_iff.1 hj).1
        cases e1
        have e3 : (⟨b, off, none⟩ : Addr).add j = ⟨b, off + j, none⟩ := by unfold Addr.add; split <;> simp_all
        rw [e3, e2, hj])
      rw [List.length_map] at h
      rw [h]
      simp [B]

theorem run_sliceB {v : Value} {l : List UInt8} (hv : Bs w v l) {i j : Int} {k k' : IntKind} (h0 : 0 ≤ i) (h1 : i ≤ j) (h2 : j ≤ l.length) :
    ∃ v', (∀ w', (Instr.sliceAt 23 v (some (.int k i)) (some (.int k' j)) none).run Try.prog w' = .ok v' w') ∧ Bs w v' ((l.drop i.toNat).take (j - i).toNat) := by
  obtain ⟨v', h, hr⟩ := run_sliceAt TB hv h0 h1 h2 (k := k) (k' := k')
  refine ⟨v', h, ?_⟩
  unfold Bs
  rw [List.length_take, List.length_drop, List.map_take, List.map_drop, show min (j - i).toNat (l.length - i.toNat) = (j - i).toNat by omega]
  simpa using hr
theorem run_fromB {v : Value} {l : List UInt8} (hv : Bs w v l) {i : Int} {k : IntKind} (h0 : 0 ≤ i) (h1 : i ≤ l.length) :
    ∃ v', (∀ w', (Instr.sliceAt 23 v (some (.int k i)) none none).run Try.prog w' = .ok v' w') ∧ Bs w v' (l.drop i.toNat) := by
  obtain ⟨v', h, hr⟩ := run_sliceFrom TB hv h0 h1 (k := k)
  refine ⟨v', h, ?_⟩
  unfold Bs
  rw [List.length_drop, List.map_drop, show l.length - i.toNat = ((l.length : Int) - i).toNat by omega]
  simpa using hr
theorem run_toB {v : Value} {l : List UInt8} (hv : Bs w v l) {j : Int} {k : IntKind} (h0 : 0 ≤ j) (h1 : j ≤ l.length) :
    ∃ v', (∀ w', (Instr.sliceAt 23 v none (some (.int k j)) none).run Try.prog w' = .ok v' w') ∧ Bs w v' (l.take j.toNat) := by
  obtain ⟨v', h, hr⟩ := run_sliceTo TB hv h0 h1 (k := k)
  refine ⟨v', h, ?_⟩
  unfold Bs
  rw [List.length_take, List.map_take, show min j.toNat l.length = j.toNat by omega]
  simpa using hr
theorem run_sliceTo_own (g k cap m : Nat) (h : m ≤ cap) (wx : World) : (Instr.sliceAt 23 (.slice (some ⟨g, 0, none⟩) k cap) none (some (.int .i64 m)) none).run Try.prog wx = .ok (.slice (some ⟨g, 0, none⟩) m cap) wx := by
  obtain ⟨i, z, h1, h2, h3, h4, h5⟩ := TB.info
  have r1 : (Instr.sliceBound (.int .i64 (m : Int)) cap .sliceAcap).run Try.prog wx = .ok m wx := by
    rw [run_sliceBound' _ _ _ _ (by omega) (by omega)]; rfl
  simp [Instr.sliceAt, Instr.slice, run_underlying TB.ht, Instr.sliceBounds, r1, sizeOf, typeInfo, h1, Addr.add]
/-- A literal of bytes. -/
theorem bs_lit (w : World) (l : List UInt8) (cs : Array Value) (n : Nat) (h : cs = (l.map B).toArray) (hn : n = l.length) : Bs (w.alloc (.cells cs 5)) (.slice (some ⟨w.heap.size, 0, none⟩) n n) l := by
  subst h hn
  refine ⟨by simp, _, _, rfl, Nat.le_refl _, (fun h => by cases h), fun j hj => ⟨w.heap.size, 0, rfl, ?_⟩⟩
  rw [Nat.zero_add]
  simp only [World.cell?]
  rw [show (w.alloc (.cells (l.map B).toArray 5)).heap[w.heap.size]? = some (.cells (l.map B).toArray 5) from heap_alloc_new w _]
  simp
/-- .. owned. -/
theorem ob_lit (w : World) (l : List UInt8) (cs : Array Value) (n : Nat) (h : cs = (l.map B).toArray) (hn : n = l.length) (hm : n ≤ 1000000) : OB (w.alloc (.cells cs 5)) w.heap.size (.slice (some ⟨w.heap.size, 0, none⟩) n n) l := by
  subst h hn
  exact ⟨by simp, .inr ⟨w.heap.size, l.length, _, rfl, Nat.le_refl _, heap_alloc_new w _, Nat.le_refl _, by unfold maxLen; omega, by simp, by rw [Nat.mul_one, List.take_of_length_le (by simp)]⟩⟩
end
end Go.Proofs.Ytgknmmnffgikbaa
