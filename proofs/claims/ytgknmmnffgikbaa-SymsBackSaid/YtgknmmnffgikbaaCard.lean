/-
  From a row's reading of its arguments to what the walks ask, and back.
-/
import Derived.Test.YtgknmmnffgikbaaRows
import Derived.Test.YtgknmmnffgikbaaMem
import Derived.ProofKit
import Derived.SizedLaws
import Derived.OpenShut
import Derived.Lib.SmallJoins
import Derived.Deep.Fields
namespace Go.Proofs.Ytgknmmnffgikbaa
open Go.ChangeShapes Go.WideShapes Go.ChangeAt Go.RowKit Go.Fd

theorem Try.own : ownKnob Try.prog.godebug = none := by kernel_rfl
theorem Try.laidOut : laidOutB Try.prog = true := by kernel_rfl

/-- All arguments read behind the call as they read before it. -/
theorem belowAll {H : Type} {enc : TypeId × Value → H} {W W' : World} (hb : Below W.heap.size W W') : ∀ {ts : List TypeId} {vs : List Value} {ds : List (DataW H)} {ps : List MemPlace},
    DataW.TrodAll enc Try.prog W 0 (fun _ => true) true ts vs ds ps → (∀ x ∈ ps, x.block < W.heap.size) → (∀ t ∈ ts, Try.prog.readableRec t = true ∧ t < Try.prog.types.size) →
    DataW.TrodAll enc Try.prog W' 0 (fun b => decide (b < W.heap.size)) true ts vs ds ps
  | [], vs, ds, ps, h, _, _ => by obtain ⟨rfl, rfl, rfl⟩ := trodAll_nil h; exact trodAll_mk0
  | t :: ts, vs, ds, ps, h, hlt, ht => by
    obtain ⟨v, vs', d, ds', p, q, rfl, rfl, rfl, h0, h1⟩ := trodAll_cons h
    exact trodAll_cons_mk (Below.trod Try.laidOut (ht t (by simp)).1 (ht t (by simp)).2 h0 hb fun x hx => hlt x (by simp [hx]))
      (belowAll hb h1 (fun x hx => hlt x (by simp [hx])) fun u hu => ht u (by simp [hu]))

/-- The same, the types asked as one closed fact. -/
theorem belowAllB {H : Type} {enc : TypeId × Value → H} {W W' : World} {ts : List TypeId} (ht : (ts.all fun t => Try.prog.readableRec t && decide (t < Try.prog.types.size)) = true) (hb : Below W.heap.size W W') {vs : List Value} {ds : List (DataW H)} {ps : List MemPlace}
    (h : DataW.TrodAll enc Try.prog W 0 (fun _ => true) true ts vs ds ps) (hlt : ∀ x ∈ ps, x.block < W.heap.size) : DataW.TrodAll enc Try.prog W' 0 (fun b => decide (b < W.heap.size)) true ts vs ds ps :=
  belowAll hb h hlt fun t htm => by
    have := List.all_eq_true.1 ht t htm
    simp only [Bool.and_eq_true, decide_eq_true_eq] at this
    exact this

set_option maxRecDepth 100000 in
/-- A slice of integers, as it is read. -/
theorem reads_ints {H : Type} {enc : TypeId × Value → H} {W : World} {base : Nat} {t e : TypeId} {k : IntKind} {v : Value} {d : DataW H} {p : List MemPlace} (ht : Try.prog.underlying t = some (.slice e)) (he : Try.prog.underlying e = some (.int k)) (hc : Try.prog.cellsOf e = 1)
    (hv : Value.okWide Try.prog W .any base t v) (h : DataW.Trod enc Try.prog W 0 (fun _ => true) true t v d p) : ∃ zs : List Int, Reads W 1 v zs.length (zs.map (Value.int k)) ∧ ∀ n ∈ zs, (Lit.int k n).wf = true := by
  obtain ⟨a0, len, cap, rfl⟩ := okWide_slice ht hv
  obtain ⟨fuel, hf⟩ := h
  rcases open_ints ht he hc hf with ⟨hcs, hx⟩ | ⟨a, len', cap', zs, hcs, _, hl, hm, hz, hx, hcell, hwz⟩
  · simp [Value.cells] at hcs
    obtain ⟨rfl, rfl, rfl⟩ := hcs
    exact ⟨[], Reads.nil W 1, fun n hn => by cases hn⟩
  · simp [Value.cells] at hcs
    obtain ⟨rfl, rfl, rfl⟩ := hcs
    simp only [if_true] at hz
    refine ⟨zs.take len, ⟨by simp, some a, cap, by rw [List.length_take]; congr 1; omega, by rw [List.length_take]; omega, (fun h => by cases h), fun j hj => ?_⟩, fun n hn => hwz n (List.mem_of_mem_take hn)⟩
    simp only [List.length_map, List.length_take] at hj
    obtain ⟨b, off, spot⟩ := a
    have h0 := hcell 0 (by omega)
    have hspot : spot = none := by simpa [Addr.add] using World.cell?_spot h0
    subst hspot
    refine ⟨b, off, rfl, ?_⟩
    have := hcell j (by omega)
    rw [add_plain] at this
    rw [this, List.getElem?_map, List.getElem?_take, if_pos (by omega), List.getD_eq_getElem?_getD, List.getElem?_eq_getElem (by omega)]
    rfl

set_option maxRecDepth 100000 in
/-- Bytes, as they are read. -/
theorem reads_bytes {H : Type} {enc : TypeId × Value → H} {W : World} {base : Nat} {v : Value} {d : DataW H} {p : List MemPlace} (hv : Value.okWide Try.prog W .any base 23 v) (h : DataW.Trod enc Try.prog W 0 (fun _ => true) true 23 v d p) :
    ∃ l : List UInt8, Reads W 1 v l.length (l.map fun c => Value.int .u8 (c.toNat : Int)) := by
  obtain ⟨zs, h1, h2⟩ := reads_ints (k := .u8) (e := 5) (by kernel_rfl) (by kernel_rfl) (by kernel_rfl) hv h
  refine ⟨zs.map fun n => UInt8.ofNat n.toNat, ?_⟩
  have e : (zs.map fun n => UInt8.ofNat n.toNat).map (fun c => Value.int .u8 (c.toNat : Int)) = zs.map (Value.int .u8) := by
    rw [List.map_map]
    apply List.map_congr_left
    intro n hn
    have := h2 n hn
    simp [Lit.wf, IntKind.min, IntKind.max, IntKind.signed, IntKind.bits] at this
    simp
    omega
  rw [e, List.length_map]
  exact h1

theorem wf_u64 {x : Int} (h : (Lit.int .u64 x).wf = true) : 0 ≤ x ∧ x < 18446744073709551616 := by
  simp [Lit.wf, IntKind.min, IntKind.max, IntKind.signed, IntKind.bits] at h
  exact ⟨by omega, by omega⟩
theorem wf_i64' {x : Int} (h : (Lit.int .i64 x).wf = true) : -9223372036854775808 ≤ x ∧ x < 9223372036854775808 := by
  simp [Lit.wf, IntKind.min, IntKind.max, IntKind.signed, IntKind.bits] at h
  exact ⟨by omega, by omega⟩
theorem wf_u8' {x : Int} (h : (Lit.int .u8 x).wf = true) : 0 ≤ x ∧ x < 256 := by
  simp [Lit.wf, IntKind.min, IntKind.max, IntKind.signed, IntKind.bits] at h
  exact ⟨by omega, by omega⟩

/-- A struct by value, each field of one cell: its cells, and how each reads. -/
theorem open_struct {H : Type} {enc : TypeId × Value → H} {P : Program} {w : World} {base : Nat} {spare : Nat → Bool} {held : Bool} {r : Reach} {b0 : Nat} {t : TypeId} {fs : Array Field} {v : Value} {d : DataW H} {p : List MemPlace}
    (hs : P.underlying t = some (.struct fs)) (hone : Go.Deep.oneCellFields P fs = true) (hC : P.cellsOf t = fs.size) (hv : Value.okWide P w r b0 t v) (h : DataW.Trod enc P w base spare held t v d p) :
    ∃ (vs : List Value) (n : Nat), v = .agg vs.toArray ∧ vs.length = fs.size ∧ ∀ (j : Nat) (f : Field), fs[j]? = some f → ∃ x y, vs[j]? = some x ∧ DataW.trod enc P w base spare held n f.type [x] = some y := by
  obtain ⟨cs, rfl, hsz⟩ := okWide_struct hs hv
  obtain ⟨fuel, hf⟩ := h
  obtain ⟨xs, n, _, hx, _, hlen, hg⟩ := DataW.trod_struct hs hf
  refine ⟨cs.toList, n, by simp, by simp [hsz, hC], fun j f hj => ?_⟩
  obtain ⟨o, k⟩ := Go.Deep.hone_of hone j f hj
  have hjl : j < fs.size := (Array.getElem?_eq_some_iff.1 hj).1
  have hcl : j < cs.toList.length := by simp [hsz, hC]; exact hjl
  have h1 := hg j f hj
  rw [o, k] at h1
  have h2 : (List.drop j (Value.agg cs).cells.toList).take 1 = [cs.toList[j]] := by
    simp only [Value.cells]
    rw [List.drop_eq_getElem_cons hcl]
    rfl
  rw [h2] at h1
  exact ⟨_, xs[j]'(by omega), List.getElem?_eq_getElem hcl, h1.trans (List.getElem?_eq_getElem _)⟩
theorem len_2 {α : Type} : ∀ {l : List α}, l.length = 2 → ∃ a0 a1, l = [a0, a1]
  | [a0, a1], _ => ⟨a0, a1, rfl⟩
theorem len_3 {α : Type} : ∀ {l : List α}, l.length = 3 → ∃ a0 a1 a2, l = [a0, a1, a2]
  | [a0, a1, a2], _ => ⟨a0, a1, a2, rfl⟩
theorem len_4 {α : Type} : ∀ {l : List α}, l.length = 4 → ∃ a0 a1 a2 a3, l = [a0, a1, a2, a3]
  | [a0, a1, a2, a3], _ => ⟨a0, a1, a2, a3, rfl⟩
theorem len_5 {α : Type} : ∀ {l : List α}, l.length = 5 → ∃ a0 a1 a2 a3 a4, l = [a0, a1, a2, a3, a4]
  | [a0, a1, a2, a3, a4], _ => ⟨a0, a1, a2, a3, a4, rfl⟩
theorem len_6 {α : Type} : ∀ {l : List α}, l.length = 6 → ∃ a0 a1 a2 a3 a4 a5, l = [a0, a1, a2, a3, a4, a5]
  | [a0, a1, a2, a3, a4, a5], _ => ⟨a0, a1, a2, a3, a4, a5, rfl⟩
theorem len_7 {α : Type} : ∀ {l : List α}, l.length = 7 → ∃ a0 a1 a2 a3 a4 a5 a6, l = [a0, a1, a2, a3, a4, a5, a6]
  | [a0, a1, a2, a3, a4, a5, a6], _ => ⟨a0, a1, a2, a3, a4, a5, a6, rfl⟩
theorem len_8 {α : Type} : ∀ {l : List α}, l.length = 8 → ∃ a0 a1 a2 a3 a4 a5 a6 a7, l = [a0, a1, a2, a3, a4, a5, a6, a7]
  | [a0, a1, a2, a3, a4, a5, a6, a7], _ => ⟨a0, a1, a2, a3, a4, a5, a6, a7, rfl⟩
end Go.Proofs.Ytgknmmnffgikbaa
