/-
  Symbols and relocations among the arguments, as they are read.
-/
import Derived.Test.YtgknmmnffgikbaaCard
import Derived.Test.YtgknmmnffgikbaaSymEq
import Derived.SliceStrings
import Derived.Deep.Slices
namespace Go.Fd
/-- What a symbol's fields are at most. -/
def SymM.fits (s : SymM) : Prop := s.name.length ≤ 9223372036854775807 ∧ s.value < 18446744073709551616 ∧ s.size < 18446744073709551616
def RelaM.fits (x : RelaM) : Prop := x.off < 18446744073709551616 ∧ -9223372036854775808 ≤ x.add ∧ x.add < 9223372036854775808
end Go.Fd
namespace Go.Proofs.Ytgknmmnffgikbaa
open Go.ChangeMaps Go.ChangeShapes Go.WideShapes Go.ChangeAt Go.RowKit Go.Fd

set_option maxRecDepth 100000 in
/-- A slice of records, as it is read. -/
theorem reads_recs {H : Type} {enc : TypeId × Value → H} {W : World} {base : Nat} {v : Value} {d : DataW H} {p : List MemPlace} {α : Type} {k : Nat} {ec : α → List Value} {good : α → Prop} {t e : TypeId}
    (ht : Try.prog.underlying t = some (.slice e)) (hc : Try.prog.cellsOf e = k) (hk0 : 0 < k) (hlen : ∀ x, (ec x).length = k)
    (hstep : ∀ n cs y, DataW.trod enc Try.prog W 0 (fun _ => true) true n e cs = some y → cs.length = k → ∃ x, cs = ec x ∧ good x)
    (hv : Value.okWide Try.prog W .any base t v) (h : DataW.Trod enc Try.prog W 0 (fun _ => true) true t v d p) : ∃ l : List α, RdR k ec W v l ∧ ∀ x ∈ l, good x := by
  obtain ⟨a0, len, cap, rfl⟩ := okWide_slice ht hv
  obtain ⟨fuel, hf⟩ := h
  rcases Go.Deep.open_slice ht hf with ⟨hcs, hx⟩ | ⟨a, len', cap', m, n, D, Pl, hcs, _, hl, hm, hmm, _, hel⟩
  · simp [Value.cells] at hcs
    obtain ⟨rfl, rfl, rfl⟩ := hcs
    exact ⟨[], RdR.nil k ec W, fun x hx => by cases hx⟩
  · simp [Value.cells] at hcs
    obtain ⟨rfl, rfl, rfl⟩ := hcs
    simp only [hc] at hel
    have hall : ∀ n', n' ≤ len → ∃ l : List α, l.length = n' ∧ ∀ i x, l[i]? = some x → good x ∧ ∀ c, c < k → W.cell? (a.add (i * k + c)) = (ec x)[c]? := by
      intro n'
      induction n' with
      | zero => exact fun _ => ⟨[], rfl, fun i x h => by simp at h⟩
      | succ n' ih =>
        intro hn
        obtain ⟨l, h1, h2⟩ := ih (by omega)
        obtain ⟨cs', h3, h4⟩ := hel n' (by simp at hmm; omega)
        obtain ⟨-, h5, h6⟩ := World.cells?_some h3
        obtain ⟨x, rfl, hg⟩ := hstep _ _ _ h4 h5
        refine ⟨l ++ [x], by simp [h1], fun i y hi => ?_⟩
        rcases Nat.lt_or_ge i n' with hlt | hge
        · rw [List.getElem?_append_left (by omega)] at hi
          exact h2 i y hi
        · rw [List.getElem?_append_right (by omega)] at hi
          have hi0 : i - l.length = 0 := by
            have := (List.getElem?_eq_some_iff.1 hi).1
            simp at this
            omega
          rw [hi0] at hi
          cases hi
          obtain rfl : i = n' := by omega
          refine ⟨hg, fun c hc => ?_⟩
          have := h6 c hc
          rwa [Go.Deep.add_add] at this
    obtain ⟨l, h1, h2⟩ := hall len (Nat.le_refl _)
    refine ⟨l, ⟨by rw [flat_len hlen], some a, cap, by rw [h1], by omega, (fun h => by cases h), fun j hj => ?_⟩, fun x hx => ?_⟩
    · rw [flat_len hlen] at hj
      have hjk : j = j / k * k + j % k := by rw [Nat.mul_comm]; exact (Nat.div_add_mod j k).symm
      have hi : j / k < l.length := (Nat.div_lt_iff_lt_mul hk0).2 hj
      have hx : l[j / k]? = some l[j / k] := List.getElem?_eq_getElem hi
      have h3 := (h2 _ _ hx).2 (j % k) (Nat.mod_lt _ hk0)
      rw [← hjk] at h3
      have h4 := flat_get hlen l (j / k) (j % k) _ hx (Nat.mod_lt _ hk0)
      rw [← hjk] at h4
      obtain ⟨b, off, spot⟩ := a
      have hspot : spot = none := by
        have hl0 : 0 < l.length := Nat.lt_of_le_of_lt (Nat.zero_le _) hi
        have hx0 : l[0]? = some (l[0]'hl0) := List.getElem?_eq_getElem _
        have h0 := (h2 0 _ hx0).2 0 hk0
        have h5 : (ec (l[0]'hl0))[0]? = some ((ec (l[0]'hl0))[0]'(by rw [hlen]; exact hk0)) := List.getElem?_eq_getElem _
        rw [h5, Nat.zero_mul, Nat.zero_add] at h0
        simpa [Addr.add] using World.cell?_spot h0
      subst hspot
      refine ⟨b, off, rfl, ?_⟩
      rw [add_plain] at h3
      rw [h3, h4]
    · obtain ⟨i, hi⟩ := List.mem_iff_getElem?.1 hx
      exact (h2 i x hi).1

/-- A struct of cells, each field of one cell: how each reads. -/
theorem cells_struct {H : Type} {enc : TypeId × Value → H} {P : Program} {w : World} {base : Nat} {spare : Nat → Bool} {held : Bool} {t : TypeId} {fs : Array Field} {cs : List Value} {fuel : Nat} {y : DataW H × List MemPlace}
    (hs : P.underlying t = some (.struct fs)) (hone : Go.Deep.oneCellFields P fs = true) (hC : cs.length = fs.size) (h : DataW.trod enc P w base spare held fuel t cs = some y) :
    ∃ n, ∀ (j : Nat) (f : Field), fs[j]? = some f → ∃ x y, cs[j]? = some x ∧ DataW.trod enc P w base spare held n f.type [x] = some y := by
  obtain ⟨xs, n, _, hx, _, hlen, hg⟩ := DataW.trod_struct hs h
  refine ⟨n, fun j f hj => ?_⟩
  obtain ⟨o, k⟩ := Go.Deep.hone_of hone j f hj
  have hjl : j < fs.size := (Array.getElem?_eq_some_iff.1 hj).1
  have hcl : j < cs.length := by omega
  have h1 := hg j f hj
  rw [o, k] at h1
  have h2 : (List.drop j cs).take 1 = [cs[j]] := by
    rw [List.drop_eq_getElem_cons hcl]
    rfl
  rw [h2] at h1
  exact ⟨_, xs[j]'(by omega), List.getElem?_eq_getElem hcl, h1.trans (List.getElem?_eq_getElem _)⟩

set_option maxRecDepth 100000 in
theorem reads_syms {H : Type} {enc : TypeId × Value → H} {W : World} {base : Nat} {v : Value} {d : DataW H} {p : List MemPlace} (hv : Value.okWide Try.prog W .any base 39 v) (h : DataW.Trod enc Try.prog W 0 (fun _ => true) true 39 v d p) :
    ∃ l : List SymM, RdR 6 encSym W v l ∧ ∀ x ∈ l, x.fits := by
  refine reads_recs (e := 55) (by kernel_rfl) (by kernel_rfl) (by decide) (fun _ => rfl) (fun n cs y h hl => ?_) hv h
  obtain ⟨m, hf⟩ := cells_struct Try.underlying55 (by kernel_rfl) hl h
  obtain ⟨c0, c1, c2, c3, c4, c5, rfl⟩ := len_6 hl
  obtain ⟨x0, y0, e0, t0⟩ := hf 0 _ rfl
  obtain ⟨x1, y1, e1, t1⟩ := hf 1 _ rfl
  obtain ⟨x2, y2, e2, t2⟩ := hf 2 _ rfl
  obtain ⟨x3, y3, e3, t3⟩ := hf 3 _ rfl
  obtain ⟨x4, y4, e4, t4⟩ := hf 4 _ rfl
  obtain ⟨x5, y5, e5, t5⟩ := hf 5 _ rfl
  cases e0; cases e1; cases e2; cases e3; cases e4; cases e5
  obtain ⟨s, q0, -, hs⟩ := DataW.trod_string Try.underlying9 t0
  obtain ⟨n1, q1, -, -⟩ := DataW.trod_int Try.underlying3 t1
  obtain ⟨n2, q2, -, -⟩ := DataW.trod_int Try.underlying3 t2
  obtain ⟨n3, q3, -, -⟩ := DataW.trod_int Try.underlying3 t3
  obtain ⟨n4, q4, -, w4⟩ := DataW.trod_int Try.underlying53 t4
  obtain ⟨n5, q5, -, w5⟩ := DataW.trod_int Try.underlying53 t5
  cases q0; cases q1; cases q2; cases q3; cases q4; cases q5
  have h4 := wf_u64 w4
  have h5 := wf_u64 w5
  unfold maxLen at hs
  refine ⟨⟨s.data.toList, n1, n2, n3, n4.toNat, n5.toNat⟩, ?_, hs, by show n4.toNat < _; omega, by show n5.toNat < _; omega⟩
  have i4 : ((n4.toNat : Nat) : Int) = n4 := by omega
  have i5 : ((n5.toNat : Nat) : Int) = n5 := by omega
  unfold encSym
  rw [i4, i5]

set_option maxRecDepth 100000 in
theorem reads_relas {H : Type} {enc : TypeId × Value → H} {W : World} {base : Nat} {v : Value} {d : DataW H} {p : List MemPlace} (hv : Value.okWide Try.prog W .any base 40 v) (h : DataW.Trod enc Try.prog W 0 (fun _ => true) true 40 v d p) :
    ∃ l : List RelaM, RdR 4 encRela W v l ∧ ∀ x ∈ l, x.fits := by
  refine reads_recs (e := 84) (by kernel_rfl) (by kernel_rfl) (by decide) (fun _ => rfl) (fun n cs y h hl => ?_) hv h
  obtain ⟨m, hf⟩ := cells_struct Try.underlying84 (by kernel_rfl) hl h
  obtain ⟨c0, c1, c2, c3, rfl⟩ := len_4 hl
  obtain ⟨x0, y0, e0, t0⟩ := hf 0 _ rfl
  obtain ⟨x1, y1, e1, t1⟩ := hf 1 _ rfl
  obtain ⟨x2, y2, e2, t2⟩ := hf 2 _ rfl
  obtain ⟨x3, y3, e3, t3⟩ := hf 3 _ rfl
  cases e0; cases e1; cases e2; cases e3
  obtain ⟨n0, q0, -, w0⟩ := DataW.trod_int Try.underlying53 t0
  obtain ⟨n1, q1, -, -⟩ := DataW.trod_int Try.underlying3 t1
  obtain ⟨n2, q2, -, -⟩ := DataW.trod_int Try.underlying3 t2
  obtain ⟨n3, q3, -, w3⟩ := DataW.trod_int Try.underlying2 t3
  cases q0; cases q1; cases q2; cases q3
  have h0 := wf_u64 w0
  refine ⟨⟨n0.toNat, n1, n2, n3⟩, ?_, by show n0.toNat < _; omega, wf_i64' w3⟩
  have i0 : ((n0.toNat : Nat) : Int) = n0 := by omega
  unfold encRela
  rw [i0]
end Go.Proofs.Ytgknmmnffgikbaa
