/-
  Names and strings among the arguments, as they are read.
-/
import Derived.Test.YtgknmmnffgikbaaCard
import Derived.Test.YtgknmmnffgikbaaSeq
import Derived.SliceStrings
import Derived.ChangeMaps5
namespace Go.Proofs.Ytgknmmnffgikbaa
open Go.ChangeMaps Go.ChangeShapes Go.WideShapes Go.ChangeAt Go.RowKit Go.Fd

set_option maxRecDepth 100000 in
theorem reads_names {H : Type} {enc : TypeId × Value → H} {W : World} {base : Nat} {v : Value} {d : DataW H} {p : List MemPlace} (hv : Value.okWide Try.prog W .any base 22 v) (h : DataW.Trod enc Try.prog W 0 (fun _ => true) true 22 v d p) :
    ∃ l : List (List UInt8), Rd S W v l ∧ ∀ s ∈ l, s.length ≤ 9223372036854775807 := by
  have ht : Try.prog.underlying 22 = some (.slice 9) := by kernel_rfl
  have he : Try.prog.underlying 9 = some .string := by kernel_rfl
  have hc : Try.prog.cellsOf 9 = 1 := by kernel_rfl
  obtain ⟨a0, len, cap, rfl⟩ := okWide_slice ht hv
  obtain ⟨fuel, hf⟩ := h
  rcases open_strings ht he hc hf with ⟨hcs, hx⟩ | ⟨a, len', cap', ss, hcs, _, hl, hm, hz, hx, hcell, hwz⟩
  · simp [Value.cells] at hcs
    obtain ⟨rfl, rfl, rfl⟩ := hcs
    exact ⟨[], Rd.nil S W, fun n hn => by cases hn⟩
  · simp [Value.cells] at hcs
    obtain ⟨rfl, rfl, rfl⟩ := hcs
    simp only [if_true] at hz
    refine ⟨(ss.take len).map fun s => s.data.toList, ⟨by simp, some a, cap, by rw [List.length_map, List.length_take]; congr 1; omega, by rw [List.length_map, List.length_take]; omega, (fun h => by cases h), fun j hj => ?_⟩, fun s hs => ?_⟩
    · simp only [List.length_map, List.length_take] at hj
      obtain ⟨b, off, spot⟩ := a
      have h0 := hcell 0 (by omega)
      have hspot : spot = none := by simpa [Addr.add] using World.cell?_spot h0
      subst hspot
      refine ⟨b, off, rfl, ?_⟩
      have := hcell j (by omega)
      rw [add_plain] at this
      rw [this, List.getElem?_map, List.getElem?_map, List.getElem?_take, if_pos (by omega), List.getD_eq_getElem?_getD, List.getElem?_eq_getElem (by omega)]
      rfl
    · obtain ⟨x, hx, rfl⟩ := List.mem_map.1 hs
      have := hwz x (List.mem_of_mem_take hx)
      unfold maxLen at this
      exact this

set_option maxRecDepth 100000 in
/-- A string among the arguments. -/
theorem reads_string {H : Type} {enc : TypeId × Value → H} {W : World} {base : Nat} {v : Value} {d : DataW H} {p : List MemPlace} (hv : Value.okWide Try.prog W .any base 9 v) (h : DataW.Trod enc Try.prog W 0 (fun _ => true) true 9 v d p) :
    ∃ l : List UInt8, v = S l ∧ l.length ≤ 9223372036854775807 := by
  have he : Try.prog.underlying 9 = some .string := by kernel_rfl
  obtain ⟨s, rfl, -, -, hs⟩ := open_string he hv h
  refine ⟨s.data.toList, by simp [S], ?_⟩
  unfold maxLen at hs
  exact hs
end Go.Proofs.Ytgknmmnffgikbaa
