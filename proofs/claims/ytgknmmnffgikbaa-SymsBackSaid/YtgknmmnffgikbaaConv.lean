/-
  '[]byte(s)' and one byte behind it.
-/
import Derived.Test.YtgknmmnffgikbaaSeq
import Derived.Lib.ConvBytes
import Derived.ArgAppend
namespace Go.Proofs.Ytgknmmnffgikbaa
open Go.RowKit Go.Fd

/-- New bytes of the call's own, whose spare places may be written. -/
def Fresh (w : World) (base : Nat) (v : Value) (l : List UInt8) : Prop := ∃ b cap, v = .slice (some ⟨b, 0, none⟩) l.length cap ∧ base ≤ b ∧ b < w.heap.size ∧ l.length ≤ cap ∧
  (∀ i, i < l.length → w.cell? ⟨b, i, none⟩ = some (.int .u8 (l[i]?.getD 0).toNat)) ∧ (∀ j, j < cap → (w.cell? ⟨b, j, none⟩).isSome = true ∧ w.frozen? ⟨b, j, none⟩ = false)

theorem Fresh.mono {w w' : World} {base : Nat} {v : Value} {l : List UInt8} (h : Fresh w base v l) (hb : Below w.heap.size w w') : Fresh w' base v l := by
  obtain ⟨b, cap, h1, h2, h3, h4, h5, h6⟩ := h
  exact ⟨b, cap, h1, h2, Nat.lt_of_lt_of_le h3 hb.size, h4, fun i hi => (hb.cell h3).trans (h5 i hi), fun j hj => by rw [hb.cell h3, hb.frozen h3]; exact h6 j hj⟩

theorem fresh_conv (w : World) (s : List UInt8) : Fresh (Lib.bytesWorld w 5 ⟨s.toArray⟩) w.heap.size (.slice (some ⟨w.heap.size, 0, none⟩) s.length (grownCap w s.length 0 5)) s ∧ Below w.heap.size w (Lib.bytesWorld w 5 ⟨s.toArray⟩) := by
  have hsz : (⟨s.toArray⟩ : ByteArray).size = s.length := by simp [ByteArray.size]
  have hge := grownCap_ge w s.length 0 5
  have hcs : (Lib.bytesCells w 5 ⟨s.toArray⟩).size = grownCap w s.length 0 5 := by
    unfold Lib.bytesCells
    rw [hsz]
    simp
    omega
  refine ⟨⟨w.heap.size, _, rfl, Nat.le_refl _, by rw [Lib.bytesWorld_size]; omega, hge, fun i hi => ?_, fun j hj => ?_⟩, ⟨?_, ?_, ?_, ?_, ?_⟩⟩
  · rw [Lib.bytesWorld_cell w 5 ⟨s.toArray⟩ i (by rw [hsz]; exact hi)]
    simp [List.getD]
  · constructor
    · simp only [World.cell?, Lib.bytesWorld_at_new]
      rw [Array.getElem?_eq_getElem (by rw [hcs]; exact hj)]
      simp
    · simp only [World.frozen?, Lib.bytesWorld_at_new, hcs]
      simp
      omega
  · rfl
  · rfl
  · rfl
  · rw [Lib.bytesWorld_size]; omega
  · intro k hk; exact Lib.bytesWorld_at_old w _ _ k hk

section
variable {ops : Array Oper} {rest : List Oper} {Q : Exit → Act → World → Prop} {a : Act} {w : World}
/-- '[]byte(s)'. -/
theorem wpList_convS {d : Option Tmp} {ty : TypeId} {pos : String} {aft : Array Edge} {x : Operand} {s : List UInt8} (hx : a.eval x = S s)
    (h : ∀ v' w', Fresh w' w.heap.size v' s → Below w.heap.size w w' → wpList Try.prog ops Q rest (a.put d v') w') :
    wpList Try.prog ops Q (⟨d, .convert 9 23 x, ty, pos, aft, none⟩ :: rest) a w := by
  obtain ⟨h1, h2⟩ := fresh_conv w s
  refine wpList_val rfl ?_ (h _ _ h1 h2)
  have := Lib.run_convert_string_bytes (P := Try.prog) w 9 23 5 ⟨s.toArray⟩ (u := .string) (by kernel_rfl) (by kernel_rfl) (by kernel_rfl)
  rw [show (⟨s.toArray⟩ : ByteArray).size = s.length by simp [ByteArray.size]] at this
  simp [execOp, hx, this, Result.andThen]

/-- .. and a byte behind it. -/
theorem wpList_pushF {d : Option Tmp} {ty : TypeId} {pos : String} {aft : Array Edge} {s x : Operand} {v : Value} {base : Nat} {l : List UInt8} (hown : Fresh w base v l)
    (hs : a.eval s = v) (hx : a.eval x = .slice (some ⟨w.heap.size, 0, none⟩) 1 1) {k : Int} (c : UInt8) (hc : k = c.toNat) (hn : l.length + 1 ≤ 140737488355328)
    (h : ∀ v' w', Bs w' v' (l ++ [c]) → (∃ b cap, v' = .slice (some ⟨b, 0, none⟩) (l.length + 1) cap) → Below base w w' → wpList Try.prog ops Q rest (a.put d v') w') (hb : base ≤ w.heap.size) :
    wpList Try.prog ops Q (⟨d, .call { callee := .builtin .append, args := #[s, x], argTypes := #[23, 23] }, ty, pos, aft, none⟩ :: rest) a (w.alloc (.cells #[.int .u8 k] 5)) := by
  subst hc
  have hba := below_alloc w (.cells #[.int .u8 (c.toNat : Int)] 5)
  obtain ⟨b, cap, rfl, hb1, hb2, hcap, hcell, hspare⟩ := hown.mono hba
  obtain ⟨i, z, h1', h2, h3, h4, h5⟩ := TB.info
  have hnew : ∀ j u, ([Value.int .u8 (c.toNat : Int)] : List Value)[j]? = some u → (w.alloc (.cells #[.int .u8 (c.toNat : Int)] 5)).cell? ((⟨w.heap.size, 0, none⟩ : Addr).add j) = some u := by
    intro j u hj
    have e1 : (⟨w.heap.size, 0, none⟩ : Addr).add j = ⟨w.heap.size, j, none⟩ := by unfold Addr.add; split <;> simp_all
    rw [e1]
    simp only [World.cell?]
    rw [heap_alloc_new w _]
    cases j with
    | zero => simpa using hj
    | succ j => simp at hj
  have hzero : 0 + l.length * 1 = l.length := by omega
  refine wpList_append_arg _ rfl s x 23 rfl 5 i z 1 1 TB.ht h1' h2 h3 h4 h5 (by omega) b 0 l.length cap (l.map B) hs (by simp) (fun j u hj => ?_) ⟨w.heap.size, 0, none⟩ 1 1 [.int .u8 (c.toNat : Int)] hx rfl hnew (by simp [Value.oneCell']) (fun hr j hj => ?_) (maxLen_of hn) (by omega) (fun hr => ?_) (fun hr v' w' ho hg => ?_)
  · have hj' := (List.getElem?_eq_some_iff.1 hj).1
    rw [List.length_map] at hj'
    rw [Nat.zero_add, hcell j hj']
    rw [List.getElem?_map, List.getElem?_eq_getElem hj'] at hj
    rw [List.getElem?_eq_getElem hj']
    exact hj
  · simp at hj
    subst hj
    rw [hzero, Nat.add_zero]
    exact hspare l.length (by omega)
  · have hin := World.cell?_setCells_in b [Value.int .u8 (c.toNat : Int)] (0 + l.length * 1) (w.alloc (.cells #[.int .u8 (c.toNat : Int)] 5)) (fun j hj => by simp at hj; subst hj; rw [hzero, Nat.add_zero]; exact (hspare l.length (by omega)).1) 0 (by simp)
    simp only [hzero, Nat.add_zero] at hin
    rw [hzero]
    refine h _ _ ⟨by simp, _, _, by rw [List.length_append]; rfl, by simp; omega, (fun h => by cases h), fun j hj => ⟨b, 0, rfl, ?_⟩⟩ ⟨b, cap, rfl⟩ ?_
    · rw [show 0 + j = j from Nat.zero_add j]
      simp only [List.length_map, List.length_append, List.length_cons, List.length_nil] at hj
      by_cases hjl : j < l.length
      · rw [World.cell?_setCells_out b _ _ _ _ (fun _ _ => by left; simp only; omega), hcell j hjl, List.getElem?_map, List.getElem?_append_left hjl, List.getElem?_eq_getElem hjl]
        rfl
      · have : j = l.length := by omega
        subst this
        rw [hin]
        simp
    · have : ∀ (vs : List Value) (o : Nat) (u : World), Below base (w) u → Below base w (u.setCells b o vs) := by
        intro vs
        induction vs with
        | nil => intro o u hu; exact hu
        | cons y vs ih => intro o u hu; exact ih _ _ (hu.setCell hb1 _)
      exact this _ _ _ ((Below.refl _ _).alloc hb _)
  · refine h v' w' ?_ ?_ (((Below.refl _ _).alloc hb _).trans (below_of_grown hg (by simp; omega) (fun k hk => by cases hk)))
    · have := Reads.of_owns ho
      unfold Bs
      rw [List.length_append, List.map_append]
      exact this
    · rcases ho.2 with ⟨_, h0⟩ | ⟨g, cap', cur, rfl, _⟩
      · omega
      · exact ⟨g, cap', rfl⟩
end
end Go.Proofs.Ytgknmmnffgikbaa
