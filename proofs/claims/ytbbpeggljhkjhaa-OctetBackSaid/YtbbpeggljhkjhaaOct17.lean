/-
  Bytes filled up, and texts: slices.Clone, octet.Pad, bytes.IndexByte, octet.Text.
-/
import Derived.Test.YtbbpeggljhkjhaaOct8
namespace Go.Proofs.Ytbbpeggljhkjhaa
open Go.RowKit Go.Fd

set_option maxRecDepth 100000 in
theorem clone_any (l : List UInt8) (v : Value) (w : World) (hl : l.length ≤ 1000000000) (hv : Bs w v l) :
    Calls Try.prog 36 #[v] w fun e w' => ∃ v', e = .returned v' ∧ OB w' w.heap.size v' l ∧ Below w.heap.size w w' := by
  obtain ⟨m, a, cap, hm, rfl, hmc, h0⟩ := hv.shape
  cases a with
  | none =>
    obtain rfl := h0 rfl
    obtain rfl : m = 0 := by omega
    obtain rfl : l = [] := List.eq_nil_of_length_eq_zero hm.out.symm
    have hnil : ∀ w, (binOp .eql 22 (.slice none 0 0) (.slice none 0 0)).run Try.prog w = .ok (.bool true) w := fun w => by kernel_rfl
    go_enter Try.func36, Try.ntmps36
    go_wp2
    go_ret
    exact ⟨_, rfl, OB.nil _ _, Below.refl _ _⟩
  | some ad =>
    have hne : ∀ w, (binOp .eql 22 (.slice (some ad) m cap) (.slice none 0 0)).run Try.prog w = .ok (.bool false) w := fun w => by kernel_rfl
    have ho : OB (w.alloc (.cells #[] 5)) w.heap.size (.slice (some ⟨w.heap.size, 0, none⟩) 0 0) [] := World.ownsRow_made (e := 5) (size := 1) w #[] 0 (Nat.le_refl _) (by unfold maxLen; omega) rfl
    go_enter Try.func36, Try.ntmps36
    go_wp2_with (with_reducible show wpList _ _ _ (⟨some 7, _, _, _, _, _⟩ :: _) _ _; go_must (refine wpList_catB ho (hv.mono (below_alloc w _)) rfl rfl (by simp; omega) (by simp) ?_; intro v2 w2 hv2 _ hb2))
    go_ret
    exact ⟨_, rfl, by simpa using hv2, ((Below.refl _ _).alloc (Nat.le_refl _) _).trans hb2⟩

set_option maxRecDepth 100000 in
theorem octPad_any (l : List UInt8) (align : Int) (fill : UInt8) (v : Value) (w : World) (hl : l.length ≤ 1000000000) (hv : Bs w v l) :
    Calls Try.prog 21 #[v, .int .i64 align, .int .u8 fill.toNat] w fun e w' =>
      ∃ v', e = .returned (.tuple #[v', .int .i64 (padR l align fill).2]) ∧ OB w' w.heap.size v' (padR l align fill).1 ∧ Below w.heap.size w w' := by
  by_cases h1 : align < 1
  · have HR := Lib.hid (show padR l align fill = ([], 1) by rw [padR, if_pos (.inl h1)])
    go_enter Try.func21, Try.ntmps21
    go_wp2
    go_ret2
    exact ⟨_, by rw [HR.out]; rfl, by rw [HR.out]; exact OB.nil _ _, Below.refl _ _⟩
  by_cases h2 : 65536 < align
  · have HR := Lib.hid (show padR l align fill = ([], 1) by rw [padR, if_pos (.inr h2)])
    go_enter Try.func21, Try.ntmps21
    go_wp2
    go_ret2
    exact ⟨_, by rw [HR.out]; rfl, by rw [HR.out]; exact OB.nil _ _, Below.refl _ _⟩
  have HR := Lib.hid (show padR l align fill = (l ++ List.replicate (padN l.length align.toNat) fill, 0) by rw [padR, if_neg (by omega)])
  obtain ⟨al, rfl⟩ := Int.eq_ofNat_of_zero_le (by omega : 0 ≤ align)
  rw [Int.toNat_natCast] at HR
  have hpn := padN_lt l.length al (by omega)
  have HT := Lib.hid (fun j hj m hm => pad_test l.length j al (by omega) hj m hm)
  generalize padN l.length al = p at *
  go_enter Try.func21, Try.ntmps21
  go_wp2_with (go_at_call 36; go_must (refine (clone_any l _ _ hl hv).mono ?_; rintro e w1 ⟨v1, rfl, hv1, hb1⟩))
  go_loopw [8] (fun v wr => ∃ j : Nat, j ≤ p ∧ OB wr w.heap.size v (l ++ List.replicate j fill) ∧ Below w.heap.size w wr ∧ Hid (lenV v = l.length + j)) (fun v _ => l.length + p - lenV v)
  case atStart =>
    obtain ⟨m, a1, cap1, hm, rfl, _⟩ := hv1.shape
    exact ⟨0, Nat.zero_le _, by simpa using hv1, hb1, by have := hm.out; show m = _; simpa using this⟩
  case round =>
    obtain ⟨j, hj, hown, hb, HL⟩ := hrel
    obtain ⟨m, a1, cap1, hm, rfl, hcm, _⟩ := hown.shape
    have HM := Lib.hid (show m = l.length + j from HL.out)
    have hmb : m ≤ 1000065536 := by have := HM.out; omega
    have ht := HT.out j hj m HM.out
    by_cases hlt : j < p
    · rw [decide_eq_true hlt] at ht
      go_wp2_with (at_builtin; go_must (refine wpList_pushB hown rfl rfl fill rfl (by simp; omega) hb.size ?_; intro v2 w2 hv2 _ hb2))
      go_roundw
      case rel => exact ⟨j + 1, by omega, by rw [List.replicate_succ', ← List.append_assoc]; exact hv2, hb.trans hb2, by obtain ⟨m, a1, cap1, hm, rfl, _⟩ := hv2.shape; have := hm.out; show m = _; simp at this; omega⟩
      case measure =>
        obtain ⟨m', a2, cap2, hm', rfl, _⟩ := hv2.shape
        have e1 := hm'.out
        have e2 := HM.out
        simp at e1
        simp [lenV]; omega
    · rw [decide_eq_false hlt] at ht
      obtain rfl : j = p := by omega
      go_wp2
      go_ret2
      exact ⟨_, by rw [HR.out]; rfl, by rw [HR.out]; exact hown, hb⟩
end Go.Proofs.Ytbbpeggljhkjhaa
