/-
  Names: what may be one.
-/
import Derived.Test.YtgknmmnffgikbaaSeq
import Derived.Test.YtgknmmnffgikbaaText
import Derived.Test.YtgknmmnffgikbaaShelf
import Derived.Lib.IndexAny
namespace Go.Proofs.Ytgknmmnffgikbaa
open Go.RowKit Go.Fd

/-- May it be a name? -/
def mayS (s : List UInt8) : Bool := decide (s.length ≤ 128) && !decide (0 ∈ s)

theorem mayS_len {s : List UInt8} (h : mayS s = true) : s.length ≤ 128 := by unfold mayS at h; simp at h; exact h.1

theorem contains0 (s : List UInt8) (w : World) : Calls Try.prog 95 #[S s, .string ⟨#[0]⟩] w fun e w' => e = .returned (.bool (decide (0 ∈ s))) ∧ w = w' := by
  refine (Try.strings_Contains_one ⟨s.toArray⟩ 0 w).mono fun e w' ⟨he, hw⟩ => ⟨?_, hw.symm⟩
  rw [he]
  simp only [← Lib.contains_iff_indexByte, List.contains_eq_mem]

theorem sizeS (s : List UInt8) : (⟨s.toArray⟩ : ByteArray).size = s.length := by simp [ByteArray.size]

theorem strsMay_any (s : List UInt8) (w : World) : Calls Try.prog 54 #[S s] w fun e w' => e = .returned (.bool (mayS s)) ∧ w = w' := by
  by_cases h : s.length ≤ 128
  · have HR := Lib.hid (show mayS s = !decide (0 ∈ s) by unfold mayS; rw [decide_eq_true h, Bool.true_and])
    have h2 : (⟨s.toArray⟩ : ByteArray).size ≤ 128 := by rw [sizeS]; exact h
    go_enter Try.func54, Try.ntmps54
    go_wp2_with (go_at_call 95; go_must (refine (contains0 s _).mono ?_; rintro e w1 ⟨rfl, rfl⟩))
    go_ret
    exact ⟨by rw [HR.out]; rfl, rfl⟩
  · have HR := Lib.hid (show mayS s = false by unfold mayS; rw [decide_eq_false h, Bool.false_and])
    have h2 : ¬ (⟨s.toArray⟩ : ByteArray).size ≤ 128 := by rw [sizeS]; exact h
    go_enter Try.func54, Try.ntmps54
    go_wp2
    go_ret
    exact ⟨by rw [HR.out]; rfl, rfl⟩

theorem ref3May_any (s : List UInt8) (w : World) (hs : s.length ≤ 9223372036854775807) : Calls Try.prog 57 #[S s] w fun e w' => e = .returned (.bool (mayS s)) ∧ w = w' := by
  go_enter Try.func57, Try.ntmps57
  go_wp2
  go_loop [3] (fun i => ∃ k : Nat, i = .int .i64 k ∧ k ≤ s.length ∧ Hid (0 ∉ s.take k)) (fun i => s.length - (intOf i).toNat)
  case atStart => exact ⟨0, rfl, Nat.zero_le _, by simp [Hid]⟩
  case round =>
    obtain ⟨k, rfl, hk, HK⟩ := hrel
    by_cases hlt : k < s.length
    · have hb : ∀ h, (⟨s.toArray⟩ : ByteArray)[k]'h = s[k] := fun _ => rfl
      have HB := Lib.hid hb
      clear hb
      go_wp2
      · rename_i hz _
        have h0 : s[k] = 0 := by
          have h1 := hz
          rw [HB.out] at h1
          exact UInt8.toNat_inj.1 (by simpa using h1)
        have HR := Lib.hid (show mayS s = false by unfold mayS; rw [decide_eq_true (show (0 : UInt8) ∈ s by rw [← h0]; exact List.getElem_mem hlt)]; simp)
        go_ret
        exact ⟨by rw [HR.out]; rfl, rfl⟩
      · rename_i hz
        have h0 : s[k] ≠ 0 := by
          intro e
          have h1 := hz
          rw [HB.out, e] at h1
          simp at h1
        go_round
        case rel =>
          refine ⟨k + 1, by go_num, by omega, ?_⟩
          show 0 ∉ _
          rw [take_snoc' s k s[k] (List.getElem?_eq_getElem hlt)]
          intro hm
          rcases List.mem_append.1 hm with hm | hm
          · exact HK.out hm
          · simp at hm; exact h0 hm.symm
        case measure => simp [intOf] <;> omega
    · obtain rfl : k = s.length := by omega
      have HR := Lib.hid (show mayS s = decide (s.length ≤ 128) by
        have := HK.out
        rw [List.take_length] at this
        unfold mayS
        rw [decide_eq_false this]; simp)
      go_wp2
      go_ret
      refine ⟨by rw [HR.out]; exact ret1 (bool_eq (by simp; omega)), rfl⟩
end Go.Proofs.Ytgknmmnffgikbaa
