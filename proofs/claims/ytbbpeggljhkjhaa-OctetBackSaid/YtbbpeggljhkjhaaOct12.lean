/-
  Numbers as bytes: octet.written, Put, Big, field, U, BigU.
-/
import Derived.Test.YtbbpeggljhkjhaaOct3
import Derived.Test.YtbbpeggljhkjhaaOct9
import Derived.Test.YtbbpeggljhkjhaaOct10
import Derived.Test.YtbbpeggljhkjhaaOct11
namespace Go.Proofs.Ytbbpeggljhkjhaa
open Go.RowKit Go.Fd

def writtenR (n : Nat) (size : Int) : List UInt8 × Int :=
  if Sized size then (if n < 256 ^ size.toNat then (fixed n size.toNat, 0) else ([], 3)) else ([], 1)

set_option maxRecDepth 100000 in
set_option maxHeartbeats 1000000 in
theorem written_any (n : Nat) (size : Int) (w : World) (hn : n < 18446744073709551616) :
    Calls Try.prog 32 #[.int .u64 n, .int .i64 size] w fun e w' =>
      ∃ v', e = .returned (.tuple #[v', .int .i64 (writtenR n size).2]) ∧ OB w' w.heap.size v' (writtenR n size).1 ∧ Below w.heap.size w w' := by
  by_cases hs : Sized size
  · by_cases hr : n < 256 ^ size.toNat
    · have HP := Lib.hid (show writtenR n size = (fixed n size.toNat, 0) by rw [writtenR, if_pos hs, if_pos hr])
      have ht := shift_test n size (by have := sized_bounds hs; omega) false (by simp [hr])
      rcases id hs with rfl | rfl | rfl | rfl
      all_goals
        simp at ht hr
        go_enter Try.func32, Try.ntmps32
        go_wp2_with (first
          | (go_at_call 42; refine (octSized_yes _ _ hs).mono ?_; rintro e w' ⟨rfl, rfl⟩)
          | (go_at_call 43; go_must (refine (bytesOf8_int n 1 _ _ _ (by omega) rfl (by omega) (by omega)).mono ?_; rintro e w1 ⟨v1, rfl, hf, hb1⟩))
          | (go_at_call 44; go_must (refine (bytesOf16_int n 2 _ _ _ (by omega) rfl (by omega) (by omega)).mono ?_; rintro e w1 ⟨v1, rfl, hf, hb1⟩))
          | (go_at_call 45; go_must (refine (bytesOf32_int n 4 _ _ _ (by omega) rfl (by omega) (by omega)).mono ?_; rintro e w1 ⟨v1, rfl, hf, hb1⟩))
          | (go_at_call 46; go_must (refine (bytesOf64_int n 8 _ _ _ rfl rfl hn (by omega)).mono ?_; rintro e w1 ⟨v1, rfl, hf, hb1⟩)))
        go_ret2
        exact ⟨_, by rw [HP.out]; rfl, by rw [HP.out]; exact hf, hb1⟩
    · have HP := Lib.hid (show writtenR n size = ([], 3) by rw [writtenR, if_pos hs, if_neg hr])
      have h0 := (sized_bounds hs).1
      have hlt : size < 8 := by
        rcases hs with rfl | rfl | rfl | rfl
        · decide
        · decide
        · decide
        · exact absurd hn (by simpa using hr)
      have ht := shift_test n size (by omega) true (by simp [hr])
      clear hr
      go_enter Try.func32, Try.ntmps32
      go_wp2_with (go_at_call 42; refine (octSized_yes _ _ hs).mono ?_; rintro e w' ⟨rfl, rfl⟩)
      go_ret2
      exact ⟨_, by rw [HP.out]; rfl, by rw [HP.out]; exact OB.nil _ _, Below.refl _ _⟩
  · have HP := Lib.hid (show writtenR n size = ([], 1) by rw [writtenR, if_neg hs])
    go_enter Try.func32, Try.ntmps32
    go_wp2_with (go_at_call 42; refine (octSized_no _ _ hs).mono ?_; rintro e w' ⟨rfl, rfl⟩)
    go_ret2
    exact ⟨_, by rw [HP.out]; rfl, by rw [HP.out]; exact OB.nil _ _, Below.refl _ _⟩

theorem cell_new {w : World} {cs : Array Value} {e : TypeId} (i : Nat) : (w.alloc (.cells cs e)).cell? ⟨w.heap.size, i, none⟩ = cs[i]? := by
  simp only [World.cell?]
  rw [show (w.alloc (.cells cs e)).heap[w.heap.size]? = some (.cells cs e) from heap_alloc_new w _]
  rfl

theorem bsl_pair {w : World} {u v : Value} {l m : List UInt8} {e : TypeId} (hu : Bs w u l) (hv : Bs w v m) : BsL (w.alloc (.cells #[u, v] e)) (.slice (some ⟨w.heap.size, 0, none⟩) 2 2) [l, m] := by
  refine ⟨[u, v], ⟨rfl, _, 2, rfl, Nat.le_refl _, (fun h => by cases h), fun j hj => ⟨w.heap.size, 0, rfl, ?_⟩⟩, fun i hi => ?_⟩
  · rw [Nat.zero_add, cell_new]; simp
  · have hb := below_alloc w (.cells #[u, v] e)
    match i, hi with
    | 0, _ => exact ⟨u, rfl, hu.mono hb⟩
    | 1, _ => exact ⟨v, rfl, hv.mono hb⟩

theorem putR_eq (l : List UInt8) (n : Nat) (size : Int) (big : Bool) : putR l n size big = if (writtenR n size).2 = 0 then (l ++ (if big then (writtenR n size).1.reverse else (writtenR n size).1), 0) else ([], (writtenR n size).2) := by
  unfold putR writtenR
  split
  · split
    · rfl
    · rfl
  · rfl

theorem written_len (n : Nat) (size : Int) : (writtenR n size).1.length ≤ 8 := by
  unfold writtenR
  split
  · next h => split
              · exact fixed_len_int n h
              · simp
  · simp

set_option maxRecDepth 100000 in
theorem octPut_any (l : List UInt8) (n : Nat) (size : Int) (v : Value) (w : World) (hl : l.length ≤ 1000000000) (hn : n < 18446744073709551616) (hv : Bs w v l) :
    Calls Try.prog 16 #[v, .int .u64 n, .int .i64 size] w fun e w' =>
      ∃ v', e = .returned (.tuple #[v', .int .i64 (putR l n size false).2]) ∧ OB w' w.heap.size v' (putR l n size false).1 ∧ Below w.heap.size w w' := by
  have HW := Lib.hid (written_any n size w hn)
  have HL := Lib.hid (written_len n size)
  have HP := Lib.hid (putR_eq l n size false)
  generalize writtenR n size = r at *
  obtain ⟨x, e⟩ := r
  obtain ⟨m, a, cap, hm, rfl, _⟩ := hv.shape
  by_cases he : e = 0
  · subst he
    have HP2 := Lib.hid (show putR l n size false = (l ++ x, 0) by rw [HP.out]; rfl)
    go_enter Try.func16, Try.ntmps16
    go_wp2_with (first
      | (go_at_call 32; go_must (refine HW.out.mono ?_; rintro e w1 ⟨v1, rfl, hf, hb1⟩; obtain ⟨m1, a1, cap1, hm1, rfl, _⟩ := hf.shape))
      | (go_at_call 33; go_must (refine (concat_any [l, x] _ _ (by have := HL.out; simp at this ⊢; omega) (by simp) (bsl_pair (hv.mono hb1) hf.bs)).mono ?_; rintro e w2 ⟨v2, rfl, hf2, hb2⟩)))
    go_ret2
    exact ⟨_, by rw [HP2.out]; rfl, by rw [HP2.out]; simpa using hf2.base (by simpa using Nat.le_succ_of_le hb1.size), hb1.trans (((Below.refl _ _).alloc hb1.size _).trans (hb2.mono (by simpa using Nat.le_succ_of_le hb1.size)))⟩
  · have he' : (e != 0) = true := bne_iff_ne.2 he
    have HP2 := Lib.hid (show putR l n size false = ([], e) by rw [HP.out]; exact if_neg he)
    clear he
    go_enter Try.func16, Try.ntmps16
    go_wp2_with (go_at_call 32; go_must (refine HW.out.mono ?_; rintro e w1 ⟨v1, rfl, hf, hb1⟩))
    go_ret2
    exact ⟨_, by rw [HP2.out]; rfl, by rw [HP2.out]; exact OB.nil _ _, hb1⟩

set_option maxRecDepth 100000 in
theorem octBig_any (l : List UInt8) (n : Nat) (size : Int) (v : Value) (w : World) (hl : l.length ≤ 1000000000) (hn : n < 18446744073709551616) (hv : Bs w v l) :
    Calls Try.prog 17 #[v, .int .u64 n, .int .i64 size] w fun e w' =>
      ∃ v', e = .returned (.tuple #[v', .int .i64 (putR l n size true).2]) ∧ OB w' w.heap.size v' (putR l n size true).1 ∧ Below w.heap.size w w' := by
  have HW := Lib.hid (written_any n size w hn)
  have HL := Lib.hid (written_len n size)
  have HP := Lib.hid (putR_eq l n size true)
  generalize writtenR n size = r at *
  obtain ⟨x, e⟩ := r
  obtain ⟨m, a, cap, hm, rfl, _⟩ := hv.shape
  by_cases he : e = 0
  · subst he
    have HP2 := Lib.hid (show putR l n size true = (l ++ x.reverse, 0) by rw [HP.out]; rfl)
    go_enter Try.func17, Try.ntmps17
    go_wp2_with (first
      | (go_at_call 32; go_must (refine HW.out.mono ?_; rintro e w1 ⟨v1, rfl, hf, hb1⟩; obtain ⟨m1, a1, cap1, hm1, rfl, _⟩ := hf.shape))
      | (go_at_call 34; go_must (refine (reverse_any x _ _ _ (by have := HL.out; simp at this ⊢; omega) hf).mono ?_; rintro e w3 ⟨rfl, hf3, hb3, hs3⟩; have HS3 := Lib.hid hs3; clear hs3; have hb13 := hb1.trans hb3))
      | (go_at_call 33; go_must (refine (concat_any [l, x.reverse] _ _ (by have := HL.out; simp at this ⊢; omega) (by simp) (bsl_pair (hv.mono hb13) hf3.bs)).mono ?_; rintro e w2 ⟨v2, rfl, hf2, hb2⟩)))
    go_ret2
    exact ⟨_, by rw [HP2.out]; rfl, by rw [HP2.out]; simpa using hf2.base (by simpa using Nat.le_succ_of_le hb13.size), hb13.trans (((Below.refl _ _).alloc hb13.size _).trans (hb2.mono (by simpa using Nat.le_succ_of_le hb13.size)))⟩
  · have he' : (e != 0) = true := bne_iff_ne.2 he
    have HP2 := Lib.hid (show putR l n size true = ([], e) by rw [HP.out]; exact if_neg he)
    clear he
    go_enter Try.func17, Try.ntmps17
    go_wp2_with (go_at_call 32; go_must (refine HW.out.mono ?_; rintro e w1 ⟨v1, rfl, hf, hb1⟩))
    go_ret2
    exact ⟨_, by rw [HP2.out]; rfl, by rw [HP2.out]; exact OB.nil _ _, hb1⟩
end Go.Proofs.Ytbbpeggljhkjhaa
