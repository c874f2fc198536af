/-
  The statements' own example.
-/
import Derived.Test.YtbbpeggljhkjhaaOct5
import Derived.Test.YtbbpeggljhkjhaaOct13
import Derived.Test.YtbbpeggljhkjhaaOct16
import Derived.Test.YtbbpeggljhkjhaaOct17
import Derived.Test.YtbbpeggljhkjhaaOct18
import Derived.Test.YtbbpeggljhkjhaaLaw1
namespace Go.Proofs.Ytbbpeggljhkjhaa
open Go.RowKit Go.Fd


theorem put_lit (w : World) : Calls Try.prog 16 #[.slice none 0 0, .int .u64 258, .int .i64 2] w fun e w' => ∃ v', e = .returned (.tuple #[v', .int .i64 0]) ∧ OB w' w.heap.size v' [2, 1] ∧ Below w.heap.size w w' := by
  have h1 : putR [] 258 2 false = ([2, 1], 0) := by decide +kernel
  have := octPut_any [] 258 2 (.slice none 0 0) w (by simp) (by omega) (Bs.nil w)
  rw [h1] at this
  exact this
theorem u_lit (w : World) (v : Value) (h : Bs w v [1, 2]) : Calls Try.prog 18 #[v, .int .i64 0, .int .i64 2] w fun e w' => e = .returned (.tuple #[.int .u64 513, .int .i64 0]) ∧ w = w' := by
  have h1 : getR [1, 2] 0 2 false = (513, 0) := by decide +kernel
  have := octU_any [1, 2] 0 2 v w (by simp) h
  rw [h1] at this
  exact this
theorem sleb_lit (w : World) (v : Value) (h : Bs w v [255, 127]) : Calls Try.prog 8 #[v, .int .i64 0] w fun e w' => e = .returned (.tuple #[.int .i64 (-1), .int .i64 2, .int .i64 0]) ∧ w = w' := by
  have h1 : readSlebR [255, 127] 0 = (-1, 2, 0) := by decide +kernel
  have := octReadSleb_any [255, 127] 0 v w (by simp) h
  rw [h1] at this
  exact this
theorem leb_lit (w : World) : Calls Try.prog 11 #[.int .u64 300] w fun e w' => ∃ v, e = .returned v ∧ OB w' w.heap.size v [172, 2] ∧ Below w.heap.size w w' := by
  have h1 : leb 9 300 = [172, 2] := by decide +kernel
  have := octLeb_any 300 w (by omega)
  rw [h1] at this
  exact this

set_option maxHeartbeats 1000000 in
set_option maxRecDepth 100000 in
theorem begun_any (w : World) : Calls Try.prog 6 #[] w fun e w' => e = .returned (.bool true) ∧ Below w.heap.size w w' := by
  go_enter Try.func6, Try.ntmps6
  go_wp2_with fail
  refine (put_lit _).mono ?_
  rintro e w1 ⟨v1, rfl, hv1, hb1⟩
  go_wp2_with fail
  refine (u_lit _ _ (bs_lit w1 [1, 2] #[.int .u8 1, .int .u8 2] 2 rfl rfl)).mono ?_
  rintro e w2 ⟨rfl, rfl⟩
  have hb2 := (below_alloc w1 (.cells #[.int .u8 1, .int .u8 2] 5)).trans ((below_alloc (w1.alloc (.cells #[.int .u8 1, .int .u8 2] 5)) (.cells #[.int .u8 255, .int .u8 127] 5)).mono (by simp))
  have hs := run_str (hv1.bs.mono hb2)
  have hbs := bs_lit (w1.alloc (.cells #[.int .u8 1, .int .u8 2] 5)) [255, 127] #[.int .u8 255, .int .u8 127] 2 rfl rfl
  rw [World.size_alloc] at hbs
  have HBS := Lib.hid hbs
  have HB := Lib.hid (hb1.trans (hb2.mono hb1.size))
  clear hb2 hbs
  go_wp2_with fail
  refine (sleb_lit _ _ HBS.out).mono ?_
  rintro e w3 ⟨rfl, rfl⟩
  go_wp2_with fail
  refine (leb_lit _).mono ?_
  rintro e w4 ⟨v4, rfl, hv4, hb4⟩
  have hs4 := run_str hv4.bs
  go_wp2
  go_ret
  exact ⟨rfl, HB.out.trans (hb4.mono (by have := HB.out.size; simpa using this))⟩
end Go.Proofs.Ytbbpeggljhkjhaa
