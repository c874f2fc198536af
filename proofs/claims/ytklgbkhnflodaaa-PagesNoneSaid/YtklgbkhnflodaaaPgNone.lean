/-
  PagesNone walked: a nil memory answers nothing.
-/
import Derived.Test.YtklgbkhnflodaaaPgBeg
namespace Go.Proofs.Ytklgbkhnflodaaa
open Go.RowKit Go.Fd

theorem fetch_nil (w : World) (a : Nat) (ha : a < 18446744073709551616) : Calls Try.prog 18 #[.pointer none, .int .u64 a, .int .i64 4] w fun e w' => e = .returned (.tuple #[.slice none 0 0, .int .i64 21]) ∧ w = w' := by
  have HM := Lib.hid (show ∀ wx, Calls Try.prog 23 #[.pointer none, .int .u64 (a : Int), .int .i64 1, .int .i64 1] wx fun e w' => e = .returned (.bool false) ∧ wx = w' from fun wx => by
    have HL := Lib.hid (last_in a 1 wx (by omega) (by omega))
    go_enter Try.func23, Try.ntmps23
    go_wp2_with (first
      | (go_at_call 20; go_must (refine HL.out.mono ?_; rintro e w1 ⟨rfl, rfl⟩))
      | (go_at_call 21; go_must (refine (none_nil _).mono ?_; rintro e w1 ⟨rfl, rfl⟩)))
    go_ret
    exact ⟨rfl, rfl⟩)
  go_enter Try.func18, Try.ntmps18
  go_wp2
  refine wp_loop_rounds 1 ?_
  rw [rounds_succ]
  go_wp2_with (go_at_call 23; go_must (refine (HM.out _).mono ?_; rintro e w1 ⟨rfl, rfl⟩))
  go_ret2
  exact ⟨rfl, rfl⟩
theorem copy_nil (w : World) : Calls Try.prog 19 #[.pointer none] w fun e w' => e = .returned (.pointer none) ∧ Below w.heap.size w w' := by
  go_enter Try.func19, Try.ntmps19
  go_wp2_with (first
      | (go_at_call 21; go_must (refine (none_nil _).mono ?_; rintro e w1 ⟨rfl, rfl⟩)))
  go_ret
  exact ⟨rfl, Below.refl _ _⟩

set_option maxRecDepth 100000 in
set_option maxHeartbeats 1000000 in
theorem pagesNone_any (c0 c3 c4 c5 : Value) (a n : Nat) (w : World) (ha : a < 18446744073709551616) :
    Calls Try.prog 7 #[.agg #[c0, .int .u64 a, .int .u64 n, c3, c4, c5]] w fun e w' => e = .returned (.bool true) ∧ Below w.heap.size w w' := by
  go_enter Try.func7, Try.ntmps7
  go_wp2_with fail
  refine (begun_pages _).mono ?_
  rintro e w1 ⟨rfl, hb1⟩
  have hbb := (below_alloc w (.cells #[c0, .int .u64 a, .int .u64 n, c3, c4, c5] 49)).trans (hb1.mono (by simp))
  have hc : ∀ i v, (#[c0, .int .u64 a, .int .u64 n, c3, c4, c5] : Array Value)[i]? = some v → w1.cell? ⟨w.heap.size, i, none⟩ = some v := fun i v hv => by
    rw [hb1.cell (p := ⟨w.heap.size, i, none⟩) (by simp)]
    rw [block_cell (heap_alloc_new w _)]
    exact hv
  have k1 := hc 1 _ rfl
  have k2 := hc 2 _ rfl
  have k5 := hc 5 _ rfl
  clear hb1 hc
  go_wp2_with fail
  refine (load_nil _ a 4 rfl).mono ?_; rintro e w2 ⟨rfl, rfl⟩
  go_wp2_with fail
  refine (fetch_nil _ a ha).mono ?_; rintro e w2 ⟨rfl, rfl⟩
  go_wp2_with fail
  refine (bytes_nil _ a 4 (by omega) (by omega)).mono ?_; rintro e w2 ⟨rfl, rfl⟩
  go_wp2_with fail
  refine (load_bad _ _ a 3 rfl).mono ?_; rintro e w2 ⟨rfl, rfl⟩
  go_wp2_with fail
  refine (map_nil _ a 1 4 (by omega) (by omega) (by omega) (by omega)).mono ?_; rintro e w2 ⟨rfl, rfl⟩
  go_wp2_with fail
  refine (set_nil _ _ a).mono ?_; rintro e w2 ⟨rfl, rfl⟩
  go_wp2_with fail
  refine (store_nil _ a 4 n rfl).mono ?_; rintro e w2 ⟨rfl, rfl⟩
  go_wp2_with fail
  refine (rights_nil a _).mono ?_; rintro e w2 ⟨rfl, rfl⟩
  go_wp2_with fail
  refine (count_nil _).mono ?_; rintro e w2 ⟨rfl, rfl⟩
  go_wp2_with fail
  refine (copy_nil _).mono ?_; rintro e w2 ⟨rfl, hb2⟩
  go_wp2_with fail
  go_ret
  exact ⟨rfl, hbb.trans (hb2.mono hbb.size)⟩
end Go.Proofs.Ytklgbkhnflodaaa
