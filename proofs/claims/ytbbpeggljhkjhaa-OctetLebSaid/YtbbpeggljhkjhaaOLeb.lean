/-
  The statement OctetLeb, walked.
-/
import Derived.Test.YtbbpeggljhkjhaaOBeg
import Derived.Test.YtbbpeggljhkjhaaPersB
namespace Go.Proofs.Ytbbpeggljhkjhaa
open Go.RowKit Go.Fd

theorem leb_length (k n : Nat) : (leb k n).length ≤ k + 1 := by
  induction k generalizing n with
  | zero => simp [leb]
  | succ k ih => rw [leb]; split <;> simp; exact ih _
theorem sleb_length (k : Nat) (n : Int) : (sleb k n).length ≤ k + 1 := by
  induction k generalizing n with
  | zero => simp [sleb]
  | succ k ih => rw [sleb]; split <;> simp; exact ih _
theorem leb_len (n : Nat) : (leb 9 n).length ≤ 1000000000 := Nat.le_trans (leb_length 9 n) (by omega)
theorem sleb_len (n : Int) : (sleb 9 n).length ≤ 1000000000 := Nat.le_trans (sleb_length 9 n) (by omega)

theorem wrap64_lo (x : Int) : -9223372036854775808 ≤ wrap64 x := by rw [wrap64]; omega
theorem wrap64_hi (x : Int) : wrap64 x < 9223372036854775808 := by rw [wrap64]; omega

set_option maxHeartbeats 4000000 in
set_option maxRecDepth 100000 in
theorem octetLeb_any (l : List UInt8) (at_ : Int) (n : Nat) (v : Value) (w : World) (hn : n < 18446744073709551616) (hat : at_ < 9223372036854775808) (hv : Bs w v l) (hl : l.length ≤ 3000) :
    Calls Try.prog 3 #[v, .int .i64 at_, .int .u64 n] w fun e w' => e = .returned (.bool true) ∧ Below w.heap.size w w' := by
  obtain ⟨m, a, cap, hm, rfl, hmc, _⟩ := hv.shape
  have hml : m ≤ 3000 := by have := hm.out; omega
  have HAT := Lib.hid hat
  have HN := Lib.hid hn
  clear hat hn
  go_enter Try.func3, Try.ntmps3
  go_wp2_with (go_at_call 6; go_must (refine (begun_any _).mono ?_; rintro e w1 ⟨rfl, hb1⟩))
  refine (octReadLeb_any l at_ _ _ (by omega) (hv.mono hb1)).mono ?_
  rintro e w1' ⟨rfl, rfl⟩
  go_wp2_with fail
  refine (octReadSleb_any l at_ _ _ (by omega) (hv.mono hb1)).mono ?_
  rintro e w1' ⟨rfl, rfl⟩
  go_wp2_with fail
  refine (refReadLeb_any l at_ _ _ (by omega) (hv.mono hb1) HAT.out).mono ?_
  rintro e w2 ⟨rfl, hb2⟩
  have hb12 := hb1.trans (hb2.mono hb1.size)
  clear hb1 hb2
  go_wp2_with fail
  refine (refReadSleb_any l at_ _ _ (by omega) (hv.mono hb12) HAT.out).mono ?_
  rintro e w3 ⟨rfl, hb3⟩
  have hb13 := hb12.trans (hb3.mono hb12.size)
  clear hb12 hb3
  generalize readLebR l at_ = r1
  generalize readSlebR l at_ = r2
  obtain ⟨r11, r12, r13⟩ := r1
  obtain ⟨r21, r22, r23⟩ := r2
  go_wp2_with fail
  refine (octLeb_any n _ HN.out).mono ?_
  rintro e w4 ⟨u, rfl, hu, hb4⟩
  have HS1 := Lib.hid (wrap64_lo (n : Int))
  have HS2 := Lib.hid (wrap64_hi (n : Int))
  go_wp2_with fail
  refine (octSleb_any (wrap64 n) _ HS1.out HS2.out).mono ?_
  rintro e w5 ⟨s, rfl, hs, hb5⟩
  have hu5 := hu.mono hb5
  have HSZ := Lib.hid (show w.heap.size ≤ w3.heap.size ∧ w3.heap.size ≤ w4.heap.size ∧ w4.heap.size ≤ w5.heap.size from ⟨hb13.size, hb4.size, hb5.size⟩)
  have hb15 := hb13.trans ((hb4.mono hb13.size).trans (hb5.mono (Nat.le_trans hb13.size hb4.size)))
  have HUB := Lib.hid hu
  clear hu hb4 hb5 hb13
  go_wp2_with fail
  refine wp_region_stab [.is (u), .is (S (leb 9 n)), .is (.int .u64 n), .bs (leb 9 n), .is (S (leb 9 n)), .is (.bool true), .is (.bool true), .is (s), .is (S (sleb 9 (wrap64 n))), .is (.int .u64 n), .is (.int .i64 (wrap64 n)), .bs (sleb 9 (wrap64 n)), .is (S (sleb 9 (wrap64 n))), .is (.bool true), .is (.bool true), .is (.bool true)] (by kernel_rfl) (by kernel_rfl) ?_ ?_
  · refine .cons (fun a wx h => ?_) ?_
    · exact OpTo.is (wanted_free rfl) (run_move (h.old 19 (by kernel_rfl)))
    refine .cons (fun a wx h => ?_) ?_
    · exact OpTo.is (wanted_free rfl) (run_conv (h.dep 0 _ 60 rfl rfl (by kernel_rfl)) (run_str (Bs.mono (w := w5.drew) hu5.bs h.below)))
    refine .cons (fun a wx h => ?_) ?_
    · exact OpTo.is (wanted_free rfl) (run_move (h.old 2 (by kernel_rfl)))
    refine .cons (fun a wx h => ?_) ?_
    · refine OpTo.call (wanted_free rfl) (run_call (vals := #[.int .u64 n]) Try.func13 (by kernel_rfl) rfl (by have e0 := (show a.eval (.tmp 62) = .int .u64 n from (h.dep 2 _ 62 rfl rfl (by kernel_rfl))); simp [*])) ?_
      refine (refLeb_any n _ HN.out).mono ?_
      rintro e w' ⟨v, rfl, hv, hb⟩
      exact ⟨v, rfl, hv.bs, hb⟩
    refine .cons (fun a wx h => ?_) ?_
    · exact OpTo.is (wanted_free rfl) (run_conv rfl (run_str (h.dep 3 _ 63 rfl rfl (by kernel_rfl))))
    refine .cons (fun a wx h => ?_) ?_
    · exact OpTo.is (wanted_free rfl) (run_bin (h.dep 1 _ 61 rfl rfl (by kernel_rfl)) (h.dep 4 _ 64 rfl rfl (by kernel_rfl)) (by simp [eqGuard, binOp, Op.stringOp]))
    refine .cons (fun a wx h => ?_) ?_
    · exact OpTo.is (wanted_free rfl) (run_move (h.dep 5 _ 65 rfl rfl (by kernel_rfl)))
    refine .cons (fun a wx h => ?_) ?_
    · exact OpTo.is ((wanted_on (oj := _) rfl rfl rfl (by rw [h.size]; simp) (show a.eval (.tmp 66) = .bool true from h.dep 6 _ 66 rfl rfl (by kernel_rfl))).trans rfl) (run_move (h.old 20 (by kernel_rfl)))
    refine .cons (fun a wx h => ?_) ?_
    · exact OpTo.is ((wanted_on (oj := _) rfl rfl rfl (by rw [h.size]; simp) (show a.eval (.tmp 66) = .bool true from h.dep 6 _ 66 rfl rfl (by kernel_rfl))).trans rfl) (run_conv (h.dep 7 _ 67 rfl rfl (by kernel_rfl)) (run_str (Bs.mono (w := w5.drew) hs.bs h.below)))
    refine .cons (fun a wx h => ?_) ?_
    · exact OpTo.is ((wanted_on (oj := _) rfl rfl rfl (by rw [h.size]; simp) (show a.eval (.tmp 66) = .bool true from h.dep 6 _ 66 rfl rfl (by kernel_rfl))).trans rfl) (run_move (h.old 2 (by kernel_rfl)))
    refine .cons (fun a wx h => ?_) ?_
    · exact OpTo.is ((wanted_on (oj := _) rfl rfl rfl (by rw [h.size]; simp) (show a.eval (.tmp 66) = .bool true from h.dep 6 _ 66 rfl rfl (by kernel_rfl))).trans rfl) (run_conv (h.dep 9 _ 69 rfl rfl (by kernel_rfl)) (convU64 n wx))
    refine .cons (fun a wx h => ?_) ?_
    · refine OpTo.call ((wanted_on (oj := _) rfl rfl rfl (by rw [h.size]; simp) (show a.eval (.tmp 66) = .bool true from h.dep 6 _ 66 rfl rfl (by kernel_rfl))).trans rfl) (run_call (vals := #[.int .i64 (wrap64 n)]) Try.func14 (by kernel_rfl) rfl (by have e0 := (show a.eval (.tmp 70) = .int .i64 (wrap64 n) from (h.dep 10 _ 70 rfl rfl (by kernel_rfl))); simp [*])) ?_
      refine (refSleb_any (wrap64 n) _ HS1.out HS2.out).mono ?_
      rintro e w' ⟨v, rfl, hv, hb⟩
      exact ⟨v, rfl, hv.bs, hb⟩
    refine .cons (fun a wx h => ?_) ?_
    · exact OpTo.is ((wanted_on (oj := _) rfl rfl rfl (by rw [h.size]; simp) (show a.eval (.tmp 66) = .bool true from h.dep 6 _ 66 rfl rfl (by kernel_rfl))).trans rfl) (run_conv rfl (run_str (h.dep 11 _ 71 rfl rfl (by kernel_rfl))))
    refine .cons (fun a wx h => ?_) ?_
    · exact OpTo.is ((wanted_on (oj := _) rfl rfl rfl (by rw [h.size]; simp) (show a.eval (.tmp 66) = .bool true from h.dep 6 _ 66 rfl rfl (by kernel_rfl))).trans rfl) (run_bin (h.dep 8 _ 68 rfl rfl (by kernel_rfl)) (h.dep 12 _ 72 rfl rfl (by kernel_rfl)) (by simp [eqGuard, binOp, Op.stringOp]))
    refine .cons (fun a wx h => ?_) ?_
    · exact OpTo.is (wanted_free rfl) (run_pick (show a.eval (.tmp 66) = .bool true from (h.dep 6 _ 66 rfl rfl (by kernel_rfl))) (h.dep 13 _ 73 rfl rfl (by kernel_rfl)) rfl rfl)
    refine .cons (fun a wx h => ?_) ?_
    · exact OpTo.is (wanted_free rfl) (run_assign (h.dep 14 _ 74 rfl rfl (by kernel_rfl)))
    exact .nil
  intro vs wz hbz hv
  have h0 : vs 0 = u := hv 0 (by decide)
  have h1 : vs 1 = S (leb 9 n) := hv 1 (by decide)
  have h2 : vs 2 = .int .u64 n := hv 2 (by decide)
  have g3 := hv 3 (by decide)
  have h4 : vs 4 = S (leb 9 n) := hv 4 (by decide)
  have h5 : vs 5 = .bool true := hv 5 (by decide)
  have h6 : vs 6 = .bool true := hv 6 (by decide)
  have h7 : vs 7 = s := hv 7 (by decide)
  have h8 : vs 8 = S (sleb 9 (wrap64 n)) := hv 8 (by decide)
  have h9 : vs 9 = .int .u64 n := hv 9 (by decide)
  have h10 : vs 10 = .int .i64 (wrap64 n) := hv 10 (by decide)
  have g11 := hv 11 (by decide)
  have h12 : vs 12 = S (sleb 9 (wrap64 n)) := hv 12 (by decide)
  have h13 : vs 13 = .bool true := hv 13 (by decide)
  have h14 : vs 14 = .bool true := hv 14 (by decide)
  have h15 : vs 15 = .bool true := hv 15 (by decide)
  simp only [putAll, Nat.zero_add, Nat.reduceAdd, h0, h1, h2, h4, h5, h6, h7, h8, h9, h10, h12, h13, h14, h15]
  clear hv h0 h1 h2 h4 h5 h6 h7 h8 h9 h10 h12 h13 h14 h15
  go_frame
  clear g3 g11
  have hb1z := hb15.trans (hbz.mono (Nat.le_trans HSZ.out.1 (Nat.le_trans HSZ.out.2.1 HSZ.out.2.2)))
  have huz := hu5.mono hbz
  have hsz := hs.mono hbz
  have HNE := Lib.hid (fun (k : Nat) (hk : s.ownBlock = some k) (g : Nat) (hg : u.ownBlock = some g) => show k ≠ g from by
    have h1 := (hs.lt k hk).1
    have h2 := (HUB.out.lt g hg).2
    omega)
  clear hbz hb15 hu5 hs
  go_wp2_with fail
  refine (spoil_any (leb 9 n) w3.heap.size u _ (leb_len n) huz).mono ?_
  rintro e w8 ⟨rfl, hg8⟩
  have hs8 : OB w8 w4.heap.size s (sleb 9 (wrap64 n)) := by
    cases hu : u.ownBlock with
    | none => exact hsz.mono (below_grown (by rw [hu] at hg8; exact hg8))
    | some g => exact grown_owns hsz (by rw [hu] at hg8; exact hg8) fun k hk => HNE.out k hk g hu
  have hb18 : Below w.heap.size w w8 := hb1z.trans (below_of_grown hg8 hb1z.size fun k hk => Nat.le_trans HSZ.out.1 (HUB.out.lt k hk).1)
  have HSB := Lib.hid hsz
  clear hb1z huz hsz hg8
  go_wp2_with fail
  refine (spoil_any (sleb 9 (wrap64 n)) w4.heap.size s _ (sleb_len _) hs8).mono ?_
  rintro e w9 ⟨rfl, hg9⟩
  have hb19 : Below w.heap.size w w9 := hb18.trans (below_of_grown hg9 hb18.size fun k hk => Nat.le_trans (Nat.le_trans HSZ.out.1 HSZ.out.2.1) (HSB.out.lt k hk).1)
  clear hb18 hs8 hg9
  go_wp2_with fail
  refine wp_region_stab [.is (.bool true), .is (.bool true), .is (.int .u64 r11), .is (.int .u64 r11), .is (.bool true), .is (.bool true), .is (.bool true), .is (.int .i64 r12), .is (.int .i64 r12), .is (.bool true), .is (.bool true), .is (.bool true), .is (.int .i64 r13), .is (.int .i64 r13), .is (.bool true), .is (.bool true), .is (.bool true), .is (.int .i64 r21), .is (.int .i64 r21), .is (.bool true), .is (.bool true), .is (.bool true), .is (.int .i64 r22), .is (.int .i64 r22), .is (.bool true), .is (.bool true), .is (.bool true), .is (.int .i64 r23), .is (.int .i64 r23), .is (.bool true), .is (.bool true), .is (.bool true), .is (.int .u64 n), .bs (leb 9 n), .is (S (leb 9 n)), .is (.int .u64 n), .bs (leb 9 n), .is (S (leb 9 n)), .is (.bool true), .is (.bool true), .is (.bool true)] (by kernel_rfl) (by kernel_rfl) ?_ ?_
  · refine .cons (fun a wx h => ?_) ?_
    · exact OpTo.is (wanted_free rfl) (run_move (h.old 21 (by kernel_rfl)))
    refine .cons (fun a wx h => ?_) ?_
    · exact OpTo.is (wanted_free rfl) (run_move (h.dep 0 _ 79 rfl rfl (by kernel_rfl)))
    refine .cons (fun a wx h => ?_) ?_
    · exact OpTo.is ((wanted_on (oj := _) rfl rfl rfl (by rw [h.size]; simp) (show a.eval (.tmp 80) = .bool true from h.dep 1 _ 80 rfl rfl (by kernel_rfl))).trans rfl) (run_move (h.old 7 (by kernel_rfl)))
    refine .cons (fun a wx h => ?_) ?_
    · exact OpTo.is ((wanted_on (oj := _) rfl rfl rfl (by rw [h.size]; simp) (show a.eval (.tmp 80) = .bool true from h.dep 1 _ 80 rfl rfl (by kernel_rfl))).trans rfl) (run_move (h.old 13 (by kernel_rfl)))
    refine .cons (fun a wx h => ?_) ?_
    · exact OpTo.is ((wanted_on (oj := _) rfl rfl rfl (by rw [h.size]; simp) (show a.eval (.tmp 80) = .bool true from h.dep 1 _ 80 rfl rfl (by kernel_rfl))).trans rfl) (run_bin (h.dep 2 _ 81 rfl rfl (by kernel_rfl)) (h.dep 3 _ 82 rfl rfl (by kernel_rfl)) (by simp [eqGuard, binOp, Op.intCmp]))
    refine .cons (fun a wx h => ?_) ?_
    · exact OpTo.is (wanted_free rfl) (run_pick (show a.eval (.tmp 80) = .bool true from (h.dep 1 _ 80 rfl rfl (by kernel_rfl))) (h.dep 4 _ 83 rfl rfl (by kernel_rfl)) rfl rfl)
    refine .cons (fun a wx h => ?_) ?_
    · exact OpTo.is (wanted_free rfl) (run_move (h.dep 5 _ 84 rfl rfl (by kernel_rfl)))
    refine .cons (fun a wx h => ?_) ?_
    · exact OpTo.is ((wanted_on (oj := _) rfl rfl rfl (by rw [h.size]; simp) (show a.eval (.tmp 85) = .bool true from h.dep 6 _ 85 rfl rfl (by kernel_rfl))).trans rfl) (run_move (h.old 8 (by kernel_rfl)))
    refine .cons (fun a wx h => ?_) ?_
    · exact OpTo.is ((wanted_on (oj := _) rfl rfl rfl (by rw [h.size]; simp) (show a.eval (.tmp 85) = .bool true from h.dep 6 _ 85 rfl rfl (by kernel_rfl))).trans rfl) (run_move (h.old 14 (by kernel_rfl)))
    refine .cons (fun a wx h => ?_) ?_
    · exact OpTo.is ((wanted_on (oj := _) rfl rfl rfl (by rw [h.size]; simp) (show a.eval (.tmp 85) = .bool true from h.dep 6 _ 85 rfl rfl (by kernel_rfl))).trans rfl) (run_bin (h.dep 7 _ 86 rfl rfl (by kernel_rfl)) (h.dep 8 _ 87 rfl rfl (by kernel_rfl)) (by simp [eqGuard, binOp, Op.intCmp]))
    refine .cons (fun a wx h => ?_) ?_
    · exact OpTo.is (wanted_free rfl) (run_pick (show a.eval (.tmp 85) = .bool true from (h.dep 6 _ 85 rfl rfl (by kernel_rfl))) (h.dep 9 _ 88 rfl rfl (by kernel_rfl)) rfl rfl)
    refine .cons (fun a wx h => ?_) ?_
    · exact OpTo.is (wanted_free rfl) (run_move (h.dep 10 _ 89 rfl rfl (by kernel_rfl)))
    refine .cons (fun a wx h => ?_) ?_
    · exact OpTo.is ((wanted_on (oj := _) rfl rfl rfl (by rw [h.size]; simp) (show a.eval (.tmp 90) = .bool true from h.dep 11 _ 90 rfl rfl (by kernel_rfl))).trans rfl) (run_move (h.old 9 (by kernel_rfl)))
    refine .cons (fun a wx h => ?_) ?_
    · exact OpTo.is ((wanted_on (oj := _) rfl rfl rfl (by rw [h.size]; simp) (show a.eval (.tmp 90) = .bool true from h.dep 11 _ 90 rfl rfl (by kernel_rfl))).trans rfl) (run_move (h.old 15 (by kernel_rfl)))
    refine .cons (fun a wx h => ?_) ?_
    · exact OpTo.is ((wanted_on (oj := _) rfl rfl rfl (by rw [h.size]; simp) (show a.eval (.tmp 90) = .bool true from h.dep 11 _ 90 rfl rfl (by kernel_rfl))).trans rfl) (run_bin (h.dep 12 _ 91 rfl rfl (by kernel_rfl)) (h.dep 13 _ 92 rfl rfl (by kernel_rfl)) (by simp [eqGuard, binOp, Op.intCmp]))
    refine .cons (fun a wx h => ?_) ?_
    · exact OpTo.is (wanted_free rfl) (run_pick (show a.eval (.tmp 90) = .bool true from (h.dep 11 _ 90 rfl rfl (by kernel_rfl))) (h.dep 14 _ 93 rfl rfl (by kernel_rfl)) rfl rfl)
    refine .cons (fun a wx h => ?_) ?_
    · exact OpTo.is (wanted_free rfl) (run_move (h.dep 15 _ 94 rfl rfl (by kernel_rfl)))
    refine .cons (fun a wx h => ?_) ?_
    · exact OpTo.is ((wanted_on (oj := _) rfl rfl rfl (by rw [h.size]; simp) (show a.eval (.tmp 95) = .bool true from h.dep 16 _ 95 rfl rfl (by kernel_rfl))).trans rfl) (run_move (h.old 10 (by kernel_rfl)))
    refine .cons (fun a wx h => ?_) ?_
    · exact OpTo.is ((wanted_on (oj := _) rfl rfl rfl (by rw [h.size]; simp) (show a.eval (.tmp 95) = .bool true from h.dep 16 _ 95 rfl rfl (by kernel_rfl))).trans rfl) (run_move (h.old 16 (by kernel_rfl)))
    refine .cons (fun a wx h => ?_) ?_
    · exact OpTo.is ((wanted_on (oj := _) rfl rfl rfl (by rw [h.size]; simp) (show a.eval (.tmp 95) = .bool true from h.dep 16 _ 95 rfl rfl (by kernel_rfl))).trans rfl) (run_bin (h.dep 17 _ 96 rfl rfl (by kernel_rfl)) (h.dep 18 _ 97 rfl rfl (by kernel_rfl)) (by simp [eqGuard, binOp, Op.intCmp]))
    refine .cons (fun a wx h => ?_) ?_
    · exact OpTo.is (wanted_free rfl) (run_pick (show a.eval (.tmp 95) = .bool true from (h.dep 16 _ 95 rfl rfl (by kernel_rfl))) (h.dep 19 _ 98 rfl rfl (by kernel_rfl)) rfl rfl)
    refine .cons (fun a wx h => ?_) ?_
    · exact OpTo.is (wanted_free rfl) (run_move (h.dep 20 _ 99 rfl rfl (by kernel_rfl)))
    refine .cons (fun a wx h => ?_) ?_
    · exact OpTo.is ((wanted_on (oj := _) rfl rfl rfl (by rw [h.size]; simp) (show a.eval (.tmp 100) = .bool true from h.dep 21 _ 100 rfl rfl (by kernel_rfl))).trans rfl) (run_move (h.old 11 (by kernel_rfl)))
    refine .cons (fun a wx h => ?_) ?_
    · exact OpTo.is ((wanted_on (oj := _) rfl rfl rfl (by rw [h.size]; simp) (show a.eval (.tmp 100) = .bool true from h.dep 21 _ 100 rfl rfl (by kernel_rfl))).trans rfl) (run_move (h.old 17 (by kernel_rfl)))
    refine .cons (fun a wx h => ?_) ?_
    · exact OpTo.is ((wanted_on (oj := _) rfl rfl rfl (by rw [h.size]; simp) (show a.eval (.tmp 100) = .bool true from h.dep 21 _ 100 rfl rfl (by kernel_rfl))).trans rfl) (run_bin (h.dep 22 _ 101 rfl rfl (by kernel_rfl)) (h.dep 23 _ 102 rfl rfl (by kernel_rfl)) (by simp [eqGuard, binOp, Op.intCmp]))
    refine .cons (fun a wx h => ?_) ?_
    · exact OpTo.is (wanted_free rfl) (run_pick (show a.eval (.tmp 100) = .bool true from (h.dep 21 _ 100 rfl rfl (by kernel_rfl))) (h.dep 24 _ 103 rfl rfl (by kernel_rfl)) rfl rfl)
    refine .cons (fun a wx h => ?_) ?_
    · exact OpTo.is (wanted_free rfl) (run_move (h.dep 25 _ 104 rfl rfl (by kernel_rfl)))
    refine .cons (fun a wx h => ?_) ?_
    · exact OpTo.is ((wanted_on (oj := _) rfl rfl rfl (by rw [h.size]; simp) (show a.eval (.tmp 105) = .bool true from h.dep 26 _ 105 rfl rfl (by kernel_rfl))).trans rfl) (run_move (h.old 12 (by kernel_rfl)))
    refine .cons (fun a wx h => ?_) ?_
    · exact OpTo.is ((wanted_on (oj := _) rfl rfl rfl (by rw [h.size]; simp) (show a.eval (.tmp 105) = .bool true from h.dep 26 _ 105 rfl rfl (by kernel_rfl))).trans rfl) (run_move (h.old 18 (by kernel_rfl)))
    refine .cons (fun a wx h => ?_) ?_
    · exact OpTo.is ((wanted_on (oj := _) rfl rfl rfl (by rw [h.size]; simp) (show a.eval (.tmp 105) = .bool true from h.dep 26 _ 105 rfl rfl (by kernel_rfl))).trans rfl) (run_bin (h.dep 27 _ 106 rfl rfl (by kernel_rfl)) (h.dep 28 _ 107 rfl rfl (by kernel_rfl)) (by simp [eqGuard, binOp, Op.intCmp]))
    refine .cons (fun a wx h => ?_) ?_
    · exact OpTo.is (wanted_free rfl) (run_pick (show a.eval (.tmp 105) = .bool true from (h.dep 26 _ 105 rfl rfl (by kernel_rfl))) (h.dep 29 _ 108 rfl rfl (by kernel_rfl)) rfl rfl)
    refine .cons (fun a wx h => ?_) ?_
    · exact OpTo.is (wanted_free rfl) (run_move (h.dep 30 _ 109 rfl rfl (by kernel_rfl)))
    refine .cons (fun a wx h => ?_) ?_
    · exact OpTo.is ((wanted_on (oj := _) rfl rfl rfl (by rw [h.size]; simp) (show a.eval (.tmp 110) = .bool true from h.dep 31 _ 110 rfl rfl (by kernel_rfl))).trans rfl) (run_move (h.old 2 (by kernel_rfl)))
    refine .cons (fun a wx h => ?_) ?_
    · refine OpTo.call ((wanted_on (oj := _) rfl rfl rfl (by rw [h.size]; simp) (show a.eval (.tmp 110) = .bool true from h.dep 31 _ 110 rfl rfl (by kernel_rfl))).trans rfl) (run_call (vals := #[.int .u64 n]) Try.func11 (by kernel_rfl) rfl (by have e0 := (show a.eval (.tmp 111) = .int .u64 n from (h.dep 32 _ 111 rfl rfl (by kernel_rfl))); simp [*])) ?_
      refine (octLeb_any n _ HN.out).mono ?_
      rintro e w' ⟨v, rfl, hv, hb⟩
      exact ⟨v, rfl, hv.bs, hb⟩
    refine .cons (fun a wx h => ?_) ?_
    · exact OpTo.is ((wanted_on (oj := _) rfl rfl rfl (by rw [h.size]; simp) (show a.eval (.tmp 110) = .bool true from h.dep 31 _ 110 rfl rfl (by kernel_rfl))).trans rfl) (run_conv rfl (run_str (h.dep 33 _ 112 rfl rfl (by kernel_rfl))))
    refine .cons (fun a wx h => ?_) ?_
    · exact OpTo.is ((wanted_on (oj := _) rfl rfl rfl (by rw [h.size]; simp) (show a.eval (.tmp 110) = .bool true from h.dep 31 _ 110 rfl rfl (by kernel_rfl))).trans rfl) (run_move (h.old 2 (by kernel_rfl)))
    refine .cons (fun a wx h => ?_) ?_
    · refine OpTo.call ((wanted_on (oj := _) rfl rfl rfl (by rw [h.size]; simp) (show a.eval (.tmp 110) = .bool true from h.dep 31 _ 110 rfl rfl (by kernel_rfl))).trans rfl) (run_call (vals := #[.int .u64 n]) Try.func13 (by kernel_rfl) rfl (by have e0 := (show a.eval (.tmp 114) = .int .u64 n from (h.dep 35 _ 114 rfl rfl (by kernel_rfl))); simp [*])) ?_
      refine (refLeb_any n _ HN.out).mono ?_
      rintro e w' ⟨v, rfl, hv, hb⟩
      exact ⟨v, rfl, hv.bs, hb⟩
    refine .cons (fun a wx h => ?_) ?_
    · exact OpTo.is ((wanted_on (oj := _) rfl rfl rfl (by rw [h.size]; simp) (show a.eval (.tmp 110) = .bool true from h.dep 31 _ 110 rfl rfl (by kernel_rfl))).trans rfl) (run_conv rfl (run_str (h.dep 36 _ 115 rfl rfl (by kernel_rfl))))
    refine .cons (fun a wx h => ?_) ?_
    · exact OpTo.is ((wanted_on (oj := _) rfl rfl rfl (by rw [h.size]; simp) (show a.eval (.tmp 110) = .bool true from h.dep 31 _ 110 rfl rfl (by kernel_rfl))).trans rfl) (run_bin (h.dep 34 _ 113 rfl rfl (by kernel_rfl)) (h.dep 37 _ 116 rfl rfl (by kernel_rfl)) (by simp [eqGuard, binOp, Op.stringOp]))
    refine .cons (fun a wx h => ?_) ?_
    · exact OpTo.is (wanted_free rfl) (run_pick (show a.eval (.tmp 110) = .bool true from (h.dep 31 _ 110 rfl rfl (by kernel_rfl))) (h.dep 38 _ 117 rfl rfl (by kernel_rfl)) rfl rfl)
    refine .cons (fun a wx h => ?_) ?_
    · exact OpTo.is (wanted_free rfl) (run_assign (h.dep 39 _ 118 rfl rfl (by kernel_rfl)))
    exact .nil
  intro vs wy hby hv
  have h0 : vs 0 = .bool true := hv 0 (by decide)
  have h1 : vs 1 = .bool true := hv 1 (by decide)
  have h2 : vs 2 = .int .u64 r11 := hv 2 (by decide)
  have h3 : vs 3 = .int .u64 r11 := hv 3 (by decide)
  have h4 : vs 4 = .bool true := hv 4 (by decide)
  have h5 : vs 5 = .bool true := hv 5 (by decide)
  have h6 : vs 6 = .bool true := hv 6 (by decide)
  have h7 : vs 7 = .int .i64 r12 := hv 7 (by decide)
  have h8 : vs 8 = .int .i64 r12 := hv 8 (by decide)
  have h9 : vs 9 = .bool true := hv 9 (by decide)
  have h10 : vs 10 = .bool true := hv 10 (by decide)
  have h11 : vs 11 = .bool true := hv 11 (by decide)
  have h12 : vs 12 = .int .i64 r13 := hv 12 (by decide)
  have h13 : vs 13 = .int .i64 r13 := hv 13 (by decide)
  have h14 : vs 14 = .bool true := hv 14 (by decide)
  have h15 : vs 15 = .bool true := hv 15 (by decide)
  have h16 : vs 16 = .bool true := hv 16 (by decide)
  have h17 : vs 17 = .int .i64 r21 := hv 17 (by decide)
  have h18 : vs 18 = .int .i64 r21 := hv 18 (by decide)
  have h19 : vs 19 = .bool true := hv 19 (by decide)
  have h20 : vs 20 = .bool true := hv 20 (by decide)
  have h21 : vs 21 = .bool true := hv 21 (by decide)
  have h22 : vs 22 = .int .i64 r22 := hv 22 (by decide)
  have h23 : vs 23 = .int .i64 r22 := hv 23 (by decide)
  have h24 : vs 24 = .bool true := hv 24 (by decide)
  have h25 : vs 25 = .bool true := hv 25 (by decide)
  have h26 : vs 26 = .bool true := hv 26 (by decide)
  have h27 : vs 27 = .int .i64 r23 := hv 27 (by decide)
  have h28 : vs 28 = .int .i64 r23 := hv 28 (by decide)
  have h29 : vs 29 = .bool true := hv 29 (by decide)
  have h30 : vs 30 = .bool true := hv 30 (by decide)
  have h31 : vs 31 = .bool true := hv 31 (by decide)
  have h32 : vs 32 = .int .u64 n := hv 32 (by decide)
  have g33 := hv 33 (by decide)
  have h34 : vs 34 = S (leb 9 n) := hv 34 (by decide)
  have h35 : vs 35 = .int .u64 n := hv 35 (by decide)
  have g36 := hv 36 (by decide)
  have h37 : vs 37 = S (leb 9 n) := hv 37 (by decide)
  have h38 : vs 38 = .bool true := hv 38 (by decide)
  have h39 : vs 39 = .bool true := hv 39 (by decide)
  have h40 : vs 40 = .bool true := hv 40 (by decide)
  simp only [putAll, Nat.zero_add, Nat.reduceAdd, h0, h1, h2, h3, h4, h5, h6, h7, h8, h9, h10, h11, h12, h13, h14, h15, h16, h17, h18, h19, h20, h21, h22, h23, h24, h25, h26, h27, h28, h29, h30, h31, h32, h34, h35, h37, h38, h39, h40]
  clear hv h0 h1 h2 h3 h4 h5 h6 h7 h8 h9 h10 h11 h12 h13 h14 h15 h16 h17 h18 h19 h20 h21 h22 h23 h24 h25 h26 h27 h28 h29 h30 h31 h32 h34 h35 h37 h38 h39 h40
  go_frame
  clear g33 g36
  go_wp2
  go_ret
  exact ⟨rfl, hb19.trans (hby.mono hb19.size)⟩
end Go.Proofs.Ytbbpeggljhkjhaa
