/-
  Relocations out of bytes: the reference's reading.
-/
import Derived.Test.YtgknmmnffgikbaaSymOp
import Derived.Test.YtgknmmnffgikbaaWalkU
namespace Go.Proofs.Ytgknmmnffgikbaa
open Go.RowKit Go.Fd

set_option maxRecDepth 100000 in
theorem slice_cut {w : World} {v : Value} {l : List UInt8} (hv : Bs w v l) (a s : Nat) {z y : Int} (hz : z = (a : Int)) (hy : y = (a : Int) + s) (hin : a + s ≤ l.length) (_ : l.length ≤ 1000000000) :
    ∃ v', (∀ w', (Instr.sliceAt 23 v (some (.int .i64 z)) (some (.int .i64 y)) none).run Try.prog w' = .ok v' w') ∧ Bs w v' ((l.drop a).take s) := by
  subst hz hy
  obtain ⟨v', h1, h2⟩ := run_sliceB hv (i := (a : Int)) (j := (a : Int) + s) (k := .i64) (k' := .i64) (by omega) (by omega) (by omega)
  rw [show (a : Int) + s - a = (s : Int) by omega] at h2
  exact ⟨v', h1, by simpa using h2⟩

set_option maxHeartbeats 8000000 in
set_option maxRecDepth 100000 in
theorem ref5ReadRela_any (b : List UInt8) (v : Value) (w : World) (hl : b.length ≤ 6000) (hv : Bs w v b) :
    Calls Try.prog 34 #[v] w fun e w' => ∃ v', e = .returned (.tuple #[v', .int .i64 (relaRd b).2]) ∧ OwR 4 encRela 84 w' w.heap.size v' (relaRd b).1 ∧ Below w.heap.size w w' := by
  have HV := Lib.hid hv
  obtain ⟨ad, cap, rfl, hcap, _, _⟩ := hv.open
  obtain ⟨n, hn⟩ : ∃ n, n = b.length := ⟨_, rfl⟩
  rw [← hn] at hl hcap HV ⊢
  have HN := Lib.hid hn
  clear hv hn
  by_cases h0 : n % 24 = 0
  · obtain ⟨m, rfl⟩ : ∃ m, n = 24 * m := ⟨n / 24, by omega⟩
    have HD : Hid (b.length % 24 = 0 ∧ m = b.length / 24) := by have := HN.out; exact ⟨by omega, by omega⟩
    have hm : m ≤ 250 := by omega
    clear h0
    go_enter Try.func34, Try.ntmps34
    go_wp2
    go_loopw [4, 5] (fun v i wr => ∃ (k : Nat) (L : List RelaM), i = .int .i64 (24 * (k : Int)) ∧ k ≤ m ∧ Hid (foldU (stepRela b) k = .ok L) ∧ Hid (OwR 4 encRela 84 wr w.heap.size v L) ∧ Hid (Below w.heap.size w wr)) (fun _ i _ => 24 * m - (intOf i).toNat)
    case atStart => exact ⟨0, [], rfl, Nat.zero_le _, rfl, OwR.nil _ _ _ _ _, Below.refl _ _⟩
    case round =>
      obtain ⟨k, L, rfl, hk, HF, HO, HB⟩ := hrel
      by_cases hlt : k < m
      · have HBS := Lib.hid (show Bs wr (.slice ad (24 * m) cap) b by have := HV.out.mono HB.out; exact this)
        obtain ⟨s0, hr0, hb0⟩ := slice_cut HBS.out (24 * k) 8 (z := 24 * (k : Int)) (y := 24 * (k : Int) + 8) (by omega) (by omega) (by have := HN.out; omega) (by have := HN.out; omega)
        have HN0 : Hid (∀ wx, Below wr.heap.size wr wx → Calls Try.prog 65 #[s0] wx fun e w' => e = .returned (.int .u64 (numLE ((b.drop (24 * k)).take 8))) ∧ wx = w') := fun wx hx => num_any _ _ _ (by rw [List.length_take]; omega) (Bs.mono hb0 hx)
        clear hb0
        obtain ⟨s1, hr1, hb1⟩ := slice_cut HBS.out (24 * k + 8) 4 (z := 24 * (k : Int) + 8) (y := 24 * (k : Int) + 12) (by omega) (by omega) (by have := HN.out; omega) (by have := HN.out; omega)
        have HN1 : Hid (∀ wx, Below wr.heap.size wr wx → Calls Try.prog 65 #[s1] wx fun e w' => e = .returned (.int .u64 (numLE ((b.drop (24 * k + 8)).take 4))) ∧ wx = w') := fun wx hx => num_any _ _ _ (by rw [List.length_take]; omega) (Bs.mono hb1 hx)
        clear hb1
        obtain ⟨s2, hr2, hb2⟩ := slice_cut HBS.out (24 * k + 12) 4 (z := 24 * (k : Int) + 12) (y := 24 * (k : Int) + 16) (by omega) (by omega) (by have := HN.out; omega) (by have := HN.out; omega)
        have HN2 : Hid (∀ wx, Below wr.heap.size wr wx → Calls Try.prog 65 #[s2] wx fun e w' => e = .returned (.int .u64 (numLE ((b.drop (24 * k + 12)).take 4))) ∧ wx = w') := fun wx hx => num_any _ _ _ (by rw [List.length_take]; omega) (Bs.mono hb2 hx)
        clear hb2
        obtain ⟨s3, hr3, hb3⟩ := slice_cut HBS.out (24 * k + 16) 8 (z := 24 * (k : Int) + 16) (y := 24 * (k : Int) + 24) (by omega) (by omega) (by have := HN.out; omega) (by have := HN.out; omega)
        have HN3 : Hid (∀ wx, Below wr.heap.size wr wx → Calls Try.prog 65 #[s3] wx fun e w' => e = .returned (.int .u64 (numLE ((b.drop (24 * k + 16)).take 8))) ∧ wx = w') := fun wx hx => num_any _ _ _ (by rw [List.length_take]; omega) (Bs.mono hb3 hx)
        clear hb3
        have HR : Hid (recR b k = ⟨numLE ((b.drop (24 * k)).take 8), numLE ((b.drop (24 * k + 8)).take 4), numLE ((b.drop (24 * k + 12)).take 4), wrap64 (numLE ((b.drop (24 * k + 16)).take 8) : Int)⟩) := rfl
        have hw1 := i64_small (numLE_cut b (24 * k + 8) 4)
        have hw2 := i64_small (numLE_cut b (24 * k + 12) 4)
        have HLL := Lib.hid (foldRela_len b k L HF.out)
        have HBs := Lib.hid HB.out.size
        generalize numLE ((b.drop (24 * k)).take 8) = n0 at *
        generalize numLE ((b.drop (24 * k + 8)).take 4) = n1 at *
        generalize numLE ((b.drop (24 * k + 12)).take 4) = n2 at *
        generalize numLE ((b.drop (24 * k + 16)).take 8) = n3 at *
        go_wp2
        refine wp_region_walk 32 [(5, .is (.int .u64 n0)), (12, .is (.int .u64 n1)), (20, .is (.int .u64 n2)), (28, .is (.int .u64 n3)), (31, .new wr.heap.size 84 4)] (by kernel_rfl) (by kernel_rfl) ?_
        simp only [List.take_succ_cons, List.take_zero, List.drop_succ_cons, List.drop_zero]
        repeat (first
          | (refine walk_quiet rfl rfl rfl ?_; intro K hK; go_big_quiet_op; go_big_quiet_on)
          | (refine walk_is rfl rfl (fun wx hwx _ => WpYld.callIs (run_callL (vals := [s0]) Try.func65 (by kernel_rfl) rfl rfl) (HN0.out wx hwx)) ?_; go_frame)
          | (refine walk_is rfl rfl (fun wx hwx _ => WpYld.callIs (run_callL (vals := [s1]) Try.func65 (by kernel_rfl) rfl rfl) (HN1.out wx hwx)) ?_; go_frame)
          | (refine walk_is rfl rfl (fun wx hwx _ => WpYld.callIs (run_callL (vals := [s2]) Try.func65 (by kernel_rfl) rfl rfl) (HN2.out wx hwx)) ?_; go_frame)
          | (refine walk_is rfl rfl (fun wx hwx _ => WpYld.callIs (run_callL (vals := [s3]) Try.func65 (by kernel_rfl) rfl rfl) (HN3.out wx hwx)) ?_; go_frame)
          | (refine walk_new rfl rfl (fun wx hwx _ => WpYld.val run_allocRela (Yld.new_mk _ hwx).1 (Yld.new_mk _ hwx).2) (fun gb => ?_); go_frame))
        refine walk_nil ?_
        intro wz hbz hF
        obtain ⟨hgB, cs, hgh, hgs⟩ := Yld.new_got (hF 31 _ 6 _ rfl rfl rfl rfl)
        refine wpList_storeMade hgh rfl rfl (by kernel_rfl) hgs (by simp [Value.oneCell']) hgB hbz.size ?_
        intro w1 hh1 hb1
        have hb1' := hbz.trans hb1
        have e0 := cell_rec hh1 0
        have e1 := cell_rec hh1 1
        have e2 := cell_rec hh1 2
        have e3 := cell_rec hh1 3
        simp only [List.getElem?_toArray, List.getElem?_cons_succ, List.getElem?_cons_zero] at e0 e1 e2 e3
        have HO1 := Lib.hid (HO.out.mono hb1')
        have HB1 := Lib.hid (HB.out.trans (hb1'.mono HB.out.size))
        clear hb1 hbz hh1 hb1' hgh hgs hF hr0 hr1 hr2 hr3 hw1 hw2
        by_cases hbad : 2147483647 < (n2 : Int)
        · have HE := Lib.hid (relaRd_err HD.out.1 (by rw [← HD.out.2]; exact hlt) HF.out (by rw [HR.out]; exact hbad))
          go_wp2
          go_ret2
          exact ⟨_, by rw [HE.out]; rfl, by rw [HE.out]; exact OwR.nil _ _ _ _ _, HB1.out⟩
        · have HE := Lib.hid (relaRd_step HF.out (by rw [HR.out]; exact hbad))
          rw [HR.out] at HE
          go_wp2_with (((with_reducible show wpList _ _ _ (⟨some 58, _, _, _, _, _⟩ :: _) _ _); go_must (refine wpList_pushR TRela HO1.out rfl rfl ⟨n0, n1, n2, wrap64 n3⟩ rfl rfl (by simp [Value.oneCell']) (by have := HLL.out; omega) (by have := HLL.out; omega) HB1.out.size ?_; intro v2 w2 hv2 _ hb2; have HO2 := Lib.hid hv2; have HB2 := Lib.hid (HB1.out.trans hb2); clear hv2 hb2 e0 e1 e2 e3)))
          go_roundw
          case rel =>
            first
              | exact ⟨k + 1, _, by go_num, by omega, HE.out, HO2.out, HB2.out⟩
              | ((repeat apply Exists.intro); exact ⟨⟨k + 1, _, by go_num, by omega, HE.out, HO2.out, HB2.out⟩, rfl⟩)
          case measure => simp [intOf] <;> omega
      · have hkm : k = m := by omega
        have HRD := Lib.hid (relaRd_ok HD.out.1 (hkm.trans HD.out.2) HF.out)
        clear HF hkm
        go_wp2
        go_ret2
        exact ⟨_, by rw [HRD.out]; rfl, by rw [HRD.out]; exact HO.out, HB.out⟩
  · have HR := Lib.hid (relaRd_form (b := b) (by rw [← HN.out]; exact h0))
    have hz : ((n : Int) % 24 == 0) = false := by simp; omega
    have hz2 : ((n : Int) % 24 != 0) = true := by simp; omega
    go_enter Try.func34, Try.ntmps34
    go_wp2
    go_ret2
    exact ⟨_, by rw [HR.out]; rfl, by rw [HR.out]; exact OwR.nil _ _ _ _ _, Below.refl _ _⟩
end Go.Proofs.Ytgknmmnffgikbaa
