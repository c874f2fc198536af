/-
  The statement SymsWrite, walked.
-/
import Derived.Test.YtgknmmnffgikbaaSymBeg
import Derived.Test.YtgknmmnffgikbaaRecs
namespace Go.Proofs.Ytgknmmnffgikbaa
open Go.RowKit Go.Fd

theorem symW_len (l : List SymM) : (symW l).1.length ≤ 24 * (l.length + 1) ∧ (symW l).2.1.length ≤ 1 + 129 * l.length := by
  unfold symW
  split
  · simp
  · split
    · simp
    · split
      · next h =>
        have h2 := buildR_len (l.map (·.name))
        rw [List.length_map] at h2
        refine ⟨?_, h2.1⟩
        dsimp only
        unfold symsB
        rw [List.length_append, List.length_replicate, flat_len' symB_len, List.length_zip]
        omega
      · simp
theorem relaW_len (l : List RelaM) : (relaW l).1.length ≤ 24 * l.length := by
  unfold relaW
  split
  · simp
  · rw [rela_len]; omega

set_option maxHeartbeats 4000000 in
set_option maxRecDepth 100000 in
theorem symsWriteLaw_any (l : List SymM) (r : List RelaM) (v u : Value) (w : World) (hv : RdR 6 encSym w v l) (hu : RdR 4 encRela w u r) (hfl : ∀ x ∈ l, x.fits) (hfr : ∀ x ∈ r, x.fits) :
    Calls Try.prog 5 #[v, u] w fun e w' => e = .returned (.bool true) ∧ Below w.heap.size w w' := by
  have HV := Lib.hid hv
  have HU := Lib.hid hu
  obtain ⟨m, a, cap, hm, rfl, hmc, _⟩ := hv.shape
  obtain ⟨n, a2, cap2, hn, rfl, hnc, _⟩ := hu.shape
  clear hv hu
  by_cases hbig : 200 < m
  · go_enter Try.func5, Try.ntmps5
    go_wp2_with fail
    refine (begun5_any _).mono ?_
    rintro e w1 ⟨rfl, hb1⟩
    go_wp2
    go_ret
    exact ⟨rfl, hb1⟩
  by_cases hbig2 : 200 < n
  · go_enter Try.func5, Try.ntmps5
    go_wp2_with fail
    refine (begun5_any _).mono ?_
    rintro e w1 ⟨rfl, hb1⟩
    go_wp2
    go_ret
    exact ⟨rfl, hb1⟩
  have HNL := Lib.hid (show l.length ≤ 200 by have := hm.out; omega)
  have HRL := Lib.hid (show r.length ≤ 200 by have := hn.out; omega)
  have HP1 := Lib.hid (fun t w h => symsWrite_any l t w (Nat.le_trans HNL.out (by decide)) (fun s hs => (hfl s hs).2) h)
  have HP2 := Lib.hid (fun t w h => writeRela_any r t w (Nat.le_trans HRL.out (by decide)) (fun s hs => (hfr s hs).1) h)
  have HR1 := Lib.hid (fun t w h => ref5Write_any l t w (Nat.le_trans HNL.out (by decide)) (fun s hs => (hfl s hs).2) (fun s hs => (hfl s hs).1) h)
  have HR2 := Lib.hid (fun t w h => ref5WriteRela_any r t w (Nat.le_trans HRL.out (by decide)) (fun s hs => (hfr s hs).1) h)
  have HL1 := Lib.hid (symW_len l)
  have HL2 := Lib.hid (relaW_len r)
  clear hfl hfr
  generalize symW l = s at *
  generalize relaW r = q at *
  obtain ⟨A, B, n1, e1⟩ := s
  obtain ⟨C, e2⟩ := q
  have HLA := Lib.hid (show A.length ≤ 1000000000 by have h1 := HL1.out.1; have h2 := HNL.out; dsimp only at h1; omega)
  have HLB := Lib.hid (show B.length ≤ 1000000000 by have h1 := HL1.out.2; have h2 := HNL.out; dsimp only at h1; omega)
  have HLC := Lib.hid (show C.length ≤ 1000000000 by have h1 := HL2.out; have h2 := HRL.out; dsimp only at h1; omega)
  clear HL1 HL2
  go_enter Try.func5, Try.ntmps5
  go_wp2_with fail
  refine (begun5_any _).mono ?_
  rintro e w1 ⟨rfl, hb1⟩
  have HB1 := Lib.hid hb1
  clear hb1
  go_wp2
  go_loopw [5] (fun i wr => ∃ k : Nat, k ≤ 2 ∧ i = .int .i64 k ∧ Hid (Below w.heap.size w wr)) (fun i _ => 2 - (intOf i).toNat)
  case atStart => exact ⟨0, by omega, rfl, HB1.out⟩
  case round =>
    obtain ⟨k, hk, rfl, HB⟩ := hrel
    by_cases hlt : k < 2
    · go_wp2_with fail
      refine (HP1.out _ _ (HV.out.mono HB.out)).mono ?_
      rintro e w2 ⟨va, vb, rfl, hva, hvb, hb2, hap⟩
      have HAP := Lib.hid hap
      have HA2 := Lib.hid hva
      have HB2' := Lib.hid hvb
      have HAL := Lib.hid (World.ownsRow.lt hva)
      have HBL := Lib.hid (World.ownsRow.lt hvb)
      have HB2 := Lib.hid (HB.out.trans (hb2.mono HB.out.size))
      have HS2 := Lib.hid hb2.size
      clear hva hvb hb2 hap
      go_wp2_with fail
      refine (HP2.out _ _ (HU.out.mono HB2.out)).mono ?_
      rintro e w3 ⟨vc, rfl, hvc, hb3⟩
      have HC3 := Lib.hid hvc
      have HCL := Lib.hid (World.ownsRow.lt hvc)
      have HB3 := Lib.hid (HB2.out.trans (hb3.mono HB2.out.size))
      have HA3 := Lib.hid (HA2.out.mono hb3)
      have HB3' := Lib.hid (HB2'.out.mono hb3)
      have HS3 := Lib.hid hb3.size
      clear hvc hb3 HA2 HB2'
      go_wp2_with fail
      refine (HR1.out _ _ (HV.out.mono HB3.out)).mono ?_
      rintro e w4 ⟨va2, vb2, rfl, hva2, hvb2, hb4⟩
      have HA24 := Lib.hid hva2
      have HB24 := Lib.hid hvb2
      have HB4 := Lib.hid (HB3.out.trans (hb4.mono HB3.out.size))
      have HA4 := Lib.hid (HA3.out.mono hb4)
      have HB4' := Lib.hid (HB3'.out.mono hb4)
      have HC4 := Lib.hid (HC3.out.mono hb4)
      clear hva2 hvb2 hb4 HA3 HB3' HC3
      go_wp2_with fail
      refine (HR2.out _ _ (HU.out.mono HB4.out)).mono ?_
      rintro e w5 ⟨vc2, rfl, hvc2, hb5⟩
      have HB5 := Lib.hid (HB4.out.trans (hb5.mono HB4.out.size))
      have HA5 := Lib.hid (HA4.out.mono hb5)
      have HB5' := Lib.hid (HB4'.out.mono hb5)
      have HC5 := Lib.hid (HC4.out.mono hb5)
      have s1 := run_str HA5.out.bs
      have s2 := run_str (HA24.out.mono hb5).bs
      have s3 := run_str HB5'.out.bs
      have s4 := run_str (HB24.out.mono hb5).bs
      have s5 := run_str HC5.out.bs
      have s6 := run_str hvc2.bs
      clear hvc2 hb5 HA4 HB4' HC4 HA24 HB24
      go_wp2_with fail
      clear s1 s2 s3 s4 s5 s6
      refine (spoil_any A _ va _ HLA.out HA5.out).mono ?_
      rintro e w6 ⟨rfl, hg6⟩
      have HB6 := Lib.hid (HB5.out.trans (below_of_grown hg6 HB5.out.size fun k hk => by have h1 := (HAL.out k hk).1; have h2 := HB.out.size; omega))
      have HB6' := Lib.hid (owns_grown HB5'.out hg6 fun k hk e => HAP.out k e hk)
      have HC6 := Lib.hid (owns_grown HC5.out hg6 fun k hk e => by have h1 := (HAL.out k e).2; have h2 := (HCL.out k hk).1; omega)
      clear hg6 HA5 HB5' HC5
      go_wp2_with fail
      refine (spoil_any B _ vb _ HLB.out HB6'.out).mono ?_
      rintro e w7 ⟨rfl, hg7⟩
      have HB7 := Lib.hid (HB6.out.trans (below_of_grown hg7 HB6.out.size fun k hk => by have h1 := (HBL.out k hk).1; have h2 := HB.out.size; omega))
      have HC7 := Lib.hid (owns_grown HC6.out hg7 fun k hk e => by have h1 := (HBL.out k e).2; have h2 := (HCL.out k hk).1; omega)
      clear hg7 HB6' HC6
      go_wp2_with fail
      refine (spoil_any C _ vc _ HLC.out HC7.out).mono ?_
      rintro e w8 ⟨rfl, hg8⟩
      have HB8 := Lib.hid (HB7.out.trans (below_of_grown hg8 HB7.out.size fun k hk => by have h1 := (HCL.out k hk).1; have h2 := HB.out.size; have h3 := HS2.out; omega))
      clear hg8 HC7
      go_wp2
      go_roundw
      case rel => exact ⟨k + 1, by omega, by go_num, HB8.out⟩
      case measure => simp [intOf] <;> omega
    · go_wp2
      go_ret
      exact ⟨rfl, HB.out⟩
end Go.Proofs.Ytgknmmnffgikbaa
