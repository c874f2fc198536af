/-
  The statement SymsBack, walked.
-/
import Derived.Test.YtgknmmnffgikbaaSymR
import Derived.Test.YtgknmmnffgikbaaSymW
namespace Go.Proofs.Ytgknmmnffgikbaa
open Go.RowKit Go.Fd

theorem relaRd_fit (b : List UInt8) : ∀ x ∈ (relaRd b).1, x.off < 18446744073709551616 := by
  have hf : ∀ k L, foldU (stepRela b) k = .ok L → ∀ x ∈ L, x.off < 18446744073709551616 := by
    intro k
    induction k with
    | zero => intro L h x hx; cases h; simp at hx
    | succ k ih =>
      intro L h x hx
      rw [foldU] at h
      cases hq : foldU (stepRela b) k with
      | error e => rw [hq] at h; cases h
      | ok L0 =>
        rw [hq] at h
        have h' : stepRela b k L0 = .ok L := h
        unfold stepRela at h'
        split at h'
        · cases h'
        · cases h'
          rw [List.mem_append, List.mem_singleton] at hx
          rcases hx with hx | rfl
          · exact ih L0 hq x hx
          · have := numLE_cut b (24 * k) 8
            simpa [recR] using this
  unfold relaRd
  split
  · split
    · next L hL => exact hf _ _ hL
    · simp
  · simp

set_option maxHeartbeats 4000000 in
set_option maxRecDepth 100000 in
theorem symsBackLaw_any (l : List SymM) (r : List RelaM) (rela : List UInt8) (v u q : Value) (w : World) (hv : RdR 6 encSym w v l) (hu : RdR 4 encRela w u r) (hq : Bs w q rela) (hfl : ∀ x ∈ l, x.fits) (hfr : ∀ x ∈ r, x.fits) :
    Calls Try.prog 7 #[v, u, q] w fun e w' => e = .returned (.bool true) ∧ Below w.heap.size w w' := by
  have HV := Lib.hid hv
  have HU := Lib.hid hu
  have HQ := Lib.hid hq
  obtain ⟨a, cap, rfl, hmc, -, hc⟩ := hv.open (fun _ => rfl)
  have HC := Lib.hid hc
  obtain ⟨m, hm⟩ : ∃ m, m = l.length := ⟨_, rfl⟩
  rw [← hm] at hmc HV ⊢
  have HM := Lib.hid hm
  obtain ⟨n, a2, cap2, hn, rfl, hnc, _⟩ := hu.shape
  obtain ⟨k, a3, cap3, hk, rfl, hkc, _⟩ := hq.shape
  clear hv hu hq hc hm
  by_cases hbig : 200 < m
  · go_enter Try.func7, Try.ntmps7
    go_wp2_with fail
    refine (begun5_any _).mono ?_
    rintro e w1 ⟨rfl, hb1⟩
    go_wp2
    go_ret
    exact ⟨rfl, hb1⟩
  by_cases hbig2 : 200 < n
  · go_enter Try.func7, Try.ntmps7
    go_wp2_with fail
    refine (begun5_any _).mono ?_
    rintro e w1 ⟨rfl, hb1⟩
    go_wp2
    go_ret
    exact ⟨rfl, hb1⟩
  by_cases hbig3 : 6000 < k
  · go_enter Try.func7, Try.ntmps7
    go_wp2_with fail
    refine (begun5_any _).mono ?_
    rintro e w1 ⟨rfl, hb1⟩
    go_wp2
    go_ret
    exact ⟨rfl, hb1⟩
  have HNL := Lib.hid (show l.length ≤ 200 by have := HM.out; omega)
  have HRL := Lib.hid (show r.length ≤ 200 by have := hn.out; omega)
  have HKL := Lib.hid (show rela.length ≤ 6000 by have := hk.out; omega)
  have hm2 : m ≤ 200 := by omega
  have HP1 := Lib.hid (fun t w h => symsWrite_any l t w (Nat.le_trans HNL.out (by decide)) (fun s hs => (hfl s hs).2) h)
  have HP2 := Lib.hid (fun t w h => writeRela_any r t w (Nat.le_trans HRL.out (by decide)) (fun s hs => (hfr s hs).1) h)
  have HL1 := Lib.hid (symW_len l)
  have HL2 := Lib.hid (relaW_len r)
  have HS0 := Lib.hid (fun h => symW_0 (l := l) h)
  have HSB := Lib.hid (fun h => sym_back (l := l) h (Nat.le_trans HNL.out (by decide)) (fun s hs => (hfl s hs).2))
  have HRB := Lib.hid (fun h => rela_back (l := r) h hfr)
  have HRF := Lib.hid (@rela_forth rela)
  have HRN := Lib.hid (@relaRd_nil rela)
  have HRLN := Lib.hid (relaRd_len rela)
  have HP3 := Lib.hid (fun v w h => readRela_any rela v w HKL.out h)
  have HLOC := Lib.hid (fun h i x hx => @sym_locals l h i x hx)
  have hloc : locs l ≤ m := by have := locs_le l m; rw [List.take_of_length_le (by have := HM.out; omega)] at this; exact this
  have HRO := Lib.hid (fun L (hL : (relaRd rela).1 = L) t w (h : RdR 4 encRela w t L) => writeRela_any L t w (by rw [← hL]; have h1 := HRLN.out; have h2 := HKL.out; omega) (fun s hs => (relaRd_fit rela s (by rw [hL]; exact hs))) h)
  clear hfl hfr
  generalize symW l = s at *
  generalize relaW r = q1 at *
  generalize relaRd rela = q2 at *
  obtain ⟨A, B, n1, e1⟩ := s
  obtain ⟨C, e2⟩ := q1
  obtain ⟨D, e3⟩ := q2
  dsimp only at HL1 HL2 HS0 HSB HRB HRF HRN HRLN HP1 HP2 HP3 HRO
  go_enter Try.func7, Try.ntmps7
  go_wp2_with fail
  refine (begun5_any _).mono ?_
  rintro e w1 ⟨rfl, hb1⟩
  have HB1 := Lib.hid hb1
  clear hb1
  go_wp2_with fail
  refine (HP1.out _ _ (HV.out.mono HB1.out)).mono ?_
  rintro e w2 ⟨va, vb, rfl, hva, hvb, hb2, -⟩
  have HA := Lib.hid hva
  have HBB := Lib.hid hvb
  have HB2 := Lib.hid (HB1.out.trans (hb2.mono HB1.out.size))
  clear hva hvb hb2
  have hcase : e1 = 0 ∨ e1 ≠ 0 := Classical.em _
  rcases hcase with he1 | he1
  · have HSB' := Lib.hid (HSB.out he1)
    obtain ⟨-, hord, -, heq⟩ := HS0.out he1
    have HORD := Lib.hid hord
    obtain rfl : n1 = locs l + 1 := by simp only [Prod.mk.injEq] at heq; exact heq.2.2.1
    have HLX := Lib.hid (fun i x hx => HLOC.out HORD.out i x hx)
    subst he1
    clear hord heq HSB HS0 HLOC HORD
    have HR := Lib.hid (symsRead_any A B va vb w2 (by have := HL1.out.1; have := HNL.out; omega) (by have := HL1.out.2; have := HNL.out; omega) HA.out.bs HBB.out.bs)
    rw [HSB'.out] at HR
    generalize locs l = nloc at *
    go_wp2_with fail
    refine HR.out.mono ?_
    rintro e w3 ⟨vm, rfl, hvm, hb3⟩
    have HSA := Lib.hid (same_same l vm _ w3 (Nat.le_trans HNL.out (by decide)) hvm.rd (HV.out.mono (HB2.out.trans (hb3.mono HB2.out.size))))
    have HB3 := Lib.hid (HB2.out.trans (hb3.mono HB2.out.size))
    clear hvm hb3 HR
    go_wp2_with fail
    refine HSA.out.mono ?_
    rintro e w4 ⟨rfl, hb4⟩
    have HB4 := Lib.hid (HB3.out.trans (hb4.mono HB3.out.size))
    clear hb4 HSA
    go_wp2
    go_loopw [13] (fun i wr => ∃ k : Nat, i = .int .i64 k ∧ k ≤ m ∧ Hid (Below w.heap.size w wr)) (fun i _ => m - (intOf i).toNat)
    case atStart => exact ⟨0, rfl, Nat.zero_le _, HB4.out⟩
    case round =>
      obtain ⟨j, rfl, hj, HB⟩ := hrel
      by_cases hlt : j < m
      · have X1 := Lib.hid (show l[j]? = some (l[j]'(by have := HM.out; omega)) from List.getElem?_eq_getElem _)
        generalize l[j]'(by have := HM.out; omega) = x at *
        obtain ⟨b1, o1, ha, hc1⟩ := HC.out j x X1.out (by decide)
        subst ha
        have c11 := hc1 1 (by decide)
        rw [← Nat.add_assoc] at c11
        replace c11 := (HB.out.cell (block_lt (c11.trans rfl))).trans (c11.trans (show (encSym x)[1]? = some (.int .i64 x.bind) from rfl))
        have HI := Lib.hid (HLX.out j x X1.out)
        clear hc1
        by_cases hb0 : x.bind = 0
        · have h1 : (x.bind == 0) = true := by simpa using hb0
          have h2 : j < nloc := HI.out.1 hb0
          have HX := Lib.hid hb0
          clear hb0
          go_wp2
          go_roundw
          case rel => exact ⟨j + 1, by go_num, by omega, HB.out⟩
          case measure => simp [intOf] <;> omega
        · have h1 : (x.bind == 0) = false := by simpa using hb0
          have h2 : ¬ j < nloc := fun h => hb0 (HI.out.2 h)
          have HX := Lib.hid hb0
          clear hb0
          go_wp2
          go_roundw
          case rel => exact ⟨j + 1, by go_num, by omega, HB.out⟩
          case measure => simp [intOf] <;> omega
      ·
        go_wp2_with fail
        refine (HP2.out _ _ (HU.out.mono HB.out)).mono ?_
        rintro e w5 ⟨vc, rfl, hvc, hb5⟩
        have HC5 := Lib.hid hvc
        have HB5 := Lib.hid (HB.out.trans (hb5.mono HB.out.size))
        clear hvc hb5
        by_cases he2 : e2 = 0
        · have HRB' := Lib.hid (HRB.out he2)
          subst he2
          have HRR := Lib.hid (readRela_any C vc w5 (by have h1 := HL2.out; have h2 := HRL.out; omega) HC5.out.bs)
          rw [HRB'.out] at HRR
          go_wp2_with fail
          refine HRR.out.mono ?_
          rintro e w6 ⟨vx, rfl, hvx, hb6⟩
          have HB6 := Lib.hid (HB5.out.trans (hb6.mono HB5.out.size))
          have HRS := Lib.hid (relas_same r vx _ w6 (Nat.le_trans HRL.out (by decide)) hvx.rd (HU.out.mono HB6.out))
          clear hvx hb6 HRR
          go_wp2_with fail
          refine HRS.out.mono ?_
          rintro e w7 ⟨rfl, hb7⟩
          have HB7 := Lib.hid (HB6.out.trans (hb7.mono HB6.out.size))
          clear hb7 HRS
          go_wp2_with fail
          refine (HP3.out _ _ (HQ.out.mono HB7.out)).mono ?_
          rintro e w8 ⟨vd, rfl, hvd, hb8⟩
          have HB8 := Lib.hid (HB7.out.trans (hb8.mono HB7.out.size))
          have HVD := Lib.hid hvd
          clear hvd hb8
          by_cases he3 : e3 = 0
          · have HF := Lib.hid (HRF.out he3)
            have HW := Lib.hid (HRO.out D rfl vd w8 HVD.out.rd)
            rw [HF.out] at HW
            subst he3
            go_wp2_with fail
            refine HW.out.mono ?_
            rintro e w9 ⟨vy, rfl, hvy, hb9⟩
            have s1 := run_str hvy.bs
            have s2 := run_str (HQ.out.mono (HB8.out.trans (hb9.mono HB8.out.size)))
            have HB9 := Lib.hid (HB8.out.trans (hb9.mono HB8.out.size))
            clear hvy hb9 HW
            go_wp2
            go_ret
            exact ⟨rfl, HB9.out⟩
          · obtain rfl : D = [] := HRN.out he3
            obtain ⟨m1, ax, cx, hm1, rfl, _, _⟩ := HVD.out.shape
            obtain rfl : m1 = 0 := hm1.out
            have h3 : (e3 == (0 : Int)) = false := by simpa using he3
            have h4 : (e3 != (0 : Int)) = true := by simpa using he3
            have HX3 := Lib.hid he3
            clear he3 hm1
            go_wp2
            go_ret
            exact ⟨rfl, HB8.out⟩
        · have h3 : (e2 == (0 : Int)) = false := by simpa using he2
          have h4 : (e2 != (0 : Int)) = true := by simpa using he2
          have HX2 := Lib.hid he2
          clear he2
          go_wp2_with fail
          refine (HP3.out _ _ (HQ.out.mono HB5.out)).mono ?_
          rintro e w8 ⟨vd, rfl, hvd, hb8⟩
          have HB8 := Lib.hid (HB5.out.trans (hb8.mono HB5.out.size))
          have HVD := Lib.hid hvd
          clear hvd hb8
          by_cases he3 : e3 = 0
          · have HF := Lib.hid (HRF.out he3)
            have HW := Lib.hid (HRO.out D rfl vd w8 HVD.out.rd)
            rw [HF.out] at HW
            subst he3
            go_wp2_with fail
            refine HW.out.mono ?_
            rintro e w9 ⟨vy, rfl, hvy, hb9⟩
            have s1 := run_str hvy.bs
            have s2 := run_str (HQ.out.mono (HB8.out.trans (hb9.mono HB8.out.size)))
            have HB9 := Lib.hid (HB8.out.trans (hb9.mono HB8.out.size))
            clear hvy hb9 HW
            go_wp2
            go_ret
            exact ⟨rfl, HB9.out⟩
          · obtain rfl : D = [] := HRN.out he3
            obtain ⟨m1, ax, cx, hm1, rfl, _, _⟩ := HVD.out.shape
            obtain rfl : m1 = 0 := hm1.out
            have h3 : (e3 == (0 : Int)) = false := by simpa using he3
            have h4 : (e3 != (0 : Int)) = true := by simpa using he3
            have HX3 := Lib.hid he3
            clear he3 hm1
            go_wp2
            go_ret
            exact ⟨rfl, HB8.out⟩
  · have h1 : (e1 == (0 : Int)) = false := by simpa using he1
    have h2 : (e1 != (0 : Int)) = true := by simpa using he1
    have HX1 := Lib.hid he1
    clear he1
    go_wp2_with fail
    refine (HP2.out _ _ (HU.out.mono HB2.out)).mono ?_
    rintro e w5 ⟨vc, rfl, hvc, hb5⟩
    have HC5 := Lib.hid hvc
    have HB5 := Lib.hid (HB2.out.trans (hb5.mono HB2.out.size))
    clear hvc hb5
    by_cases he2 : e2 = 0
    · have HRB' := Lib.hid (HRB.out he2)
      subst he2
      have HRR := Lib.hid (readRela_any C vc w5 (by have h1 := HL2.out; have h2 := HRL.out; omega) HC5.out.bs)
      rw [HRB'.out] at HRR
      go_wp2_with fail
      refine HRR.out.mono ?_
      rintro e w6 ⟨vx, rfl, hvx, hb6⟩
      have HB6 := Lib.hid (HB5.out.trans (hb6.mono HB5.out.size))
      have HRS := Lib.hid (relas_same r vx _ w6 (Nat.le_trans HRL.out (by decide)) hvx.rd (HU.out.mono HB6.out))
      clear hvx hb6 HRR
      go_wp2_with fail
      refine HRS.out.mono ?_
      rintro e w7 ⟨rfl, hb7⟩
      have HB7 := Lib.hid (HB6.out.trans (hb7.mono HB6.out.size))
      clear hb7 HRS
      go_wp2_with fail
      refine (HP3.out _ _ (HQ.out.mono HB7.out)).mono ?_
      rintro e w8 ⟨vd, rfl, hvd, hb8⟩
      have HB8 := Lib.hid (HB7.out.trans (hb8.mono HB7.out.size))
      have HVD := Lib.hid hvd
      clear hvd hb8
      by_cases he3 : e3 = 0
      · have HF := Lib.hid (HRF.out he3)
        have HW := Lib.hid (HRO.out D rfl vd w8 HVD.out.rd)
        rw [HF.out] at HW
        subst he3
        go_wp2_with fail
        refine HW.out.mono ?_
        rintro e w9 ⟨vy, rfl, hvy, hb9⟩
        have s1 := run_str hvy.bs
        have s2 := run_str (HQ.out.mono (HB8.out.trans (hb9.mono HB8.out.size)))
        have HB9 := Lib.hid (HB8.out.trans (hb9.mono HB8.out.size))
        clear hvy hb9 HW
        go_wp2
        go_ret
        exact ⟨rfl, HB9.out⟩
      · obtain rfl : D = [] := HRN.out he3
        obtain ⟨m1, ax, cx, hm1, rfl, _, _⟩ := HVD.out.shape
        obtain rfl : m1 = 0 := hm1.out
        have h3 : (e3 == (0 : Int)) = false := by simpa using he3
        have h4 : (e3 != (0 : Int)) = true := by simpa using he3
        have HX3 := Lib.hid he3
        clear he3 hm1
        go_wp2
        go_ret
        exact ⟨rfl, HB8.out⟩
    · have h3 : (e2 == (0 : Int)) = false := by simpa using he2
      have h4 : (e2 != (0 : Int)) = true := by simpa using he2
      have HX2 := Lib.hid he2
      clear he2
      go_wp2_with fail
      refine (HP3.out _ _ (HQ.out.mono HB5.out)).mono ?_
      rintro e w8 ⟨vd, rfl, hvd, hb8⟩
      have HB8 := Lib.hid (HB5.out.trans (hb8.mono HB5.out.size))
      have HVD := Lib.hid hvd
      clear hvd hb8
      by_cases he3 : e3 = 0
      · have HF := Lib.hid (HRF.out he3)
        have HW := Lib.hid (HRO.out D rfl vd w8 HVD.out.rd)
        rw [HF.out] at HW
        subst he3
        go_wp2_with fail
        refine HW.out.mono ?_
        rintro e w9 ⟨vy, rfl, hvy, hb9⟩
        have s1 := run_str hvy.bs
        have s2 := run_str (HQ.out.mono (HB8.out.trans (hb9.mono HB8.out.size)))
        have HB9 := Lib.hid (HB8.out.trans (hb9.mono HB8.out.size))
        clear hvy hb9 HW
        go_wp2
        go_ret
        exact ⟨rfl, HB9.out⟩
      · obtain rfl : D = [] := HRN.out he3
        obtain ⟨m1, ax, cx, hm1, rfl, _, _⟩ := HVD.out.shape
        obtain rfl : m1 = 0 := hm1.out
        have h3 : (e3 == (0 : Int)) = false := by simpa using he3
        have h4 : (e3 != (0 : Int)) = true := by simpa using he3
        have HX3 := Lib.hid he3
        clear he3 hm1
        go_wp2
        go_ret
        exact ⟨rfl, HB8.out⟩
end Go.Proofs.Ytgknmmnffgikbaa
