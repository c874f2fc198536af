/-
  The statement SymsRead, walked.
-/
import Derived.Test.YtgknmmnffgikbaaSymBeg
import Derived.Test.YtgknmmnffgikbaaSym13
namespace Go.Proofs.Ytgknmmnffgikbaa
open Go.RowKit Go.Fd

theorem symRd_len (b names : List UInt8) : (symRd b names).1.length ≤ b.length := by
  unfold symRd
  split
  · simp
  · split
    · next L hL => rw [foldSym_len b names _ _ hL]; simp; omega
    · simp
theorem same_same (l : List SymM) (v u : Value) (w : World) (hl : l.length ≤ 1000000000) (hv : RdR 6 encSym w v l) (hu : RdR 6 encSym w u l) :
    Calls Try.prog 35 #[v, u] w fun e w' => e = .returned (.bool true) ∧ Below w.heap.size w w' := by
  have h := same_any l l v u w hl hl hv hu
  rwa [show decide (l = l) = true by simp] at h
theorem relas_same (l : List RelaM) (v u : Value) (w : World) (hl : l.length ≤ 1000000000) (hv : RdR 4 encRela w v l) (hu : RdR 4 encRela w u l) :
    Calls Try.prog 36 #[v, u] w fun e w' => e = .returned (.bool true) ∧ Below w.heap.size w w' := by
  have h := relas_any l l v u w hl hl hv hu
  rwa [show decide (l = l) = true by simp] at h

set_option maxHeartbeats 4000000 in
set_option maxRecDepth 100000 in
theorem symsReadLaw_any (tab names rela : List UInt8) (v0 v1 v2 : Value) (w : World) (h0 : Bs w v0 tab) (h1 : Bs w v1 names) (h2 : Bs w v2 rela) :
    Calls Try.prog 6 #[v0, v1, v2] w fun e w' => e = .returned (.bool true) ∧ Below w.heap.size w w' := by
  have H0 := Lib.hid h0
  have H1 := Lib.hid h1
  have H2 := Lib.hid h2
  obtain ⟨n0, a0, c0, hn0, rfl, hc0, _⟩ := h0.shape
  obtain ⟨n1, a1, c1, hn1, rfl, hc1, _⟩ := h1.shape
  obtain ⟨n2, a2, c2, hn2, rfl, hc2, _⟩ := h2.shape
  clear h0 h1 h2
  by_cases hbig : 6000 < n0
  · go_enter Try.func6, Try.ntmps6
    go_wp2_with fail
    refine (begun5_any _).mono ?_
    rintro e w1 ⟨rfl, hb1⟩
    go_wp2
    go_ret
    exact ⟨rfl, hb1⟩
  by_cases hbig1 : 6000 < n1
  · go_enter Try.func6, Try.ntmps6
    go_wp2_with fail
    refine (begun5_any _).mono ?_
    rintro e w1 ⟨rfl, hb1⟩
    go_wp2
    go_ret
    exact ⟨rfl, hb1⟩
  by_cases hbig2 : 6000 < n2
  · go_enter Try.func6, Try.ntmps6
    go_wp2_with fail
    refine (begun5_any _).mono ?_
    rintro e w1 ⟨rfl, hb1⟩
    go_wp2
    go_ret
    exact ⟨rfl, hb1⟩
  have HL0 := Lib.hid (show tab.length ≤ 6000 by have := hn0.out; omega)
  have HL1 := Lib.hid (show names.length ≤ 6000 by have := hn1.out; omega)
  have HL2 := Lib.hid (show rela.length ≤ 6000 by have := hn2.out; omega)
  have HP1 := Lib.hid (fun v u w h1 h2 => symsRead_any tab names v u w (Nat.le_trans HL0.out (by decide)) (Nat.le_trans HL1.out (by decide)) h1 h2)
  have HP2 := Lib.hid (fun v w h => readRela_any rela v w HL2.out h)
  have HR1 := Lib.hid (fun v u w h1 h2 => ref5Read_any tab names v u w (Nat.le_trans HL0.out (by decide)) (Nat.le_trans HL1.out (by decide)) h1 h2)
  have HR2 := Lib.hid (fun v w h => ref5ReadRela_any rela v w HL2.out h)
  have HA := Lib.hid (Nat.le_trans (symRd_len tab names) (Nat.le_trans HL0.out (by decide : 6000 ≤ 1000000000)))
  have HB := Lib.hid (show (relaRd rela).1.length ≤ 1000000000 by have h1 := relaRd_len rela; have h2 := HL2.out; omega)
  generalize symRd tab names = s at *
  generalize relaRd rela = q at *
  obtain ⟨A, e1⟩ := s
  obtain ⟨B, e2⟩ := q
  dsimp only at HA HB
  go_enter Try.func6, Try.ntmps6
  go_wp2_with fail
  refine (begun5_any _).mono ?_
  rintro e w1 ⟨rfl, hb1⟩
  have HB1 := Lib.hid hb1
  clear hb1
  go_wp2_with fail
  refine (twin_any tab _ _ (Nat.le_trans HL0.out (by decide)) (H0.out.mono HB1.out)).mono ?_
  rintro e w2 ⟨t, rfl, ht2, hb2⟩
  have HT2 := Lib.hid ht2
  have HB2 := Lib.hid (HB1.out.trans (hb2.mono HB1.out.size))
  clear ht2 hb2
  go_wp2_with fail
  refine (twin_any names _ _ (Nat.le_trans HL1.out (by decide)) (H1.out.mono HB2.out)).mono ?_
  rintro e w3 ⟨u, rfl, hu3, hb3⟩
  have HU3 := Lib.hid hu3
  have HT3 := Lib.hid (HT2.out.mono hb3)
  have HB3 := Lib.hid (HB2.out.trans (hb3.mono HB2.out.size))
  clear hu3 hb3 HT2
  go_wp2_with fail
  refine (twin_any rela _ _ (Nat.le_trans HL2.out (by decide)) (H2.out.mono HB3.out)).mono ?_
  rintro e w4 ⟨x, rfl, hx4, hb4⟩
  have HX4 := Lib.hid hx4
  have HT4 := Lib.hid (HT3.out.mono hb4)
  have HU4 := Lib.hid (HU3.out.mono hb4)
  have HB4 := Lib.hid (HB3.out.trans (hb4.mono HB3.out.size))
  clear hx4 hb4 HT3 HU3
  go_wp2_with fail
  refine (HP1.out t u _ HT4.out.bs HU4.out.bs).mono ?_
  rintro e w5 ⟨l, rfl, hl5, hb5⟩
  have HLV5 := Lib.hid hl5.rd
  have HX5 := Lib.hid (HX4.out.mono hb5)
  have HT5 := Lib.hid (HT4.out.mono hb5)
  have HU5 := Lib.hid (HU4.out.mono hb5)
  have HB5 := Lib.hid (HB4.out.trans (hb5.mono HB4.out.size))
  clear hl5 hb5 HT4 HU4 HX4
  go_wp2_with fail
  refine (HP2.out x _ HX5.out.bs).mono ?_
  rintro e w6 ⟨m, rfl, hm6, hb6⟩
  have HMV6 := Lib.hid hm6.rd
  have HLV6 := Lib.hid (HLV5.out.mono hb6)
  have HX6 := Lib.hid (HX5.out.mono hb6)
  have HT6 := Lib.hid (HT5.out.mono hb6)
  have HU6 := Lib.hid (HU5.out.mono hb6)
  have HB6 := Lib.hid (HB5.out.trans (hb6.mono HB5.out.size))
  clear hm6 hb6 HT5 HU5 HX5 HLV5
  go_wp2_with fail
  refine (HR1.out _ _ _ (H0.out.mono HB6.out) (H1.out.mono HB6.out)).mono ?_
  rintro e w7 ⟨l2, rfl, hl7, hb7⟩
  have HL27 := Lib.hid hl7.rd
  have HMV7 := Lib.hid (HMV6.out.mono hb7)
  have HLV7 := Lib.hid (HLV6.out.mono hb7)
  have HX7 := Lib.hid (HX6.out.mono hb7)
  have HT7 := Lib.hid (HT6.out.mono hb7)
  have HU7 := Lib.hid (HU6.out.mono hb7)
  have HB7 := Lib.hid (HB6.out.trans (hb7.mono HB6.out.size))
  clear hl7 hb7 HT6 HU6 HX6 HLV6 HMV6
  go_wp2_with fail
  refine (HR2.out _ _ (H2.out.mono HB7.out)).mono ?_
  rintro e w8 ⟨m2, rfl, hm8, hb8⟩
  have HS := Lib.hid (same_same A l l2 w8 HA.out (HLV7.out.mono hb8) (HL27.out.mono hb8))
  have HM28 := Lib.hid hm8.rd
  have HMV8 := Lib.hid (HMV7.out.mono hb8)
  have HX8 := Lib.hid (HX7.out.mono hb8)
  have HT8 := Lib.hid (HT7.out.mono hb8)
  have HU8 := Lib.hid (HU7.out.mono hb8)
  have HB8 := Lib.hid (HB7.out.trans (hb8.mono HB7.out.size))
  clear hm8 hb8 HT7 HU7 HX7 HMV7 HLV7 HL27
  go_wp2_with fail
  refine HS.out.mono ?_
  rintro e w9 ⟨rfl, hb9⟩
  have HS2 := Lib.hid (relas_same B m m2 w9 HB.out (HMV8.out.mono hb9) (HM28.out.mono hb9))
  have HX9 := Lib.hid (HX8.out.mono hb9)
  have HT9 := Lib.hid (HT8.out.mono hb9)
  have HU9 := Lib.hid (HU8.out.mono hb9)
  have HB9 := Lib.hid (HB8.out.trans (hb9.mono HB8.out.size))
  clear hb9 HT8 HU8 HX8 HMV8 HM28 HS
  go_wp2_with fail
  refine HS2.out.mono ?_
  rintro e w10 ⟨rfl, hb10⟩
  have HX10 := Lib.hid (HX9.out.mono hb10)
  have HT10 := Lib.hid (HT9.out.mono hb10)
  have HU10 := Lib.hid (HU9.out.mono hb10)
  have HB10 := Lib.hid (HB9.out.trans (hb10.mono HB9.out.size))
  clear hb10 HT9 HU9 HX9 HS2
  go_wp2_with fail
  refine (kept_any tab _ t _ _ (Nat.le_trans HL0.out (by decide)) HT10.out (H0.out.mono HB10.out)).mono ?_
  rintro e w11 ⟨rfl, rfl⟩
  go_wp2_with fail
  refine (kept_any names _ u _ _ (Nat.le_trans HL1.out (by decide)) HU10.out (H1.out.mono HB10.out)).mono ?_
  rintro e w11 ⟨rfl, rfl⟩
  go_wp2_with fail
  refine (kept_any rela _ x _ _ (Nat.le_trans HL2.out (by decide)) HX10.out (H2.out.mono HB10.out)).mono ?_
  rintro e w11 ⟨rfl, rfl⟩
  go_wp2
  go_ret
  exact ⟨rfl, HB10.out⟩
end Go.Proofs.Ytgknmmnffgikbaa
