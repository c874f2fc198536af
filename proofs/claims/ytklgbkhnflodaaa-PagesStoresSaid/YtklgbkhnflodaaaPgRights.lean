/-
  PagesRights walked: which pages a stretch has, and their rights.
-/
import Derived.Test.YtklgbkhnflodaaaPgLaw
import Derived.Test.YtklgbkhnflodaaaPgBeg
namespace Go.Proofs.Ytklgbkhnflodaaa
open Go.RowKit Go.Fd

theorem rights_early (a n : Nat) (r q : Int) (w : World) (hn : n < 65536) (h : 1152921504606846976 < a ∨ n = 0 ∨ r < 1 ∨ 7 < r ∨ q < 1 ∨ 7 < q) :
    Calls Try.prog 3 #[.int .u64 a, .int .u16 n, .int .i64 r, .int .i64 q] w fun e w' => e = .returned (.bool true) ∧ Below w.heap.size w w' := by
  by_cases h1 : 1152921504606846976 < a
  · clear h
    go_enter Try.func3, Try.ntmps3
    go_wp2_with (go_at_call 8; go_must (refine (begun_pages _).mono ?_; rintro e w1 ⟨rfl, hb1⟩))
    go_ret
    exact ⟨rfl, hb1⟩
  by_cases h2 : n = 0
  · subst h2
    clear h
    have hz : (((0 : Nat) : Int) == 0) = true := rfl
    go_enter Try.func3, Try.ntmps3
    go_wp2_with (go_at_call 8; go_must (refine (begun_pages _).mono ?_; rintro e w1 ⟨rfl, hb1⟩))
    go_ret
    exact ⟨rfl, hb1⟩
  have hz : (((n : Nat) : Int) == 0) = false := by simp; omega
  by_cases h3 : r < 1
  · clear h
    go_enter Try.func3, Try.ntmps3
    go_wp2_with (go_at_call 8; go_must (refine (begun_pages _).mono ?_; rintro e w1 ⟨rfl, hb1⟩))
    go_ret
    exact ⟨rfl, hb1⟩
  by_cases h4 : 7 < r
  · clear h
    go_enter Try.func3, Try.ntmps3
    go_wp2_with (go_at_call 8; go_must (refine (begun_pages _).mono ?_; rintro e w1 ⟨rfl, hb1⟩))
    go_ret
    exact ⟨rfl, hb1⟩
  by_cases h5 : q < 1
  · clear h
    go_enter Try.func3, Try.ntmps3
    go_wp2_with (go_at_call 8; go_must (refine (begun_pages _).mono ?_; rintro e w1 ⟨rfl, hb1⟩))
    go_ret
    exact ⟨rfl, hb1⟩
  have h6 : 7 < q := by omega
  clear h
  go_enter Try.func3, Try.ntmps3
  go_wp2_with (go_at_call 8; go_must (refine (begun_pages _).mono ?_; rintro e w1 ⟨rfl, hb1⟩))
  go_ret
  exact ⟨rfl, hb1⟩

theorem mapR_none {a n r : Nat} (h1 : 1 ≤ r) (h7 : r ≤ 7) (hn : 1 ≤ n) (hn2 : n ≤ 65536) (ha : a + n ≤ 18446744073709551616) : mapR [] a n r = if bothB r = true then ([], 21) else (mapV r [] (a / 4096) ((a + n - 1) / 4096 + 1 - a / 4096), 0) := by
  unfold mapR
  rw [if_neg (by omega), Int.toNat_natCast, clash_none (by simp)]
  by_cases hb : bothB r = true
  · rw [if_pos hb, if_pos hb]
  · rw [if_neg hb, if_neg hb, if_neg]
    unfold longV
    rw [there_none (by simp)]
    simp
    omega

set_option maxRecDepth 100000 in
set_option maxHeartbeats 1000000 in
theorem pagesRights_any (a n r q : Nat) (w : World) (ha : a ≤ 1152921504606846976) (hn0 : 1 ≤ n) (hn : n < 65536) (h1 : 1 ≤ r) (h7 : r ≤ 7) (g1 : 1 ≤ q) (g7 : q ≤ 7) :
    Calls Try.prog 3 #[.int .u64 a, .int .u16 n, .int .i64 r, .int .i64 q] w fun e w' => e = .returned (.bool true) ∧ Below w.heap.size w w' := by
  have hz : (((n : Nat) : Int) == 0) = false := by simp; omega
  have hr := both_fin ⟨r, by omega⟩
  simp only at hr
  have HMAP := Lib.hid (mapR_none h1 h7 hn0 (by omega) (show a + n ≤ 18446744073709551616 by omega))
  cases hbr : bothB r with
  | true =>
    rw [hbr] at hr HMAP
    rw [if_pos rfl] at HMAP
    clear hbr
    go_enter Try.func3, Try.ntmps3
    go_wp2_with fail
    refine (begun_pages _).mono ?_
    rintro e w1 ⟨rfl, hb1⟩
    go_wp2_with fail
    refine (new_mem w1).mono ?_
    rintro e w2 ⟨bp, rfl, hm2, hb2⟩
    have HP3 := Lib.hid (map_mem w2 hm2 hb2.size (by decide) a n r (by omega) (by omega))
    rw [HMAP.out] at HP3
    clear hm2
    go_wp2_with fail
    refine HP3.out.mono ?_
    rintro e w3 ⟨rfl, hm3, hs3⟩
    have HB := Lib.hid (hb1.trans ((hb2.trans (hs3.below hb2.size (fun k h => h))).mono hb1.size))
    have HP4 := Lib.hid (count_mem w3 hm3)
    clear hb1 hb2 hs3 hm3
    go_wp2_with fail
    refine HP4.out.mono ?_
    rintro e w4 ⟨rfl, rfl⟩
    go_wp2
    go_ret
    exact ⟨rfl, HB.out⟩
  | false =>
    rw [hbr] at hr HMAP
    rw [if_neg (by simp)] at HMAP
    clear hbr
    have e1 : ((a : Int)) / 4096 = ((a / 4096 : Nat) : Int) := (Int.natCast_ediv ..).symm
    have e2 : ((a : Int) + n - 1) / 4096 = (((a + n - 1) / 4096 : Nat) : Int) := by rw [Int.natCast_ediv]; congr 1; omega
    have hFG : a / 4096 ≤ (a + n - 1) / 4096 := Nat.div_le_div_right (by omega)
    have hGF : (a + n - 1) / 4096 ≤ a / 4096 + 16 := by omega
    have hGb : (a + n - 1) / 4096 ≤ 281474976710672 := by omega
    have hFb : a / 4096 < 4503599627370496 := by omega
    have hVl := length_map r ((a + n - 1) / 4096 + 1 - a / 4096) [] (a / 4096) (by simp)
    have hVr := fun j => rights_map r ((a + n - 1) / 4096 + 1 - a / 4096) [] (a / 4096) j
    have hVk := fun j => key_map (r := r) (n := (a + n - 1) / 4096 + 1 - a / 4096) (V := []) (k := a / 4096) (j := j)
    have E0 := Lib.hid (rfl : a / 4096 = a / 4096)
    generalize hV : mapV r [] (a / 4096) ((a + n - 1) / 4096 + 1 - a / 4096) = V at *
    generalize hF : a / 4096 = F at *
    generalize hG : (a + n - 1) / 4096 = G at *
    have hV0 : ∀ j, rightsV [] j = 0 := fun j => rfl
    have r1 : rightsV V F = r := by rw [hVr, if_pos (by omega), hV0, Nat.zero_or]
    have r2 : rightsV V G = r := by rw [hVr, if_pos (by omega), hV0, Nat.zero_or]
    have r3 : rightsV V (G + 1) = 0 := by rw [hVr, if_neg (by omega), hV0]
    have kF : F ∈ V.map (·.1) := (hVk F).2 (.inr (by omega))
    have HFE := Lib.hid hF
    have HLEN := Lib.hid (show V.length = G + 1 - F by simpa using hVl)
    have R1 := Lib.hid r1
    have R2 := Lib.hid r2
    have R3 := Lib.hid r3
    have KF := Lib.hid kF
    have hcnt : ((((G + 1 - F : Nat)) : Int) != (G : Int) - F + 1) = false := by simp; omega
    have hcnt2 : ((((G + 1 - F : Nat)) : Int) == (G : Int) - F + 1) = true := by simp; omega
    clear hV hVl hVr hVk hF hG r1 r2 r3 kF hV0 E0
    obtain ⟨s, HS, hs8, hor⟩ : ∃ s, Hid (s = r ||| q) ∧ s < 8 ∧ bits .or .i64 (r : Int) (q : Int) = (s : Int) := ⟨_, rfl, or_lt8 (by omega) (by omega), or_i8 (by omega) (by omega)⟩
    have hq := both_fin ⟨q, by omega⟩
    have hs := both_fin ⟨s, hs8⟩
    simp only at hq hs
    -- the second call
    have HM2 := Lib.hid (show (V.map (·.1)).Nodup → mapR V a 1 q = if bothB q = true ∨ bothB s = true then (V, 21) else (addP V F q, 0) from fun hnd => by
      unfold mapR
      have e3 : (a + 1 - 1) / 4096 = F := by rw [Nat.add_sub_cancel]; exact HFE.out
      rw [if_neg (by omega), Int.toNat_natCast, HFE.out, e3, clash_one hnd KF.out, R1.out, ← HS.out]
      by_cases hc : bothB q = true ∨ bothB s = true
      · rw [if_pos (by simpa using hc), if_pos hc]
      · rw [if_neg (by simpa using hc), if_neg hc, if_neg]
        · rw [show F + 1 - F = 0 + 1 by omega]; rfl
        · unfold longV
          have := HLEN.out
          simp
          omega)
    go_enter Try.func3, Try.ntmps3
    go_wp2_with fail
    refine (begun_pages _).mono ?_
    rintro e w1 ⟨rfl, hb1⟩
    go_wp2_with fail
    refine (new_mem w1).mono ?_
    rintro e w2 ⟨bp, rfl, hm2, hb2⟩
    have HP3 := Lib.hid (map_mem w2 hm2 hb2.size (by decide) a n r (by omega) (by omega))
    rw [HMAP.out] at HP3
    clear hm2
    go_wp2_with fail
    refine HP3.out.mono ?_
    rintro e w3 ⟨rfl, hm3, hs3⟩
    have HB := Lib.hid (hb1.trans ((hb2.trans (hs3.below hb2.size (fun k h => h))).mono hb1.size))
    have HBW := Lib.hid (Nat.le_trans hb2.size hs3.size)
    have HPc := Lib.hid (count_mem w3 hm3)
    rw [HLEN.out] at HPc
    have HPa := Lib.hid (rights_mem w3 hm3 a (by omega))
    rw [HFE.out, R1.out] at HPa
    have HPb := Lib.hid (rights_mem w3 hm3 (G * 4096 + 4095) (by omega))
    rw [show (G * 4096 + 4095) / 4096 = G by omega, R2.out] at HPb
    have HPd := Lib.hid (rights_mem w3 hm3 ((G + 1) * 4096) (by omega))
    rw [show ((G + 1) * 4096) / 4096 = G + 1 by omega, R3.out] at HPd
    have HPe := Lib.hid (map_mem w3 hm3 (Nat.le_trans hb2.size hs3.size) (by have := HLEN.out; omega) a 1 q (by omega) (by omega))
    rw [HM2.out hm3.ok.nd] at HPe
    have HM3 := Lib.hid hm3
    have HBS := Lib.hid hb1.size
    have HBS2 := Lib.hid hb2.size
    clear hb1 hb2 hs3 hm3 HM2
    go_wp2_with fail
    refine HPc.out.mono ?_
    rintro e w4 ⟨rfl, rfl⟩
    go_wp2_with fail
    refine HPa.out.mono ?_
    rintro e w4 ⟨rfl, rfl⟩
    go_wp2_with fail
    refine HPb.out.mono ?_
    rintro e w4 ⟨rfl, rfl⟩
    go_wp2_with fail
    refine HPd.out.mono ?_
    rintro e w4 ⟨rfl, rfl⟩
    cases hbq : bothB q with
    | true =>
      rw [hbq] at hq
      rw [if_pos (.inl hbq)] at HPe
      clear hbq
      go_wp2_with fail
      refine HPe.out.mono ?_
      rintro e w5 ⟨rfl, hm5, hs5⟩
      have HPf := Lib.hid (rights_mem w5 hm5 a (by omega))
      rw [HFE.out, R1.out] at HPf
      clear hm5
      go_wp2_with fail
      refine HPf.out.mono ?_
      rintro e w6 ⟨rfl, rfl⟩
      go_wp2
      go_ret
      exact ⟨rfl, HB.out.trans (hs5.below HB.out.size (fun k h => by
        rcases h with h | h
        · exact Nat.le_trans HBS.out h
        · exact Nat.le_trans (Nat.le_trans HBS.out HBS2.out) h))⟩
    | false =>
      rw [hbq] at hq
      cases hbs : bothB s with
      | true =>
        rw [hbs] at hs
        rw [if_pos (.inr hbs)] at HPe
        clear hbq hbs
        go_wp2_with fail
        refine HPe.out.mono ?_
        rintro e w5 ⟨rfl, hm5, hs5⟩
        have HPf := Lib.hid (rights_mem w5 hm5 a (by omega))
        rw [HFE.out, R1.out] at HPf
        clear hm5
        go_wp2_with fail
        refine HPf.out.mono ?_
        rintro e w6 ⟨rfl, rfl⟩
        go_wp2
        go_ret
        exact ⟨rfl, HB.out.trans (hs5.below HB.out.size (fun k h => by
          rcases h with h | h
          · exact Nat.le_trans HBS.out h
          · exact Nat.le_trans (Nat.le_trans HBS.out HBS2.out) h))⟩
      | false =>
        rw [hbs] at hs
        rw [if_neg (by rw [hbq, hbs]; simp)] at HPe
        clear hbq hbs
        by_cases hgf : G = F
        · subst hgf
          go_wp2_with fail
          refine HPe.out.mono ?_
          rintro e w5 ⟨rfl, hm5, hs5⟩
          have HPf := Lib.hid (rights_mem w5 hm5 a (by omega))
          rw [HFE.out, rights_add, if_pos rfl, R1.out, ← HS.out] at HPf
          clear hm5
          go_wp2_with fail
          refine HPf.out.mono ?_
          rintro e w6 ⟨rfl, rfl⟩
          go_wp2
          go_ret
          exact ⟨rfl, HB.out.trans (hs5.below HB.out.size (fun k h => by
            rcases h with h | h
            · exact Nat.le_trans HBS.out h
            · exact Nat.le_trans (Nat.le_trans HBS.out HBS2.out) h))⟩
        · have hgf' : ((G : Int) == F) = false := by simp; omega
          go_wp2_with fail
          refine HPe.out.mono ?_
          rintro e w5 ⟨rfl, hm5, hs5⟩
          have HPf := Lib.hid (rights_mem w5 hm5 a (by omega))
          rw [HFE.out, rights_add, if_pos rfl, R1.out, ← HS.out] at HPf
          have HPg := Lib.hid (rights_mem w5 hm5 (G * 4096) (by omega))
          rw [show G * 4096 / 4096 = G by omega, rights_add, if_neg hgf, R2.out] at HPg
          clear hm5 hgf
          go_wp2_with fail
          refine HPf.out.mono ?_
          rintro e w6 ⟨rfl, rfl⟩
          go_wp2_with fail
          refine HPg.out.mono ?_
          rintro e w6 ⟨rfl, rfl⟩
          go_wp2
          go_ret
          exact ⟨rfl, HB.out.trans (hs5.below HB.out.size (fun k h => by
            rcases h with h | h
            · exact Nat.le_trans HBS.out h
            · exact Nat.le_trans (Nat.le_trans HBS.out HBS2.out) h))⟩
end Go.Proofs.Ytklgbkhnflodaaa
