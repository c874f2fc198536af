/-
  PagesMost walked: 4,096 pages may be mapped, and no more.
-/
import Derived.Test.YtklgbkhnflodaaaPgRights
namespace Go.Proofs.Ytklgbkhnflodaaa
open Go.RowKit Go.Fd

theorem both4 : bothB 4 = false := by decide

/-- The first stretch. -/
theorem most_first (n : Nat) (h0 : 4000 ≤ n) (h1 : n < 4200) : mapR [] 0 (n * 4096) 4 = if 4096 < n then ([], 6) else (mapV 4 [] 0 n, 0) := by
  unfold mapR
  have e1 : (0 + n * 4096 - 1) / 4096 = n - 1 := by omega
  rw [if_neg (by omega), e1, show ((4 : Int)).toNat = 4 from rfl, Nat.zero_div, clash_none (by simp), both4, if_neg (by simp)]
  unfold longV
  rw [there_none (by simp)]
  by_cases h : 4096 < n
  · rw [if_pos h, if_pos]
    simp; omega
  · rw [if_neg h, if_neg, show n - 1 + 1 - 0 = n by omega]
    simp; omega
theorem most_len (n : Nat) : (mapV 4 [] 0 n).length = n := by rw [length_map 4 n [] 0 (by simp)]; simp
theorem most_far (n : Nat) (h1 : n < 4200) (j : Nat) (hj : 268435456 ≤ j) : j ∉ (mapV 4 [] 0 n).map (·.1) := by
  intro h
  rcases key_map.1 h with h | h
  · cases h
  · omega
theorem most_rights (n : Nat) (h1 : n < 4200) : rightsV (mapV 4 [] 0 n) 268435456 = 0 := by
  rw [rights_map, if_neg (by omega)]; rfl
theorem most_more (n : Nat) (h0 : 4000 ≤ n) (h1 : n ≤ 4096) : mapR (mapV 4 [] 0 n) 1099511627776 ((4096 - n) * 4096 + 1) 4 = (mapV 4 [] 0 n, 6) := by
  unfold mapR
  have e1 : (1099511627776 + ((4096 - n) * 4096 + 1) - 1) / 4096 = 268435456 + (4096 - n) := by omega
  rw [if_neg (by omega), e1, show ((4 : Int)).toNat = 4 from rfl, show 1099511627776 / 4096 = 268435456 from rfl, clash_none (fun j h _ => most_far n (by omega) j h), both4, if_neg (by simp), if_pos]
  unfold longV
  rw [there_none (fun j h _ => most_far n (by omega) j h), most_len]
  simp; omega
theorem most_full (n : Nat) (h0 : 4000 ≤ n) (h1 : n < 4096) : (mapR (mapV 4 [] 0 n) 1099511627776 ((4096 - n) * 4096) 4).2 = 0 ∧ (mapR (mapV 4 [] 0 n) 1099511627776 ((4096 - n) * 4096) 4).1.length = 4096 := by
  have : mapR (mapV 4 [] 0 n) 1099511627776 ((4096 - n) * 4096) 4 = (mapV 4 (mapV 4 [] 0 n) 268435456 (4096 - n), 0) := by
    unfold mapR
    have e1 : (1099511627776 + ((4096 - n) * 4096) - 1) / 4096 = 268435456 + (4096 - n) - 1 := by omega
    rw [if_neg (by omega), e1, show ((4 : Int)).toNat = 4 from rfl, show 1099511627776 / 4096 = 268435456 from rfl, clash_none (fun j h _ => most_far n (by omega) j h), both4, if_neg (by simp), if_neg]
    · rw [show 268435456 + (4096 - n) - 1 + 1 - 268435456 = 4096 - n by omega]
    · unfold longV
      rw [there_none (fun j h _ => most_far n (by omega) j h), most_len]
      simp; omega
  rw [this]
  refine ⟨rfl, ?_⟩
  simp only
  rw [length_map 4 _ _ _ (fun j h _ => most_far n (by omega) j h), most_len]
  omega

set_option maxRecDepth 100000 in
set_option maxHeartbeats 1000000 in
theorem pagesMost_any (k : Nat) (w : World) (hk : k < 65536) :
    Calls Try.prog 4 #[.int .u16 k] w fun e w' => e = .returned (.bool true) ∧ Below w.heap.size w w' := by
  obtain ⟨n, hn, h0, h1⟩ : ∃ n : Nat, (4000 : Int) + (k : Int) % 200 = (n : Int) ∧ 4000 ≤ n ∧ n < 4200 := ⟨4000 + k % 200, by omega, by omega, by omega⟩
  have HF := Lib.hid (most_first n h0 h1)
  by_cases hbig : 4096 < n
  · rw [if_pos hbig] at HF
    go_enter Try.func4, Try.ntmps4
    go_wp2_with fail
    refine (begun_pages _).mono ?_
    rintro e w1 ⟨rfl, hb1⟩
    go_wp2_with fail
    refine (new_mem w1).mono ?_
    rintro e w2 ⟨bp, rfl, hm2, hb2⟩
    have HP3 := Lib.hid (map_mem w2 hm2 hb2.size (by decide) 0 (n * 4096) 4 (by omega) (by omega))
    rw [HF.out] at HP3
    clear hm2
    go_wp2_with fail
    refine HP3.out.mono ?_
    rintro e w3 ⟨rfl, hm3, hs3⟩
    have HB := Lib.hid (hb1.trans ((hb2.trans (hs3.below hb2.size (fun k h => h))).mono hb1.size))
    have HPc := Lib.hid (count_mem w3 hm3)
    clear hb1 hb2 hs3 hm3
    go_wp2_with fail
    refine HPc.out.mono ?_
    rintro e w4 ⟨rfl, rfl⟩
    go_wp2
    go_ret
    exact ⟨rfl, HB.out⟩
  · rw [if_neg hbig] at HF
    have HL := Lib.hid (most_len n)
    have HR := Lib.hid (most_rights n h1)
    have HM := Lib.hid (most_more n h0 (by omega))
    have HU := Lib.hid (fun h => most_full n h0 h)
    generalize mapV 4 [] 0 n = V at *
    have esub : (4096 : Int) - (n : Int) = ((4096 - n : Nat) : Int) := by omega
    have hcn : ((n : Int) != (n : Int)) = false := by simp
    go_enter Try.func4, Try.ntmps4
    go_wp2_with fail
    refine (begun_pages _).mono ?_
    rintro e w1 ⟨rfl, hb1⟩
    go_wp2_with fail
    refine (new_mem w1).mono ?_
    rintro e w2 ⟨bp, rfl, hm2, hb2⟩
    have HP3 := Lib.hid (map_mem w2 hm2 hb2.size (by decide) 0 (n * 4096) 4 (by omega) (by omega))
    rw [HF.out] at HP3
    clear hm2
    go_wp2_with fail
    refine HP3.out.mono ?_
    rintro e w3 ⟨rfl, hm3, hs3⟩
    have HB := Lib.hid (hb1.trans ((hb2.trans (hs3.below hb2.size (fun k h => h))).mono hb1.size))
    have HBS := Lib.hid hb1.size
    have HBS2 := Lib.hid hb2.size
    have HPd := Lib.hid (map_mem w3 hm3 (Nat.le_trans hb2.size hs3.size) (by rw [HL.out]; omega) 1099511627776 ((4096 - n) * 4096 + 1) 4 (by omega) (by omega))
    rw [HM.out] at HPd
    have HBW := Lib.hid (Nat.le_trans hb2.size hs3.size)
    clear hb1 hb2 hs3 hm3
    go_wp2_with fail
    refine HPd.out.mono ?_
    rintro e w4 ⟨rfl, hm4, hs4⟩
    have HB4 := Lib.hid (HB.out.trans (hs4.below HB.out.size (fun k h => by
      rcases h with h | h
      · exact Nat.le_trans HBS.out h
      · exact Nat.le_trans (Nat.le_trans HBS.out HBS2.out) h)))
    have HPc := Lib.hid (count_mem w4 hm4)
    rw [HL.out] at HPc
    have HPe := Lib.hid (rights_mem w4 hm4 1099511627776 (by omega))
    rw [show 1099511627776 / 4096 = 268435456 from rfl, HR.out] at HPe
    have HPf := Lib.hid (map_mem w4 hm4 (Nat.le_trans HBW.out hs4.size) (by rw [HL.out]; omega) 1099511627776 ((4096 - n) * 4096) 4 (by omega) (by omega))
    have HS4 := Lib.hid hs4.size
    clear hm4 hs4
    go_wp2_with fail
    refine HPc.out.mono ?_
    rintro e w5 ⟨rfl, rfl⟩
    go_wp2_with fail
    refine HPe.out.mono ?_
    rintro e w5 ⟨rfl, rfl⟩
    by_cases hne : n = 4096
    · subst hne
      go_wp2_with fail
      go_ret
      exact ⟨rfl, HB4.out⟩
    · have hne' : ((n : Int) == 4096) = false := by simp; omega
      have hu := HU.out (by omega)
      rw [hu.1] at HPf
      have HU2 := Lib.hid hu.2
      clear hu hne
      go_wp2_with fail
      refine HPf.out.mono ?_
      rintro e w6 ⟨rfl, hm6, hs6⟩
      have HPg := Lib.hid (count_mem w6 hm6)
      rw [HU2.out] at HPg
      clear hm6
      go_wp2_with fail
      refine HPg.out.mono ?_
      rintro e w7 ⟨rfl, rfl⟩
      go_wp2
      go_ret
      exact ⟨rfl, HB4.out.trans (hs6.below HB4.out.size (fun k h => by
        rcases h with (h | h) | h
        · exact Nat.le_trans HBS.out h
        · exact Nat.le_trans (Nat.le_trans HBS.out HBS2.out) h
        · exact Nat.le_trans HB.out.size h))⟩
end Go.Proofs.Ytklgbkhnflodaaa
