/-
  Memory of pages: the statements' own example.
-/
import Derived.Test.YtklgbkhnflodaaaPg8
namespace Go.Proofs.Ytklgbkhnflodaaa
open Go.RowKit Go.Fd

theorem map_lit1 : mapR [] 4095 2 6 = ([(0, 6, zs), (1, 6, zs)], 0) := by kernel_rfl
def begV : Vw := (storeR [(0, 6, zs), (1, 6, zs)] 4095 2 258).1
theorem store_lit1 : (storeR [(0, 6, zs), (1, 6, zs)] 4095 2 258).2 = 0 := by decide +kernel
theorem load_lit1 : loadR begV 4095 2 = (258, 0) := by decide +kernel
theorem load_lit2 : loadR begV 8191 2 = (0, 21) := by decide +kernel
theorem begV_len : begV.length = 2 := by decide +kernel
theorem map_lit2 : (mapR begV 0 1 3).2 = 21 := by decide +kernel

set_option maxRecDepth 100000 in
theorem begun_pages (w : World) : Calls Try.prog 8 #[] w fun e w' => e = .returned (.bool true) ∧ Below w.heap.size w w' := by
  go_enter Try.func8, Try.ntmps8
  go_wp2_with fail
  refine (new_mem w).mono ?_
  rintro e w1 ⟨bp, rfl, hm1, hb1⟩
  have HP2 := Lib.hid (map_mem w1 hm1 hb1.size (by decide) 4095 2 6 (by omega) (by omega))
  rw [map_lit1] at HP2
  have HM1 := Lib.hid hm1
  clear hm1
  go_wp2_with fail
  refine HP2.out.mono ?_
  rintro e w2 ⟨rfl, hm2, hs2⟩
  have HP3 := Lib.hid (store_mem w2 hm2 4095 (by omega) 2 258)
  rw [store_lit1] at HP3
  have HM2 := Lib.hid hm2
  clear hm2
  go_wp2_with fail
  refine HP3.out.mono ?_
  rintro e w3 ⟨rfl, hm3, hs3⟩
  have HP4 := Lib.hid (load_mem w3 hm3 4095 (by omega) 2)
  have HP5 := Lib.hid (load_mem w3 hm3 8191 (by omega) 2)
  have HP6 := Lib.hid (count_mem w3 hm3)
  have hs13 := hs2.trans hs3 (fun i hi h => by
    rcases h with h | h
    · exact h
    · omega)
  have hb13 := hb1.trans (hs13.below hb1.size (fun k h => h))
  have HP7 := Lib.hid (map_mem w3 hm3 (Nat.le_trans hb1.size hs13.size) (by rw [show (storeR [(0, 6, zs), (1, 6, zs)] 4095 2 258).1 = begV from rfl, begV_len]; decide) 0 1 3 (by omega) (by omega))
  rw [show (storeR [(0, 6, zs), (1, 6, zs)] 4095 2 258).1 = begV from rfl] at HP4 HP5 HP6 HP7
  rw [load_lit1] at HP4
  rw [load_lit2] at HP5
  rw [begV_len] at HP6
  rw [map_lit2] at HP7
  have HB := Lib.hid hb13
  have HB1 := Lib.hid hb1.size
  clear hm3 hs13 hb13 hs2 hs3 hb1
  go_wp2_with fail
  refine HP4.out.mono ?_
  rintro e w4 ⟨rfl, rfl⟩
  go_wp2_with fail
  refine HP5.out.mono ?_
  rintro e w4 ⟨rfl, rfl⟩
  go_wp2_with fail
  refine HP6.out.mono ?_
  rintro e w4 ⟨rfl, rfl⟩
  go_wp2_with fail
  refine HP7.out.mono ?_
  rintro e w4 ⟨rfl, _, hs4⟩
  go_wp2
  go_ret
  exact ⟨rfl, HB.out.trans (hs4.below HB.out.size (fun k h => by
    rcases h with h | h
    · exact h
    · exact Nat.le_trans HB1.out h))⟩
end Go.Proofs.Ytklgbkhnflodaaa
