/-
  ObjectBack holds: modules, as the statement says. Within the bound.
-/
import Derived.Test.YtimnbnomaajmmaaOz6
import Derived.Deep.DeepCutAuto
import Derived.Test.YtimnbnomaajmmaaRows
import Derived.ProofKit
import Derived.SizedLaws
import Derived.OpenShut
import Derived.Lib.SmallJoins
import Derived.Deep.Fields
import Derived.SliceStrings
import Derived.Deep.Slices
import Derived.JoinedCond
import Derived.Shelf.Vars
namespace Go.Proofs.Ytimnbnomaajmmaa
open Go.RowKit Go.Fd
theorem wpList_allocSp {ops : Array Oper} {rest : List Oper} {Q : Exit → Act → World → Prop} {a : Act} {w : World} {d : Option Tmp} {ty : TypeId} {pos : String} {aft : Array Edge}
    (h : ∀ w1, w1.heap[w.heap.size]? = some (.cells #[.int .u64 0, .int .u64 0] 141 (0, 0)) → Below w.heap.size w w1 → w.heap.size < w1.heap.size → wpList Try.prog ops Q rest (a.put d (.pointer (some ⟨w.heap.size, 0, none⟩))) w1) :
    wpList Try.prog ops Q (⟨d, .alloc 141, ty, pos, aft, none⟩ :: rest) a w :=
  wpList_val rfl (by kernel_rfl) (h (w.alloc (.cells #[.int .u64 0, .int .u64 0] 141)) (heap_alloc_last w _) (below_alloc w _) (by rw [World.size_alloc]; omega))
/-- The ways that a header's first numbers are here. -/
def HdrWay (l : List UInt8) : Prop :=
  (gN l 16 2 = 1 ∧ gN l 20 4 = 1 ∧ gN l 52 2 = 64 ∧ gN l 56 2 = 0 ∧ gN l 58 2 = 64) ∨ (gN l 16 2 = 1 ∧ gN l 20 4 = 1 ∧ gN l 52 2 = 64 ∧ 0 < gN l 56 2 ∧ gN l 54 2 = 56 ∧ gN l 58 2 = 64) ∨
  (gN l 16 2 = 2 ∧ gN l 20 4 = 1 ∧ gN l 52 2 = 64 ∧ gN l 56 2 = 0 ∧ gN l 58 2 = 64) ∨ (gN l 16 2 = 2 ∧ gN l 20 4 = 1 ∧ gN l 52 2 = 64 ∧ 0 < gN l 56 2 ∧ gN l 54 2 = 56 ∧ gN l 58 2 = 64) ∨
  (gN l 16 2 = 129) ∨ (gN l 16 2 = 1 ∧ gN l 20 4 = 129) ∨ (gN l 16 2 = 1 ∧ gN l 20 4 = 1 ∧ gN l 52 2 = 192) ∨ (gN l 16 2 = 1 ∧ gN l 20 4 = 1 ∧ gN l 52 2 = 64 ∧ gN l 56 2 = 0 ∧ gN l 58 2 = 192)
set_option maxHeartbeats 4000000 in
set_option maxRecDepth 100000 in
theorem wHeader1_any {w0 w : World} {p : Nat} {l : List UInt8} {bv : Value} {F : List FlM} {S : List WSec} {G : List WSeg} {fv sv gv : Value} (h : Lk w0 w p l bv F S G fv sv gv) (hl : l.length ≤ 1000000000) (hF : F.length ≤ 10) (hbad : bad1 l = true) :
    Calls Try.prog 73 #[.pointer (some ⟨p, 0, none⟩)] w fun r w' => r = .returned (.bool false) ∧ ∃ fm fa fc, Lk w0 w' p l bv (F ++ [⟨1, 0, 0⟩]) S G (.slice fa fm fc) sv gv ∧ KeepL p w w' := by
  have HLK := Lib.hid h
  obtain ⟨c0, c1, -, -⟩ := h.cells
  obtain ⟨m, ad, cap, hm, rfl, _, _⟩ := h.b.shape
  have hm9 : m ≤ 1000000000 := by have := hm.out; omega
  have HFD := Lib.hid (wFind_any h true 1 0 0 (by omega))
  have HBS := Lib.hid h.bs
  have HBAD := Lib.hid hbad
  clear h hbad
  by_cases h2 : m < 64
  · have d2 : decide ((m : Int) < 64) = true := by simp; omega
    go_enter Try.func73, Try.ntmps73
    go_wp2_with (go_at_call 93; refine HFD.out.mono ?_; rintro e w1 ⟨rfl, fm, fa, fc, hk, hkk⟩; have HK := Lib.hid hk; have HKK := Lib.hid hkk; clear hk hkk)
    go_ret
    exact ⟨rfl, fm, fa, fc, HK.out, HKK.out⟩
  · have d2 : decide ((m : Int) < 64) = false := by simp; omega
    have hs7 := run_str (HBS.out.take (k := 7) (by omega))
    have hm64 : 64 ≤ m := Nat.not_lt.1 h2
    have d4 : (l.take 7 != [127, 69, 76, 70, 2, 1, 1]) = true := by
      have h1 := HBAD.out
      have h3 := hm.out
      unfold bad1 at h1
      simp only [Bool.or_eq_true, decide_eq_true_eq, Bool.not_eq_true', decide_eq_false_iff_not] at h1
      rw [bne_iff_ne]
      rcases h1 with h1 | h1
      · omega
      · exact h1
    have d4' : (l.take 7 == [127, 69, 76, 70, 2, 1, 1]) = false := by rw [bne] at d4; simpa using d4
    generalize l.take 7 = t7 at *
    go_enter Try.func73, Try.ntmps73
    go_wp2_with (first
      | (go_at_call 93; refine HFD.out.mono ?_; rintro e w1 ⟨rfl, fm, fa, fc, hk, hkk⟩; have HK := Lib.hid hk; have HKK := Lib.hid hkk; clear hk hkk))
    go_ret
    exact ⟨rfl, fm, fa, fc, HK.out, HKK.out⟩
set_option maxHeartbeats 4000000 in
set_option maxRecDepth 100000 in
theorem wHeader2_any {w0 w : World} {p : Nat} {l : List UInt8} {bv : Value} {S : List WSec} {G : List WSeg} {sv gv : Value} (h : Lk w0 w p l bv [] S G (.slice none 0 0) sv gv) (hl : l.length ≤ 1000000000) (hbad : bad1 l = false) (hway : HdrWay l) (hin : withinB (gN l 32 8) (gN l 56 2 * 56) l.length = true) :
    Calls Try.prog 73 #[.pointer (some ⟨p, 0, none⟩)] w fun r w' => r = .returned (.bool (decide (headF l = []))) ∧ ∃ fm fa fc, Lk w0 w' p l bv (headF l) S G (.slice fa fm fc) sv gv ∧ KeepL p w w' := by
  have HLK := Lib.hid h
  obtain ⟨c0, c1, -, -⟩ := h.cells
  obtain ⟨m, ad, cap, hm, rfl, _, _⟩ := h.b.shape
  have hm9 : m ≤ 1000000000 := by have := hm.out; omega
  have HBS := Lib.hid h.bs
  have HB1 := Lib.hid hbad
  have HIN := Lib.hid hin
  have HHF := Lib.hid (show headF l = fl (bad2 l) 2 0 0 ++ fl (bad3 l) 3 0 0 by unfold headF; rw [hbad]; rfl)
  have HBD2 : Hid (bad2 l = ((!decide (gN l 16 2 = 1) && !decide (gN l 16 2 = 2)) || !decide (gN l 20 4 = 1) || !decide (gN l 52 2 = 64) || (decide (0 < gN l 56 2) && !decide (gN l 54 2 = 56)) || !decide (gN l 58 2 = 64))) := rfl
  have HBD3 := Lib.hid (show bad3 l = (!withinB (gN l 40 8) (gN l 60 2 * 64) l.length || decide (gN l 60 2 ≤ gN l 62 2)) by unfold bad3; rw [hin]; rfl)
  have d2 : decide ((m : Int) < 64) = false := by
    have h1 := hbad
    have h3 := hm.out
    unfold bad1 at h1
    simp only [Bool.or_eq_false_iff, decide_eq_false_iff_not, Bool.not_eq_false', decide_eq_true_eq] at h1
    simp; omega
  have d4 : (l.take 7 != [127, 69, 76, 70, 2, 1, 1]) = false := by
    have h1 := hbad
    unfold bad1 at h1
    simp only [Bool.or_eq_false_iff, decide_eq_false_iff_not, Bool.not_eq_false', decide_eq_true_eq] at h1
    rw [h1.2]; rfl
  have d4' : (l.take 7 == [127, 69, 76, 70, 2, 1, 1]) = true := by rw [bne] at d4; simpa using d4
  have hs7 := run_str (HBS.out.take (k := 7) (by
    have h1 := hbad
    have h3 := hm.out
    unfold bad1 at h1
    simp only [Bool.or_eq_false_iff, decide_eq_false_iff_not, Bool.not_eq_false', decide_eq_true_eq] at h1
    omega))
  have HU : ∀ (a s : Nat), Hid (∀ (wx : World) (F : List FlM) (fv : Value), Lk w0 wx p l (.slice ad m cap) F S G fv sv gv → Calls Try.prog 94 #[.pointer (some ⟨p, 0, none⟩), .int .i64 a, .int .i64 s] wx fun r w' => r = .returned (U6 (gN l a s)) ∧ wx = w') := fun a s wx F fv hx => wU_any hx a s hl
  have HU16 : Hid (∀ (wx : World) (F : List FlM) (fv : Value), Lk w0 wx p l (.slice ad m cap) F S G fv sv gv → Calls Try.prog 94 #[.pointer (some ⟨p, 0, none⟩), .int .i64 16, .int .i64 2] wx fun r w' => r = .returned (U6 (gN l 16 2)) ∧ wx = w') := HU 16 2
  have HU56 : Hid (∀ (wx : World) (F : List FlM) (fv : Value), Lk w0 wx p l (.slice ad m cap) F S G fv sv gv → Calls Try.prog 94 #[.pointer (some ⟨p, 0, none⟩), .int .i64 56, .int .i64 2] wx fun r w' => r = .returned (U6 (gN l 56 2)) ∧ wx = w') := HU 56 2
  have HU60 : Hid (∀ (wx : World) (F : List FlM) (fv : Value), Lk w0 wx p l (.slice ad m cap) F S G fv sv gv → Calls Try.prog 94 #[.pointer (some ⟨p, 0, none⟩), .int .i64 60, .int .i64 2] wx fun r w' => r = .returned (U6 (gN l 60 2)) ∧ wx = w') := HU 60 2
  have HU20 : Hid (∀ (wx : World) (F : List FlM) (fv : Value), Lk w0 wx p l (.slice ad m cap) F S G fv sv gv → Calls Try.prog 94 #[.pointer (some ⟨p, 0, none⟩), .int .i64 20, .int .i64 4] wx fun r w' => r = .returned (U6 (gN l 20 4)) ∧ wx = w') := HU 20 4
  have HU52 : Hid (∀ (wx : World) (F : List FlM) (fv : Value), Lk w0 wx p l (.slice ad m cap) F S G fv sv gv → Calls Try.prog 94 #[.pointer (some ⟨p, 0, none⟩), .int .i64 52, .int .i64 2] wx fun r w' => r = .returned (U6 (gN l 52 2)) ∧ wx = w') := HU 52 2
  have HU54 : Hid (∀ (wx : World) (F : List FlM) (fv : Value), Lk w0 wx p l (.slice ad m cap) F S G fv sv gv → Calls Try.prog 94 #[.pointer (some ⟨p, 0, none⟩), .int .i64 54, .int .i64 2] wx fun r w' => r = .returned (U6 (gN l 54 2)) ∧ wx = w') := HU 54 2
  have HU58 : Hid (∀ (wx : World) (F : List FlM) (fv : Value), Lk w0 wx p l (.slice ad m cap) F S G fv sv gv → Calls Try.prog 94 #[.pointer (some ⟨p, 0, none⟩), .int .i64 58, .int .i64 2] wx fun r w' => r = .returned (U6 (gN l 58 2)) ∧ wx = w') := HU 58 2
  have HU32 : Hid (∀ (wx : World) (F : List FlM) (fv : Value), Lk w0 wx p l (.slice ad m cap) F S G fv sv gv → Calls Try.prog 94 #[.pointer (some ⟨p, 0, none⟩), .int .i64 32, .int .i64 8] wx fun r w' => r = .returned (U6 (gN l 32 8)) ∧ wx = w') := HU 32 8
  have HU40 : Hid (∀ (wx : World) (F : List FlM) (fv : Value), Lk w0 wx p l (.slice ad m cap) F S G fv sv gv → Calls Try.prog 94 #[.pointer (some ⟨p, 0, none⟩), .int .i64 40, .int .i64 8] wx fun r w' => r = .returned (U6 (gN l 40 8)) ∧ wx = w') := HU 40 8
  have HU62 : Hid (∀ (wx : World) (F : List FlM) (fv : Value), Lk w0 wx p l (.slice ad m cap) F S G fv sv gv → Calls Try.prog 94 #[.pointer (some ⟨p, 0, none⟩), .int .i64 62, .int .i64 2] wx fun r w' => r = .returned (U6 (gN l 62 2)) ∧ wx = w') := HU 62 2
  have HN56 := Lib.hid (gN2 l 56)
  have HN60 := Lib.hid (gN2 l 60)
  have HN32 := Lib.hid (gN8 l 32)
  have HN40 := Lib.hid (gN8 l 40)
  have HMM := Lib.hid (show l.length = m from hm.out.symm)
  have hm64 : 64 ≤ m := by have h9 := of_decide_eq_false d2; omega
  unfold HdrWay at hway
  clear h hbad hin HU
  generalize gN l 16 2 = n16 at *
  generalize gN l 20 4 = n20 at *
  generalize gN l 52 2 = n52 at *
  generalize gN l 54 2 = n54 at *
  generalize gN l 56 2 = n56 at *
  generalize gN l 58 2 = n58 at *
  generalize gN l 60 2 = n60 at *
  generalize gN l 62 2 = n62 at *
  generalize gN l 32 8 = n32 at *
  generalize gN l 40 8 = n40 at *
  generalize headF l = hf at *
  generalize l.take 7 = t7 at *
  go_enter Try.func73, Try.ntmps73
  go_upto_region 5 with (first
    | (go_at_call 94; with_reducible refine (HU16.out _ _ _ HLK.out).mono ?_; rintro e wu ⟨rfl, rfl⟩)
    | (go_at_call 94; with_reducible refine (HU56.out _ _ _ HLK.out).mono ?_; rintro e wu ⟨rfl, rfl⟩)
    | (go_at_call 94; with_reducible refine (HU60.out _ _ _ HLK.out).mono ?_; rintro e wu ⟨rfl, rfl⟩))
  clear hs7 d2 d4 d4' c0 c1
  go_cut [] (fun wx => Hid (∃ fm fa fc, Lk w0 wx p l (.slice ad m cap) (fl (bad2 l) 2 0 0) S G (.slice fa fm fc) sv gv ∧ KeepL p w wx))
  case first =>
    rcases hway with ⟨rfl, rfl, rfl, rfl, rfl⟩ | ⟨rfl, rfl, rfl, hg, rfl, rfl⟩ | ⟨rfl, rfl, rfl, rfl, rfl⟩ | ⟨rfl, rfl, rfl, hg, rfl, rfl⟩ | rfl | ⟨rfl, rfl⟩ | ⟨rfl, rfl, rfl⟩ | ⟨rfl, rfl, rfl, rfl, rfl⟩
    · have HB : Hid (bad2 l = false) := Lib.hid (by rw [HBD2.out]; simp)
      clear HBD2
      go_wp2_with (first
        | (go_at_call 94; with_reducible refine (HU20.out _ _ _ HLK.out).mono ?_; rintro e wu ⟨rfl, rfl⟩)
        | (go_at_call 94; with_reducible refine (HU52.out _ _ _ HLK.out).mono ?_; rintro e wu ⟨rfl, rfl⟩)
        | (go_at_call 94; with_reducible refine (HU54.out _ _ _ HLK.out).mono ?_; rintro e wu ⟨rfl, rfl⟩)
        | (go_at_call 94; with_reducible refine (HU58.out _ _ _ HLK.out).mono ?_; rintro e wu ⟨rfl, rfl⟩)
        | (go_at_call 93; refine (wFind_any HLK.out _ _ _ _ (by simp)).mono ?_; rintro e w1 ⟨rfl, fm1, fa1, fc1, hk, hkk⟩; have HK1 := Lib.hid hk; have HKK1 := Lib.hid hkk; clear hk hkk))
      go_meet
      have e1 := HK1.out
      rw [List.nil_append] at e1
      exact ⟨fm1, fa1, fc1, by rw [HB.out]; exact e1, HKK1.out⟩
    · have HB : Hid (bad2 l = false) := Lib.hid (by rw [HBD2.out]; simp)
      have dg : decide ((n56 : Int) > 0) = true := by simp; omega
      clear HBD2
      go_wp2_with (first
        | (go_at_call 94; with_reducible refine (HU20.out _ _ _ HLK.out).mono ?_; rintro e wu ⟨rfl, rfl⟩)
        | (go_at_call 94; with_reducible refine (HU52.out _ _ _ HLK.out).mono ?_; rintro e wu ⟨rfl, rfl⟩)
        | (go_at_call 94; with_reducible refine (HU54.out _ _ _ HLK.out).mono ?_; rintro e wu ⟨rfl, rfl⟩)
        | (go_at_call 94; with_reducible refine (HU58.out _ _ _ HLK.out).mono ?_; rintro e wu ⟨rfl, rfl⟩)
        | (go_at_call 93; refine (wFind_any HLK.out _ _ _ _ (by simp)).mono ?_; rintro e w1 ⟨rfl, fm1, fa1, fc1, hk, hkk⟩; have HK1 := Lib.hid hk; have HKK1 := Lib.hid hkk; clear hk hkk))
      go_meet
      have e1 := HK1.out
      rw [List.nil_append] at e1
      exact ⟨fm1, fa1, fc1, by rw [HB.out]; exact e1, HKK1.out⟩
    · have HB : Hid (bad2 l = false) := Lib.hid (by rw [HBD2.out]; simp)
      clear HBD2
      go_wp2_with (first
        | (go_at_call 94; with_reducible refine (HU20.out _ _ _ HLK.out).mono ?_; rintro e wu ⟨rfl, rfl⟩)
        | (go_at_call 94; with_reducible refine (HU52.out _ _ _ HLK.out).mono ?_; rintro e wu ⟨rfl, rfl⟩)
        | (go_at_call 94; with_reducible refine (HU54.out _ _ _ HLK.out).mono ?_; rintro e wu ⟨rfl, rfl⟩)
        | (go_at_call 94; with_reducible refine (HU58.out _ _ _ HLK.out).mono ?_; rintro e wu ⟨rfl, rfl⟩)
        | (go_at_call 93; refine (wFind_any HLK.out _ _ _ _ (by simp)).mono ?_; rintro e w1 ⟨rfl, fm1, fa1, fc1, hk, hkk⟩; have HK1 := Lib.hid hk; have HKK1 := Lib.hid hkk; clear hk hkk))
      go_meet
      have e1 := HK1.out
      rw [List.nil_append] at e1
      exact ⟨fm1, fa1, fc1, by rw [HB.out]; exact e1, HKK1.out⟩
    · have HB : Hid (bad2 l = false) := Lib.hid (by rw [HBD2.out]; simp)
      have dg : decide ((n56 : Int) > 0) = true := by simp; omega
      clear HBD2
      go_wp2_with (first
        | (go_at_call 94; with_reducible refine (HU20.out _ _ _ HLK.out).mono ?_; rintro e wu ⟨rfl, rfl⟩)
        | (go_at_call 94; with_reducible refine (HU52.out _ _ _ HLK.out).mono ?_; rintro e wu ⟨rfl, rfl⟩)
        | (go_at_call 94; with_reducible refine (HU54.out _ _ _ HLK.out).mono ?_; rintro e wu ⟨rfl, rfl⟩)
        | (go_at_call 94; with_reducible refine (HU58.out _ _ _ HLK.out).mono ?_; rintro e wu ⟨rfl, rfl⟩)
        | (go_at_call 93; refine (wFind_any HLK.out _ _ _ _ (by simp)).mono ?_; rintro e w1 ⟨rfl, fm1, fa1, fc1, hk, hkk⟩; have HK1 := Lib.hid hk; have HKK1 := Lib.hid hkk; clear hk hkk))
      go_meet
      have e1 := HK1.out
      rw [List.nil_append] at e1
      exact ⟨fm1, fa1, fc1, by rw [HB.out]; exact e1, HKK1.out⟩
    · have HB : Hid (bad2 l = true) := Lib.hid (by rw [HBD2.out]; simp)
      clear HBD2
      go_wp2_with (first
        | (go_at_call 94; with_reducible refine (HU20.out _ _ _ HLK.out).mono ?_; rintro e wu ⟨rfl, rfl⟩)
        | (go_at_call 94; with_reducible refine (HU52.out _ _ _ HLK.out).mono ?_; rintro e wu ⟨rfl, rfl⟩)
        | (go_at_call 94; with_reducible refine (HU54.out _ _ _ HLK.out).mono ?_; rintro e wu ⟨rfl, rfl⟩)
        | (go_at_call 94; with_reducible refine (HU58.out _ _ _ HLK.out).mono ?_; rintro e wu ⟨rfl, rfl⟩)
        | (go_at_call 93; refine (wFind_any HLK.out _ _ _ _ (by simp)).mono ?_; rintro e w1 ⟨rfl, fm1, fa1, fc1, hk, hkk⟩; have HK1 := Lib.hid hk; have HKK1 := Lib.hid hkk; clear hk hkk))
      go_meet
      have e1 := HK1.out
      rw [List.nil_append] at e1
      exact ⟨fm1, fa1, fc1, by rw [HB.out]; exact e1, HKK1.out⟩
    · have HB : Hid (bad2 l = true) := Lib.hid (by rw [HBD2.out]; simp)
      clear HBD2
      go_wp2_with (first
        | (go_at_call 94; with_reducible refine (HU20.out _ _ _ HLK.out).mono ?_; rintro e wu ⟨rfl, rfl⟩)
        | (go_at_call 94; with_reducible refine (HU52.out _ _ _ HLK.out).mono ?_; rintro e wu ⟨rfl, rfl⟩)
        | (go_at_call 94; with_reducible refine (HU54.out _ _ _ HLK.out).mono ?_; rintro e wu ⟨rfl, rfl⟩)
        | (go_at_call 94; with_reducible refine (HU58.out _ _ _ HLK.out).mono ?_; rintro e wu ⟨rfl, rfl⟩)
        | (go_at_call 93; refine (wFind_any HLK.out _ _ _ _ (by simp)).mono ?_; rintro e w1 ⟨rfl, fm1, fa1, fc1, hk, hkk⟩; have HK1 := Lib.hid hk; have HKK1 := Lib.hid hkk; clear hk hkk))
      go_meet
      have e1 := HK1.out
      rw [List.nil_append] at e1
      exact ⟨fm1, fa1, fc1, by rw [HB.out]; exact e1, HKK1.out⟩
    · have HB : Hid (bad2 l = true) := Lib.hid (by rw [HBD2.out]; simp)
      clear HBD2
      go_wp2_with (first
        | (go_at_call 94; with_reducible refine (HU20.out _ _ _ HLK.out).mono ?_; rintro e wu ⟨rfl, rfl⟩)
        | (go_at_call 94; with_reducible refine (HU52.out _ _ _ HLK.out).mono ?_; rintro e wu ⟨rfl, rfl⟩)
        | (go_at_call 94; with_reducible refine (HU54.out _ _ _ HLK.out).mono ?_; rintro e wu ⟨rfl, rfl⟩)
        | (go_at_call 94; with_reducible refine (HU58.out _ _ _ HLK.out).mono ?_; rintro e wu ⟨rfl, rfl⟩)
        | (go_at_call 93; refine (wFind_any HLK.out _ _ _ _ (by simp)).mono ?_; rintro e w1 ⟨rfl, fm1, fa1, fc1, hk, hkk⟩; have HK1 := Lib.hid hk; have HKK1 := Lib.hid hkk; clear hk hkk))
      go_meet
      have e1 := HK1.out
      rw [List.nil_append] at e1
      exact ⟨fm1, fa1, fc1, by rw [HB.out]; exact e1, HKK1.out⟩
    · have HB : Hid (bad2 l = true) := Lib.hid (by rw [HBD2.out]; simp)
      clear HBD2
      go_wp2_with (first
        | (go_at_call 94; with_reducible refine (HU20.out _ _ _ HLK.out).mono ?_; rintro e wu ⟨rfl, rfl⟩)
        | (go_at_call 94; with_reducible refine (HU52.out _ _ _ HLK.out).mono ?_; rintro e wu ⟨rfl, rfl⟩)
        | (go_at_call 94; with_reducible refine (HU54.out _ _ _ HLK.out).mono ?_; rintro e wu ⟨rfl, rfl⟩)
        | (go_at_call 94; with_reducible refine (HU58.out _ _ _ HLK.out).mono ?_; rintro e wu ⟨rfl, rfl⟩)
        | (go_at_call 93; refine (wFind_any HLK.out _ _ _ _ (by simp)).mono ?_; rintro e w1 ⟨rfl, fm1, fa1, fc1, hk, hkk⟩; have HK1 := Lib.hid hk; have HKK1 := Lib.hid hkk; clear hk hkk))
      go_meet
      have e1 := HK1.out
      rw [List.nil_append] at e1
      exact ⟨fm1, fa1, fc1, by rw [HB.out]; exact e1, HKK1.out⟩
  case rest =>
    have HCU := Lib.hid hcut
    obtain ⟨fm1, fa1, fc1, hk1, hkk1⟩ := hcut.out
    have HK1 := Lib.hid hk1
    have HKK1 := Lib.hid hkk1
    obtain ⟨c0, c1, -, -⟩ := hk1.cells
    clear hcut hk1 hkk1 HCU HBD2
    have hmul1 : IntKind.u64.wrap ((n56 : Int) * 56) = ((n56 * 56 : Nat) : Int) := by have := HN56.out; simp [IntKind.wrap, IntKind.bits, IntKind.signed]; omega
    have hmul2 : IntKind.u64.wrap ((n60 : Int) * 64) = ((n60 * 64 : Nat) : Int) := by have := HN60.out; simp [IntKind.wrap, IntKind.bits, IntKind.signed]; omega
    rw [HMM.out] at HIN HBD3
    have HWA := Lib.hid (fun (w' : World) => wWithin_any n32 (n56 * 56) m w' HN32.out (by have := HN56.out; omega) hm9)
    have HWB := Lib.hid (fun (w' : World) => wWithin_any n40 (n60 * 64) m w' HN40.out (by have := HN60.out; omega) hm9)
    rw [HIN.out] at HWA
    generalize withinB n40 (n60 * 64) m = q2 at *
    have hq3 : decide ((n62 : Int) ≥ (n60 : Int)) = decide (n60 ≤ n62) := by simp
    generalize n56 * 56 = z56 at *
    generalize n60 * 64 = z60 at *
    generalize bad2 l = b2 at *
    generalize bad3 l = b3 at *
    cases q2 with
    | false =>
      have HB3 : Hid (b3 = true) := Lib.hid (by rw [HBD3.out]; rfl)
      clear HBD3
      go_wp2_with (first
        | (go_at_call 94; with_reducible refine (HU32.out _ _ _ HK1.out).mono ?_; rintro e wu ⟨rfl, rfl⟩)
        | (go_at_call 94; with_reducible refine (HU40.out _ _ _ HK1.out).mono ?_; rintro e wu ⟨rfl, rfl⟩)
        | ((with_reducible show wpList _ _ _ (⟨some 6, .alloc _, _, _, _, _⟩ :: _) _ _); go_must (refine wpList_allocSp ?_; intro w6 hx6 hb6 hs6; have HX6 := Lib.hid hx6; have HB6 := Lib.hid ((hb6)); clear hx6 hb6))
        | ((with_reducible show wpList _ _ _ (⟨some 7, .alloc _, _, _, _, _⟩ :: _) _ _); go_must (refine wpList_allocSp ?_; intro w7 hx7 hb7 hs7; have HX7 := Lib.hid hx7; have HX67 := Lib.hid (heap_below hb7 HX6.out); have HB7 := Lib.hid (HB6.out.trans (hb7.mono HB6.out.size)); clear hx7 hb7))
        | ((with_reducible show wpList _ _ _ (⟨none, .store _ (.tmp 6) _, _, _, _, _⟩ :: _) _ _); go_must (refine wpList_storeRowS HX67.out rfl rfl rfl (by kernel_rfl) (by simp [Value.oneCell']) ?_; intro w8 hh8 hs8; have HH8 := Lib.hid hh8; have HX78 := Lib.hid (hs8.kept HX7.out (show ¬ w6.heap.size = wc.heap.size by omega)); have HB8 := Lib.hid (HB7.out.trans (hs8.below HB7.out.size (fun j hj => by rw [hj]; exact Nat.le_refl _))); clear hh8 hs8))
        | ((with_reducible show wpList _ _ _ (⟨none, .store _ (.tmp 7) _, _, _, _, _⟩ :: _) _ _); go_must (refine wpList_storeRowS HX78.out rfl rfl rfl (by kernel_rfl) (by simp [Value.oneCell']) ?_; intro w9 hh9 hs9; have HH9 := Lib.hid hh9; have HH89 := Lib.hid (hs9.kept HH8.out (show ¬ wc.heap.size = w6.heap.size by omega)); have HB9 := Lib.hid (HB8.out.trans (hs9.below HB8.out.size (fun j hj => by rw [hj]; omega))); clear hh9 hs9; have HK9 := Lib.hid (HK1.out.mono HB9.out); obtain ⟨e0, e1⟩ := spn2 HH89.out; obtain ⟨f0, f1⟩ := spn2 HH9.out; clear c0 c1; obtain ⟨c0, c1, -, -⟩ := HK9.out.cells)))
      have hAB := fun (x : Above w9) (b k : Nat) (h : b < w9.heap.size) => Above.cell x b k h
      have l1 := block_lt c0
      have l2 := block_lt e0
      have l3 := block_lt f0
      refine wp_region_walk 25 [(7, .is (.bool true)), (16, .is (.bool false)), (21, .is (U6 n62))] (by kernel_rfl) (by kernel_rfl) ?_
      simp only [List.take_succ_cons, List.take_zero, List.drop_succ_cons, List.drop_zero]
      go_frame
      repeat (first
        | (refine walk_quiet rfl rfl rfl ?_; intro K hK; go_big_quiet_op; go_big_quiet_on)
        | (refine walk_check rfl rfl rfl ?_; go_frame))
      refine walk_is rfl rfl (fun wx hwx _ => WpYld.callIsB (run_callL (vals := [_, _]) Try.func95 (by kernel_rfl) rfl rfl) (HWA.out wx)) ?_
      go_frame
      repeat (first
        | (refine walk_quiet rfl rfl rfl ?_; intro K hK; go_big_quiet_op; go_big_quiet_on)
        | (refine walk_check rfl rfl rfl ?_; go_frame))
      refine walk_is rfl rfl (fun wx hwx _ => WpYld.callIsB (run_callL (vals := [_, _]) Try.func95 (by kernel_rfl) rfl rfl) (HWB.out wx)) ?_
      go_frame
      repeat (first
        | (refine walk_quiet rfl rfl rfl ?_; intro K hK; go_big_quiet_op; go_big_quiet_on)
        | (refine walk_check rfl rfl rfl ?_; go_frame)
        | (refine walk_skip rfl ?_; go_frame))
      refine walk_nil ?_
      intro wz hbz hF
      have HKZ := Lib.hid (HK9.out.mono hbz)
      have HKKZ := Lib.hid (HKK1.out.trans ((KeepL.below HB9.out).trans (KeepL.below (p := p) hbz)))
      clear hF hbz hAB l1 l2 l3 c0 c1 e0 e1 f0 f1
      go_wp2_with (go_at_call 93; refine (wFind_any HKZ.out true _ _ _ (by unfold fl; split <;> simp)).mono ?_; rintro e wy ⟨rfl, fm2, fa2, fc2, hk, hkk⟩; have HK2 := Lib.hid hk; have HKK2 := Lib.hid (HKKZ.out.trans hkk); obtain ⟨-, c1, -, -⟩ := hk.cells; have HLN := Lib.hid (own_len hk.f); clear hk hkk)
      go_ret
      refine ⟨?_, fm2, fa2, fc2, ?_, HKK2.out⟩
      · refine congrArg (fun b => Ending.returned (Value.bool b)) ?_
        rw [HHF.out, HB3.out]
        have h9 := HLN.out
        subst h9
        cases b2 <;> rfl
      · rw [HHF.out, HB3.out]
        exact HK2.out
    | true =>
      by_cases hlt : n60 ≤ n62
      · rw [decide_eq_true hlt] at hq3 HBD3
        have HB3 : Hid (b3 = true) := Lib.hid (by rw [HBD3.out]; rfl)
        clear HBD3
        go_wp2_with (first
          | (go_at_call 94; with_reducible refine (HU32.out _ _ _ HK1.out).mono ?_; rintro e wu ⟨rfl, rfl⟩)
          | (go_at_call 94; with_reducible refine (HU40.out _ _ _ HK1.out).mono ?_; rintro e wu ⟨rfl, rfl⟩)
          | ((with_reducible show wpList _ _ _ (⟨some 6, .alloc _, _, _, _, _⟩ :: _) _ _); go_must (refine wpList_allocSp ?_; intro w6 hx6 hb6 hs6; have HX6 := Lib.hid hx6; have HB6 := Lib.hid ((hb6)); clear hx6 hb6))
          | ((with_reducible show wpList _ _ _ (⟨some 7, .alloc _, _, _, _, _⟩ :: _) _ _); go_must (refine wpList_allocSp ?_; intro w7 hx7 hb7 hs7; have HX7 := Lib.hid hx7; have HX67 := Lib.hid (heap_below hb7 HX6.out); have HB7 := Lib.hid (HB6.out.trans (hb7.mono HB6.out.size)); clear hx7 hb7))
          | ((with_reducible show wpList _ _ _ (⟨none, .store _ (.tmp 6) _, _, _, _, _⟩ :: _) _ _); go_must (refine wpList_storeRowS HX67.out rfl rfl rfl (by kernel_rfl) (by simp [Value.oneCell']) ?_; intro w8 hh8 hs8; have HH8 := Lib.hid hh8; have HX78 := Lib.hid (hs8.kept HX7.out (show ¬ w6.heap.size = wc.heap.size by omega)); have HB8 := Lib.hid (HB7.out.trans (hs8.below HB7.out.size (fun j hj => by rw [hj]; exact Nat.le_refl _))); clear hh8 hs8))
          | ((with_reducible show wpList _ _ _ (⟨none, .store _ (.tmp 7) _, _, _, _, _⟩ :: _) _ _); go_must (refine wpList_storeRowS HX78.out rfl rfl rfl (by kernel_rfl) (by simp [Value.oneCell']) ?_; intro w9 hh9 hs9; have HH9 := Lib.hid hh9; have HH89 := Lib.hid (hs9.kept HH8.out (show ¬ wc.heap.size = w6.heap.size by omega)); have HB9 := Lib.hid (HB8.out.trans (hs9.below HB8.out.size (fun j hj => by rw [hj]; omega))); clear hh9 hs9; have HK9 := Lib.hid (HK1.out.mono HB9.out); obtain ⟨e0, e1⟩ := spn2 HH89.out; obtain ⟨f0, f1⟩ := spn2 HH9.out; clear c0 c1; obtain ⟨c0, c1, -, -⟩ := HK9.out.cells)))
        have hAB := fun (x : Above w9) (b k : Nat) (h : b < w9.heap.size) => Above.cell x b k h
        have l1 := block_lt c0
        have l2 := block_lt e0
        have l3 := block_lt f0
        refine wp_region_walk 25 [(7, .is (.bool true)), (16, .is (.bool true)), (21, .is (U6 n62))] (by kernel_rfl) (by kernel_rfl) ?_
        simp only [List.take_succ_cons, List.take_zero, List.drop_succ_cons, List.drop_zero]
        go_frame
        repeat (first
          | (refine walk_quiet rfl rfl rfl ?_; intro K hK; go_big_quiet_op; go_big_quiet_on)
          | (refine walk_check rfl rfl rfl ?_; go_frame))
        refine walk_is rfl rfl (fun wx hwx _ => WpYld.callIsB (run_callL (vals := [_, _]) Try.func95 (by kernel_rfl) rfl rfl) (HWA.out wx)) ?_
        go_frame
        repeat (first
          | (refine walk_quiet rfl rfl rfl ?_; intro K hK; go_big_quiet_op; go_big_quiet_on)
          | (refine walk_check rfl rfl rfl ?_; go_frame))
        refine walk_is rfl rfl (fun wx hwx _ => WpYld.callIsB (run_callL (vals := [_, _]) Try.func95 (by kernel_rfl) rfl rfl) (HWB.out wx)) ?_
        go_frame
        repeat (first
          | (refine walk_quiet rfl rfl rfl ?_; intro K hK; go_big_quiet_op; go_big_quiet_on)
          | (refine walk_check rfl rfl rfl ?_; go_frame))
        refine walk_is rfl rfl (fun wx hwx _ => WpYld.callIsB (run_callL (vals := [_, _, _]) Try.func94 (by kernel_rfl) rfl rfl) ((HU62.out wx _ _ (HK9.out.mono hwx)).mono fun r w' h => ⟨h.1, by rw [h.2]; exact Below.refl _ _⟩)) ?_
        go_frame
        repeat (first
          | (refine walk_quiet rfl rfl rfl ?_; intro K hK; go_big_quiet_op; go_big_quiet_on)
          | (refine walk_check rfl rfl rfl ?_; go_frame))
        refine walk_nil ?_
        intro wz hbz hF
        have HKZ := Lib.hid (HK9.out.mono hbz)
        have HKKZ := Lib.hid (HKK1.out.trans ((KeepL.below HB9.out).trans (KeepL.below (p := p) hbz)))
        clear hF hbz hAB l1 l2 l3 c0 c1 e0 e1 f0 f1
        go_wp2_with (go_at_call 93; refine (wFind_any HKZ.out true _ _ _ (by unfold fl; split <;> simp)).mono ?_; rintro e wy ⟨rfl, fm2, fa2, fc2, hk, hkk⟩; have HK2 := Lib.hid hk; have HKK2 := Lib.hid (HKKZ.out.trans hkk); obtain ⟨-, c1, -, -⟩ := hk.cells; have HLN := Lib.hid (own_len hk.f); clear hk hkk)
        go_ret
        refine ⟨?_, fm2, fa2, fc2, ?_, HKK2.out⟩
        · refine congrArg (fun b => Ending.returned (Value.bool b)) ?_
          rw [HHF.out, HB3.out]
          have h9 := HLN.out
          subst h9
          cases b2 <;> rfl
        · rw [HHF.out, HB3.out]
          exact HK2.out
      · rw [decide_eq_false hlt] at hq3 HBD3
        have hlt2 : n62 < n60 := Nat.not_le.1 hlt
        have HB3 : Hid (b3 = false) := Lib.hid (by rw [HBD3.out]; rfl)
        clear HBD3
        go_wp2_with (first
          | (go_at_call 94; with_reducible refine (HU32.out _ _ _ HK1.out).mono ?_; rintro e wu ⟨rfl, rfl⟩)
          | (go_at_call 94; with_reducible refine (HU40.out _ _ _ HK1.out).mono ?_; rintro e wu ⟨rfl, rfl⟩)
          | ((with_reducible show wpList _ _ _ (⟨some 6, .alloc _, _, _, _, _⟩ :: _) _ _); go_must (refine wpList_allocSp ?_; intro w6 hx6 hb6 hs6; have HX6 := Lib.hid hx6; have HB6 := Lib.hid ((hb6)); clear hx6 hb6))
          | ((with_reducible show wpList _ _ _ (⟨some 7, .alloc _, _, _, _, _⟩ :: _) _ _); go_must (refine wpList_allocSp ?_; intro w7 hx7 hb7 hs7; have HX7 := Lib.hid hx7; have HX67 := Lib.hid (heap_below hb7 HX6.out); have HB7 := Lib.hid (HB6.out.trans (hb7.mono HB6.out.size)); clear hx7 hb7))
          | ((with_reducible show wpList _ _ _ (⟨none, .store _ (.tmp 6) _, _, _, _, _⟩ :: _) _ _); go_must (refine wpList_storeRowS HX67.out rfl rfl rfl (by kernel_rfl) (by simp [Value.oneCell']) ?_; intro w8 hh8 hs8; have HH8 := Lib.hid hh8; have HX78 := Lib.hid (hs8.kept HX7.out (show ¬ w6.heap.size = wc.heap.size by omega)); have HB8 := Lib.hid (HB7.out.trans (hs8.below HB7.out.size (fun j hj => by rw [hj]; exact Nat.le_refl _))); clear hh8 hs8))
          | ((with_reducible show wpList _ _ _ (⟨none, .store _ (.tmp 7) _, _, _, _, _⟩ :: _) _ _); go_must (refine wpList_storeRowS HX78.out rfl rfl rfl (by kernel_rfl) (by simp [Value.oneCell']) ?_; intro w9 hh9 hs9; have HH9 := Lib.hid hh9; have HH89 := Lib.hid (hs9.kept HH8.out (show ¬ wc.heap.size = w6.heap.size by omega)); have HB9 := Lib.hid (HB8.out.trans (hs9.below HB8.out.size (fun j hj => by rw [hj]; omega))); clear hh9 hs9; have HK9 := Lib.hid (HK1.out.mono HB9.out); obtain ⟨e0, e1⟩ := spn2 HH89.out; obtain ⟨f0, f1⟩ := spn2 HH9.out; clear c0 c1; obtain ⟨c0, c1, -, -⟩ := HK9.out.cells)))
        have hAB := fun (x : Above w9) (b k : Nat) (h : b < w9.heap.size) => Above.cell x b k h
        have l1 := block_lt c0
        have l2 := block_lt e0
        have l3 := block_lt f0
        refine wp_region_walk 25 [(7, .is (.bool true)), (16, .is (.bool true)), (21, .is (U6 n62))] (by kernel_rfl) (by kernel_rfl) ?_
        simp only [List.take_succ_cons, List.take_zero, List.drop_succ_cons, List.drop_zero]
        go_frame
        repeat (first
          | (refine walk_quiet rfl rfl rfl ?_; intro K hK; go_big_quiet_op; go_big_quiet_on)
          | (refine walk_check rfl rfl rfl ?_; go_frame))
        refine walk_is rfl rfl (fun wx hwx _ => WpYld.callIsB (run_callL (vals := [_, _]) Try.func95 (by kernel_rfl) rfl rfl) (HWA.out wx)) ?_
        go_frame
        repeat (first
          | (refine walk_quiet rfl rfl rfl ?_; intro K hK; go_big_quiet_op; go_big_quiet_on)
          | (refine walk_check rfl rfl rfl ?_; go_frame))
        refine walk_is rfl rfl (fun wx hwx _ => WpYld.callIsB (run_callL (vals := [_, _]) Try.func95 (by kernel_rfl) rfl rfl) (HWB.out wx)) ?_
        go_frame
        repeat (first
          | (refine walk_quiet rfl rfl rfl ?_; intro K hK; go_big_quiet_op; go_big_quiet_on)
          | (refine walk_check rfl rfl rfl ?_; go_frame))
        refine walk_is rfl rfl (fun wx hwx _ => WpYld.callIsB (run_callL (vals := [_, _, _]) Try.func94 (by kernel_rfl) rfl rfl) ((HU62.out wx _ _ (HK9.out.mono hwx)).mono fun r w' h => ⟨h.1, by rw [h.2]; exact Below.refl _ _⟩)) ?_
        go_frame
        repeat (first
          | (refine walk_quiet rfl rfl rfl ?_; intro K hK; go_big_quiet_op; go_big_quiet_on)
          | (refine walk_check rfl rfl rfl ?_; go_frame))
        refine walk_nil ?_
        intro wz hbz hF
        have HKZ := Lib.hid (HK9.out.mono hbz)
        have HKKZ := Lib.hid (HKK1.out.trans ((KeepL.below HB9.out).trans (KeepL.below (p := p) hbz)))
        clear hF hbz hAB l1 l2 l3 c0 c1 e0 e1 f0 f1
        go_wp2_with (go_at_call 93; refine (wFind_any HKZ.out false _ _ _ (by unfold fl; split <;> simp)).mono ?_; rintro e wy ⟨rfl, fm2, fa2, fc2, hk, hkk⟩; have HK2 := Lib.hid hk; have HKK2 := Lib.hid (HKKZ.out.trans hkk); obtain ⟨-, c1, -, -⟩ := hk.cells; have HLN := Lib.hid (own_len hk.f); clear hk hkk)
        go_ret
        refine ⟨?_, fm2, fa2, fc2, ?_, HKK2.out⟩
        · refine congrArg (fun b => Ending.returned (Value.bool b)) ?_
          rw [HHF.out, HB3.out]
          have h9 := HLN.out
          subst h9
          cases b2 <;> rfl
        · rw [HHF.out, HB3.out]
          exact HK2.out
end Go.Proofs.Ytimnbnomaajmmaa
namespace Go.Proofs.Ytimnbnomaajmmaa
open Go.RowKit Go.Fd
/-- What Check comes to. -/
def ChkRes (l : List UInt8) (base : Nat) (r : Ending) (w : World) : Prop := ∃ fv F, r = .returned fv ∧ OwR 3 encFl 152 w base fv F ∧ Checked l F
/-- What is asked of bytes that Check looks at. -/
structure Lookable (l : List UInt8) : Prop where
  len : l.length ≤ 1000000000
  way : bad1 l = true ∨ (bad1 l = false ∧ HdrWay l ∧ withinB (gN l 32 8) (gN l 56 2 * 56) l.length = true)
  few : headF l = [] → gN l 60 2 ≤ 300 ∧ gN l 56 2 ≤ 300 ∧ gN l 40 8 ≤ 1000000000 ∧ gN l 32 8 ≤ 1000000000 ∧ gN l 62 2 < gN l 60 2
set_option maxHeartbeats 4000000 in
set_option maxRecDepth 100000 in
theorem wCheck_any (l : List UInt8) (v : Value) (w : World) (hk : Lookable l) (hv : Bs w v l) :
    Calls Try.prog 33 #[v] w fun r w' => ChkRes l w.heap.size r w' ∧ Below w.heap.size w w' := by
  have HV := Lib.hid hv
  have HK := Lib.hid hk
  obtain ⟨m, ad, cap, -, rfl, _, _⟩ := hv.shape
  clear hv
  cases hb1 : bad1 l with
  | true =>
    have HB1 := Lib.hid hb1
    have HHF := Lib.hid (show headF l = [⟨1, 0, 0⟩] by unfold headF; rw [if_pos hb1])
    clear hb1 hk
    go_enter Try.func33, Try.ntmps33
    go_wp2_with ((with_reducible show wpList _ _ _ (⟨some 6, .box _ _, _, _, _, _⟩ :: _) _ _); go_must (refine wpList_box rfl ?_; intro w1 hx1 hb1 hs1; have HL1 := Lib.hid (show Lk w w1 w.heap.size l (.slice ad m cap) [] [] [] (.slice none 0 0) (.slice none 0 0) (.slice none 0 0) from ⟨hx1, Nat.le_refl _, hb1, HV.out, OwR.nil _ _ _ _ _, OwR.nil _ _ _ _ _, OwR.nil _ _ _ _ _⟩); clear hx1 hb1))
    refine (wHeader1_any HL1.out HK.out.len (by simp) HB1.out).mono ?_
    rintro e w2 ⟨rfl, fm, fa, fc, hk2, -⟩
    have HL2 := Lib.hid hk2
    obtain ⟨-, c1, -, -⟩ := hk2.cells
    clear hk2
    go_wp2
    go_ret
    exact ⟨⟨_, _, rfl, HL2.out.f, by rw [List.nil_append, ← HHF.out]; exact ⟨fun _ => rfl, fun h => by rw [HHF.out] at h; cases h⟩⟩, HL2.out.below⟩
  | false =>
    have HB1 := Lib.hid hb1
    have HWAY := Lib.hid (hk.way.resolve_left (by simp [hb1]))
    clear hb1 hk
    cases hq : decide (headF l = []) with
    | false =>
      have HHF := Lib.hid (of_decide_eq_false hq)
      have HQ := Lib.hid hq
      clear hq
      go_enter Try.func33, Try.ntmps33
      go_wp2_with ((with_reducible show wpList _ _ _ (⟨some 6, .box _ _, _, _, _, _⟩ :: _) _ _); go_must (refine wpList_box rfl ?_; intro w1 hx1 hb1 hs1; have HL1 := Lib.hid (show Lk w w1 w.heap.size l (.slice ad m cap) [] [] [] (.slice none 0 0) (.slice none 0 0) (.slice none 0 0) from ⟨hx1, Nat.le_refl _, hb1, HV.out, OwR.nil _ _ _ _ _, OwR.nil _ _ _ _ _, OwR.nil _ _ _ _ _⟩); clear hx1 hb1))
      have HH := Lib.hid (wHeader2_any HL1.out HK.out.len HB1.out HWAY.out.2.1 HWAY.out.2.2)
      rw [HQ.out] at HH
      refine HH.out.mono ?_
      rintro e w2 ⟨rfl, fm, fa, fc, hk2, -⟩
      have HL2 := Lib.hid hk2
      obtain ⟨-, c1, -, -⟩ := hk2.cells
      clear hk2
      go_wp2
      go_ret
      exact ⟨⟨_, _, rfl, HL2.out.f, ⟨fun _ => rfl, fun h => absurd h HHF.out⟩⟩, HL2.out.below⟩
    | true =>
      have HHF := Lib.hid (of_decide_eq_true hq)
      have HQ := Lib.hid hq
      have HFEW := Lib.hid (HK.out.few HHF.out)
      clear hq
      go_enter Try.func33, Try.ntmps33
      go_wp2_with ((with_reducible show wpList _ _ _ (⟨some 6, .box _ _, _, _, _, _⟩ :: _) _ _); go_must (refine wpList_box rfl ?_; intro w1 hx1 hb1 hs1; have HL1 := Lib.hid (show Lk w w1 w.heap.size l (.slice ad m cap) [] [] [] (.slice none 0 0) (.slice none 0 0) (.slice none 0 0) from ⟨hx1, Nat.le_refl _, hb1, HV.out, OwR.nil _ _ _ _ _, OwR.nil _ _ _ _ _, OwR.nil _ _ _ _ _⟩); clear hx1 hb1))
      have HH := Lib.hid (wHeader2_any HL1.out HK.out.len HB1.out HWAY.out.2.1 HWAY.out.2.2)
      rw [HQ.out, HHF.out] at HH
      refine HH.out.mono ?_
      rintro e w2 ⟨rfl, fm, fa, fc, hk2, -⟩
      have HL2 := Lib.hid hk2
      clear hk2
      go_wp2_with fail
      refine (wRead_any HL2.out HK.out.len HFEW.out.1 HFEW.out.2.1 HFEW.out.2.2.1 HFEW.out.2.2.2.1).mono ?_
      rintro e w3 ⟨rfl, sm, sa, sc, gm, ga, gc, hk3⟩
      have HL3 := Lib.hid hk3
      clear hk3
      go_wp2_with fail
      refine (wSections_any HL3.out HK.out.len (by rw [secsW_len]; exact HFEW.out.1) (secsW_fits _ _) (by rw [secsW_len]; exact HFEW.out.2.2.2.2) (by simp)).mono ?_
      rintro e w4 ⟨rfl, X, fm4, fa4, fc4, hk4, hx4, hl4⟩
      have HL4 := Lib.hid hk4
      have HX4 := Lib.hid hx4
      have HXL := Lib.hid hl4
      clear hk4 hx4 hl4
      go_wp2_with fail
      refine (wSegments_any HL4.out HK.out.len (by rw [segsW_len]; exact HFEW.out.2.1) (segsW_fits _ _) (by have := HXL.out; rw [List.nil_append]; omega)).mono ?_
      rintro e w5 ⟨rfl, Y, fm5, fa5, fc5, hk5, hx5⟩
      have HL5 := Lib.hid hk5
      have HX5 := Lib.hid hx5
      obtain ⟨-, c1, -, -⟩ := hk5.cells
      clear hk5 hx5
      go_wp2
      go_ret
      refine ⟨⟨_, _, rfl, HL5.out.f, ⟨fun h => absurd HHF.out h, fun _ f hf => ?_⟩⟩, HL5.out.below⟩
      rw [List.nil_append] at hf
      rcases List.mem_append.1 hf with h | h
      · exact .inl (HX4.out f h)
      · have := HX5.out f h
        rw [segsW_len] at this
        exact .inr ⟨this.1, this.2.imp (fun h => by omega) id⟩
/-- What Sound comes to. -/
def SndRes (l : List UInt8) (r : Ending) : Prop := ∃ F, r = .returned (.bool (decide (F = ([] : List FlM)))) ∧ Checked l F
set_option maxRecDepth 100000 in
theorem wSound_any (l : List UInt8) (v : Value) (w : World) (hk : Lookable l) (hv : Bs w v l) :
    Calls Try.prog 17 #[v] w fun r w' => SndRes l r ∧ Below w.heap.size w w' := by
  have HC := Lib.hid (wCheck_any l v w hk hv)
  obtain ⟨m, ad, cap, -, rfl, _, _⟩ := hv.shape
  clear hv hk
  go_enter Try.func17, Try.ntmps17
  go_wp2_with fail
  refine HC.out.mono ?_
  rintro e w1 ⟨⟨fv, F, rfl, ho, hc⟩, hb⟩
  obtain ⟨n, a, c, hn, rfl, _, _⟩ := ho.shape
  have HE := Lib.hid (show decide (n = 0) = decide (F = []) by
    have := hn.out
    cases F with
    | nil => simp at this; simp [this]
    | cons x F => simp at this; simp; omega)
  have e1 : ((n : Int) == 0) = decide (n = 0) := zbeq rfl
  have HCC := Lib.hid hc
  have HB := Lib.hid hb
  clear ho hc hb hn
  generalize decide (n = 0) = q at *
  go_wp2
  go_ret
  exact ⟨⟨F, by rw [← HE.out]; rfl, HCC.out⟩, HB.out⟩
end Go.Proofs.Ytimnbnomaajmmaa
namespace Go.Proofs.Ytimnbnomaajmmaa
open Go.RowKit Go.Fd
theorem look_file {e : ElfM} (hm : mayE e = true) : Lookable (fileB e) := by
  have h := mayK hm
  have n := head_num h
  have hfg := front_ge h
  have hle := h.len
  have hs := h.secs
  have hg := h.segs
  refine ⟨by rw [n.len]; omega, .inr ⟨?_, ?_, ?_⟩, fun _ => ?_⟩
  · unfold bad1
    rw [n.magic, n.len]
    simp; omega
  · unfold HdrWay
    rw [n.typ, n.one, n.hsize, n.gsize, n.ssize, n.ng]
    rcases h.typ with h1 | h1 <;> rw [h1]
    · rcases Nat.eq_zero_or_pos e.segs.length with h2 | h2
      · exact .inl ⟨rfl, rfl, rfl, h2, rfl⟩
      · exact .inr (.inl ⟨rfl, rfl, rfl, h2, rfl, rfl⟩)
    · rcases Nat.eq_zero_or_pos e.segs.length with h2 | h2
      · exact .inr (.inr (.inl ⟨rfl, rfl, rfl, h2, rfl⟩))
      · exact .inr (.inr (.inr (.inl ⟨rfl, rfl, rfl, h2, rfl, rfl⟩)))
  · unfold withinB
    rw [n.front, n.ng, n.len]
    simp only [Bool.or_eq_true, Bool.and_eq_true, decide_eq_true_eq]
    right; split <;> omega
  · rw [n.ns, n.ng, n.heads, n.front, n.own]
    refine ⟨by omega, by omega, by omega, ?_, by omega⟩
    split <;> omega
/-- What a flaw of a file that was written tells. -/
def FlWr (e : ElfM) (f : FlM) : Prop := (8 ≤ f.code ∧ (e.segs.length ≠ 0 ∨ e.typ = 2)) ∨ (f.code = 5 ∧ ∃ (j : Nat) (s : SecM), f.a = (j : Int) + 1 ∧ e.secs[j]? = some s ∧ s.align ≠ 0 ∧ s.addr % s.align ≠ 0)
theorem checked_file {e : ElfM} (hm : mayE e = true) (hf : e.fits) {F : List FlM} (hc : Checked (fileB e) F) : ∀ f ∈ F, FlWr e f :=
  fun f h => fl_written hm hf (hc.2 (head_sound (mayK hm)) f h)
theorem sound_file {e : ElfM} (hm : mayE e = true) (hf : e.fits) (hg : e.segs = []) (ht : e.typ = 1) (ha : ∀ s ∈ e.secs, s.addr = 0) {F : List FlM} (hc : Checked (fileB e) F) : F = [] := by
  cases F with
  | nil => rfl
  | cons f F =>
    exfalso
    rcases checked_file hm hf hc f (by simp) with ⟨_, h | h⟩ | ⟨_, j, s, _, hj, _, h⟩
    · rw [hg] at h; exact h rfl
    · rw [ht] at h; exact absurd h (by decide)
    · rw [ha s (List.mem_of_getElem? hj), Nat.zero_mod] at h
      exact h rfl
end Go.Proofs.Ytimnbnomaajmmaa
namespace Go.Proofs.Ytimnbnomaajmmaa
open Go.RowKit Go.Fd
theorem snd_file {e : ElfM} (hm : mayE e = true) (hf : e.fits) (hg : e.segs = []) (ht : e.typ = 1) (ha : ∀ s ∈ e.secs, s.addr = 0) {r : Ending} (h : SndRes (fileB e) r) : r = .returned (.bool true) := by
  obtain ⟨F, h1, h2⟩ := h
  rw [sound_file hm hf hg ht ha h2] at h1
  exact h1
end Go.Proofs.Ytimnbnomaajmmaa
namespace Go.Proofs.Ytimnbnomaajmmaa
open Go.RowKit Go.Fd
/-- What is known of an argument. -/
structure ObjArg (o : ObjM) : Prop where
  target : -9223372036854775808 ≤ o.target ∧ o.target < 9223372036854775808
  nums : ∀ p ∈ o.parts, (-9223372036854775808 ≤ p.align ∧ p.align < 9223372036854775808) ∧ (-9223372036854775808 ≤ p.size ∧ p.size < 9223372036854775808)
  relas : ∀ p ∈ o.parts, ∀ x ∈ p.relas, x.off < 18446744073709551616 ∧ -9223372036854775808 ≤ x.add ∧ x.add < 9223372036854775808
  vals : ∀ s ∈ o.syms, s.value < 18446744073709551616 ∧ s.size < 18446744073709551616
  parts : o.parts.length ≤ 100000000
  sum : psum o.parts ≤ 1000000000
  names : ∀ p ∈ o.parts, p.name.length ≤ 9223372036854775807 ∧ p.flags.length ≤ 9223372036854775807
  texts : ∀ s ∈ o.syms, s.name.length ≤ 9223372036854775807
theorem ObjArg.ok {o : ObjM} (h : ObjArg o) (hl : lightO o = true) : ObjOk o ∧ ∀ p ∈ o.parts, p.data.length ≤ 24000 := by
  unfold lightO at hl
  simp only [Bool.and_eq_true, decide_eq_true_eq] at hl
  obtain ⟨⟨h1, h2⟩, h3⟩ := hl
  have hp : ∀ p ∈ o.parts, p.data.length + 24 * p.relas.length ≤ 8192 := fun p hp => Nat.le_trans (psum_mem hp) h1
  exact ⟨⟨⟨h.target, fun p hm => ⟨(h.nums p hm).1, (h.nums p hm).2, by have := hp p hm; omega⟩, fun p hm => ⟨by have := hp p hm; omega, h.relas p hm⟩, by omega, h.vals⟩, by omega, h.names, fun p hm => by have := hp p hm; omega, h.texts⟩, fun p hm => by have := hp p hm; omega⟩
theorem fileO_err {o : ObjM} {b : List UInt8} {c : Int} (h : fileO o = (b, c)) (hc : c ≠ 0) : b = [] := by
  unfold fileO at h
  split at h
  · rw [Prod.mk.injEq] at h; exact h.1.symm
  · split at h
    · rw [Prod.mk.injEq] at h; exact absurd h.2.symm hc
    · rw [Prod.mk.injEq] at h; exact h.1.symm
theorem fileO_len (o : ObjM) : (fileO o).1.length ≤ 1000000000 := by
  unfold fileO
  split
  · exact Nat.zero_le _
  · split
    · next hm =>
      have h1 := fileB_len (mayK hm)
      have h2 := (mayK hm).len
      show (fileB (elfO o)).length ≤ _
      omega
    · exact Nat.zero_le _
theorem elfO_plain (o : ObjM) : ∀ s ∈ (elfO o).secs, s.addr = 0 := by
  intro s hs
  have hs' : s ∈ o.parts.map secPart ++ relSecs (symtabNo o) 0 o.parts ++ [symSec o, strSec o] := hs
  rw [List.mem_append, List.mem_append] at hs'
  rcases hs' with (hs' | hs') | hs'
  · obtain ⟨p, hp, rfl⟩ := List.mem_map.1 hs'; rfl
  · obtain ⟨p, hp, j, hj, rfl⟩ := relSecs_mem _ _ hs'; rfl
  · rcases List.mem_cons.1 hs' with rfl | hs'
    · rfl
    · rcases List.mem_singleton.1 hs' with rfl; rfl
theorem sound_obj {o : ObjM} {b : List UInt8} (ho : ObjOk o) (h : fileO o = (b, 0)) (v : Value) (w : World) (hv : Bs w v b) :
    Calls Try.prog 17 #[v] w fun r w' => r = .returned (.bool true) ∧ Below w.heap.size w w' := by
  obtain ⟨h1, h2, rfl⟩ := fileO_0 h
  exact (wSound_any _ v w (look_file h2) hv).mono fun r w' ⟨h3, h4⟩ => ⟨snd_file h2 (elfO_ok ho h1).fits rfl rfl (elfO_plain o) h3, h4⟩
end Go.Proofs.Ytimnbnomaajmmaa
namespace Go.Proofs.Ytimnbnomaajmmaa
open Go.RowKit Go.Fd
set_option maxHeartbeats 8000000 in
set_option maxRecDepth 100000 in
theorem objectBack_any (o : ObjM) (L : List (PartM × Value × Value)) (pv sv : Value) (w : World) (h : ObjAt w o L pv sv) (ha : ObjArg o) :
    Calls Try.prog 4 #[objV o pv sv] w fun e w' => e = .returned (.bool true) ∧ Below w.heap.size w w' := by
  have HH := Lib.hid h
  have HBG := Lib.hid begun17_any
  have HLI := Lib.hid (fun wx (hb : Below w.heap.size w wx) => light17_any o L pv sv wx (h.mono hb) (by have := ha.parts; omega) ha.sum)
  have HOK := Lib.hid (ha.ok)
  obtain ⟨pn, pa, pc, hpn, rfl, -, -⟩ := h.rd.shape
  obtain ⟨sn, sa, sc, -, rfl, -, -⟩ := h.syms.shape
  clear h ha
  generalize lightO o = li at *
  cases li with
  | false =>
    go_enter Try.func4, Try.ntmps4
    go_wp2_with (first
      | ((with_reducible show wpList _ _ _ (⟨some 1, .box _ _, _, _, _, _⟩ :: _) _ _); go_must (refine wpList_box rfl ?_; intro w1 hx1 hb1 hs1; have HX1 := Lib.hid hx1; have HB1 := Lib.hid hb1; clear hx1 hb1))
      | (go_at_call 5; refine (HBG.out _).mono ?_; rintro e w2 ⟨rfl, hb2⟩; have HX2 := Lib.hid (heap_below hb2 HX1.out); have HB2 := Lib.hid (HB1.out.trans (hb2.mono HB1.out.size)); obtain ⟨c0, c1, c2⟩ := obj_box HX2.out; clear hb2)
      | (go_at_call 6; refine (HLI.out _ HB2.out).mono ?_; rintro e w3 ⟨rfl, hb3⟩; have HB3 := Lib.hid (HB2.out.trans (hb3.mono HB2.out.size)); clear hb3))
    go_ret
    exact ⟨rfl, HB3.out⟩
  | true =>
    obtain ⟨hok, hdt⟩ := HOK.out rfl
    by_cases h30 : 30 < pn
    · go_enter Try.func4, Try.ntmps4
      go_wp2_with (first
        | ((with_reducible show wpList _ _ _ (⟨some 1, .box _ _, _, _, _, _⟩ :: _) _ _); go_must (refine wpList_box rfl ?_; intro w1 hx1 hb1 hs1; have HX1 := Lib.hid hx1; have HB1 := Lib.hid hb1; clear hx1 hb1))
        | (go_at_call 5; refine (HBG.out _).mono ?_; rintro e w2 ⟨rfl, hb2⟩; have HX2 := Lib.hid (heap_below hb2 HX1.out); have HB2 := Lib.hid (HB1.out.trans (hb2.mono HB1.out.size)); obtain ⟨c0, c1, c2⟩ := obj_box HX2.out; clear hb2)
        | (go_at_call 6; refine (HLI.out _ HB2.out).mono ?_; rintro e w3 ⟨rfl, hb3⟩; have HX3 := Lib.hid (heap_below hb3 HX2.out); have HB3 := Lib.hid (HB2.out.trans (hb3.mono HB2.out.size)); obtain ⟨c0, c1, c2⟩ := obj_box HX3.out; clear hb3))
      go_ret
      exact ⟨rfl, HB3.out⟩
    have HSM : Hid (∀ M pu su wx, ObjAt wx o M pu su → ObjAt wx o L (.slice pa pn pc) (.slice sa sn sc) → Calls Try.prog 14 #[objV o (.slice pa pn pc) (.slice sa sn sc), objV o pu su] wx fun e w' => e = .returned (.bool true) ∧ Below wx.heap.size wx w') := Lib.hid (fun M pu su wx h1 h2 => refSame_eq o L M _ _ pu su wx h2 h1 (by have := hok.many; omega) (by have := hok.wf.many; omega) (fun p hp => by have := (hok.wf.relas p hp).1; omega))
    have HFL := Lib.hid (fileO_len o)
    have HERR := Lib.hid (fun b c => fileO_err (o := o) (b := b) (c := c))
    have HRD := Lib.hid (fun b v wx hf hv => read6_obj o b v wx hok hdt hf hv)
    have HSD := Lib.hid (fun b (hf : fileO o = (b, 0)) v wx hv => sound_obj hok hf v wx hv)
    generalize hfo : fileO o = fo at *
    obtain ⟨fb, fc⟩ := fo
    dsimp only at *
    have HFI : Hid (∀ L pv sv wx, ObjAt wx o L pv sv → Calls Try.prog 8 #[objV o pv sv] wx fun e w' => (∃ a n c, e = .returned (.tuple #[.slice a n c, .int .i64 fc]) ∧ n = fb.length ∧ Bs w' (.slice a n c) fb) ∧ Below wx.heap.size wx w') := Lib.hid (fun L pv sv wx h1 => (file6_any o L pv sv wx h1 hok).mono fun r w' ⟨v, h2, h3, h4⟩ => by
      rw [hfo] at h2 h3
      obtain ⟨n, a, c, hn, rfl, -, -⟩ := h3.shape
      exact ⟨⟨a, n, c, h2, hn.out, h3.bs⟩, h4⟩)
    clear hok hdt hfo HOK
    by_cases hfc : fc = 0
    case neg =>
      have hcb : (fc != 0) = true := bne_iff_ne.2 hfc
      have hfb : fb = [] := HERR.out fb fc rfl hfc
      subst hfb
      clear hfc
      go_enter Try.func4, Try.ntmps4
      go_wp2_with (first
        | ((with_reducible show wpList _ _ _ (⟨some 1, .box _ _, _, _, _, _⟩ :: _) _ _); go_must (refine wpList_box rfl ?_; intro w1 hx1 hb1 hs1; have HX1 := Lib.hid hx1; have HB1 := Lib.hid hb1; clear hx1 hb1))
        | (go_at_call 5; refine (HBG.out _).mono ?_; rintro e w2 ⟨rfl, hb2⟩; have HX2 := Lib.hid (heap_below hb2 HX1.out); have HB2 := Lib.hid (HB1.out.trans (hb2.mono HB1.out.size)); obtain ⟨c0, c1, c2⟩ := obj_box HX2.out; clear hb2)
        | (go_at_call 6; refine (HLI.out _ HB2.out).mono ?_; rintro e w3 ⟨rfl, hb3⟩; have HX3 := Lib.hid (heap_below hb3 HX2.out); have HB3 := Lib.hid (HB2.out.trans (hb3.mono HB2.out.size)); obtain ⟨c0, c1, c2⟩ := obj_box HX3.out; clear hb3)
        | (go_at_call 8; refine (HFI.out _ _ _ _ (HH.out.mono HB3.out)).mono ?_; rintro e w4 ⟨⟨a4, n4, c4, rfl, rfl, ho4⟩, hb4⟩; have HB4 := Lib.hid (HB3.out.trans (hb4.mono HB3.out.size)); clear ho4 hb4))
      go_ret
      exact ⟨rfl, HB4.out⟩
    subst hfc
    have HRD2 := Lib.hid (fun v wx hv => HRD.out fb v wx rfl hv)
    have HSD2 := Lib.hid (HSD.out fb rfl)
    clear HRD HSD HERR
    go_enter Try.func4, Try.ntmps4
    go_wp2_with (first
      | ((with_reducible show wpList _ _ _ (⟨some 1, .box _ _, _, _, _, _⟩ :: _) _ _); go_must (refine wpList_box rfl ?_; intro w1 hx1 hb1 hs1; have HX1 := Lib.hid hx1; have HB1 := Lib.hid hb1; clear hx1 hb1))
      | (go_at_call 5; refine (HBG.out _).mono ?_; rintro e w2 ⟨rfl, hb2⟩; have HX2 := Lib.hid (heap_below hb2 HX1.out); have HB2 := Lib.hid (HB1.out.trans (hb2.mono HB1.out.size)); obtain ⟨c0, c1, c2⟩ := obj_box HX2.out; clear hb2)
      | (go_at_call 6; refine (HLI.out _ HB2.out).mono ?_; rintro e w3 ⟨rfl, hb3⟩; have HX3 := Lib.hid (heap_below hb3 HX2.out); have HB3 := Lib.hid (HB2.out.trans (hb3.mono HB2.out.size)); obtain ⟨c0, c1, c2⟩ := obj_box HX3.out; clear hb3)
      | (go_at_call 16; refine (HRD2.out _ _ HF4.out).mono ?_; rintro e w5 ⟨⟨PL, pv5, sv5, rfl, ho5⟩, hb5⟩; have HO5 := Lib.hid ho5.at; have HF5 := Lib.hid (HF4.out.mono hb5); have HX5 := Lib.hid (heap_below hb5 HX4.out); have HB5 := Lib.hid (HB4.out.trans (hb5.mono HB4.out.size)); obtain ⟨m1, u1, k1, -, rfl, -, -⟩ := ho5.po.shape; obtain ⟨m2, u2, k2, -, rfl, -, -⟩ := ho5.so.shape; clear ho5 hb5)
      | ((with_reducible show wpList _ _ _ (⟨some 5, .alloc _, _, _, _, _⟩ :: _) _ _); go_must (refine wpList_allocObj ?_; intro w6 hx6 hb6 hs6; have HY6 := Lib.hid hx6; have HB56 := Lib.hid hb6; clear hx6 hb6))
      | ((with_reducible show wpList _ _ _ (⟨none, .store _ (.tmp 5) _, _, _, _, _⟩ :: _) _ _); go_must (refine wpList_storeMade HY6.out rfl rfl (by kernel_rfl) rfl (by simp [Value.oneCell']) (Nat.le_refl _) (Nat.le_of_lt hs6) ?_; intro w7 hh7 hb7; have HY7 := Lib.hid hh7; have HB57 := Lib.hid (HB56.out.trans hb7); have HX7 := Lib.hid (heap_below HB57.out HX5.out); have HO7 := Lib.hid (HO5.out.mono HB57.out); have HF7 := Lib.hid (HF5.out.mono HB57.out); have HB7 := Lib.hid (HB5.out.trans (HB57.out.mono HB5.out.size)); obtain ⟨d0, d1, d2⟩ := obj_box hh7; clear hh7 hb7))
      | (go_at_call 14; refine (HSM.out _ _ _ _ HO8.out (HH.out.mono HB8.out)).mono ?_; rintro e w9 ⟨rfl, hb9⟩; have HF9 := Lib.hid (HF8.out.mono hb9); have HG9 := Lib.hid (HG8.out.mono hb9); have HB9 := Lib.hid (HB8.out.trans (hb9.mono HB8.out.size)); have hk1 := run_str HF9.out; have hk2 := run_str HG9.out; clear hb9)
      | (go_at_call 17; refine (HSD2.out _ _ HF9.out).mono ?_; rintro e wA ⟨rfl, hbA⟩; have HBA := Lib.hid (HB9.out.trans (hbA.mono HB9.out.size)); clear hbA)
      | (go_at_call 8; refine (HFI.out _ _ _ _ HO7.out).mono ?_; rintro e w8 ⟨⟨a8, n8, c8, rfl, hn8, hg8⟩, hb8⟩; have HG8 := Lib.hid hg8; have HX8 := Lib.hid (heap_below hb8 HX7.out); have HY8 := Lib.hid (heap_below hb8 HY7.out); have HO8 := Lib.hid (HO7.out.mono hb8); have HF8 := Lib.hid (HF7.out.mono hb8); have HB8 := Lib.hid (HB7.out.trans (hb8.mono HB7.out.size)); obtain ⟨c0, c1, c2⟩ := obj_box HX8.out; obtain ⟨d0, d1, d2⟩ := obj_box HY8.out; clear hb8 hg8 hn8)
      | (go_at_call 8; refine (HFI.out _ _ _ _ (HH.out.mono HB3.out)).mono ?_; rintro e w4 ⟨⟨a4, n4, c4, rfl, hn4, ho4⟩, hb4⟩; have HF4 := Lib.hid ho4; have HX4 := Lib.hid (heap_below hb4 HX3.out); have HB4 := Lib.hid (HB3.out.trans (hb4.mono HB3.out.size)); clear ho4 hb4 hn4))
    go_ret
    exact ⟨rfl, HBA.out⟩
end Go.Proofs.Ytimnbnomaajmmaa
namespace Go.Proofs.Ytimnbnomaajmmaa
open Go.ChangeShapes Go.WideShapes Go.ChangeAt Go.RowKit Go.Fd
theorem Try.own : ownKnob Try.prog.godebug = none := by kernel_rfl
theorem Try.laidOut : laidOutB Try.prog = true := by kernel_rfl
/-- All arguments read behind the call as they read before it. -/
theorem belowAll {H : Type} {enc : TypeId × Value → H} {W W' : World} (hb : Below W.heap.size W W') : ∀ {ts : List TypeId} {vs : List Value} {ds : List (DataW H)} {ps : List MemPlace},
    DataW.TrodAll enc Try.prog W 0 (fun _ => true) true ts vs ds ps → (∀ x ∈ ps, x.block < W.heap.size) → (∀ t ∈ ts, Try.prog.readableRec t = true ∧ t < Try.prog.types.size) →
    DataW.TrodAll enc Try.prog W' 0 (fun b => decide (b < W.heap.size)) true ts vs ds ps
  | [], vs, ds, ps, h, _, _ => by obtain ⟨rfl, rfl, rfl⟩ := trodAll_nil h; exact trodAll_mk0
  | t :: ts, vs, ds, ps, h, hlt, ht => by
    obtain ⟨v, vs', d, ds', p, q, rfl, rfl, rfl, h0, h1⟩ := trodAll_cons h
    exact trodAll_cons_mk (Below.trod Try.laidOut (ht t (by simp)).1 (ht t (by simp)).2 h0 hb fun x hx => hlt x (by simp [hx]))
      (belowAll hb h1 (fun x hx => hlt x (by simp [hx])) fun u hu => ht u (by simp [hu]))
/-- The same, the types asked as one closed fact. -/
theorem belowAllB {H : Type} {enc : TypeId × Value → H} {W W' : World} {ts : List TypeId} (ht : (ts.all fun t => Try.prog.readableRec t && decide (t < Try.prog.types.size)) = true) (hb : Below W.heap.size W W') {vs : List Value} {ds : List (DataW H)} {ps : List MemPlace}
    (h : DataW.TrodAll enc Try.prog W 0 (fun _ => true) true ts vs ds ps) (hlt : ∀ x ∈ ps, x.block < W.heap.size) : DataW.TrodAll enc Try.prog W' 0 (fun b => decide (b < W.heap.size)) true ts vs ds ps :=
  belowAll hb h hlt fun t htm => by
    have := List.all_eq_true.1 ht t htm
    simp only [Bool.and_eq_true, decide_eq_true_eq] at this
    exact this
theorem wf_u64 {x : Int} (h : (Lit.int .u64 x).wf = true) : 0 ≤ x ∧ x < 18446744073709551616 := by
  simp [Lit.wf, IntKind.min, IntKind.max, IntKind.signed, IntKind.bits] at h
  exact ⟨by omega, by omega⟩
theorem wf_i64' {x : Int} (h : (Lit.int .i64 x).wf = true) : -9223372036854775808 ≤ x ∧ x < 9223372036854775808 := by
  simp [Lit.wf, IntKind.min, IntKind.max, IntKind.signed, IntKind.bits] at h
  exact ⟨by omega, by omega⟩
theorem len_3 {α : Type} : ∀ {l : List α}, l.length = 3 → ∃ a0 a1 a2, l = [a0, a1, a2]
  | [a0, a1, a2], _ => ⟨a0, a1, a2, rfl⟩
theorem len_4 {α : Type} : ∀ {l : List α}, l.length = 4 → ∃ a0 a1 a2 a3, l = [a0, a1, a2, a3]
  | [a0, a1, a2, a3], _ => ⟨a0, a1, a2, a3, rfl⟩
theorem len_6 {α : Type} : ∀ {l : List α}, l.length = 6 → ∃ a0 a1 a2 a3 a4 a5, l = [a0, a1, a2, a3, a4, a5]
  | [a0, a1, a2, a3, a4, a5], _ => ⟨a0, a1, a2, a3, a4, a5, rfl⟩
end Go.Proofs.Ytimnbnomaajmmaa
namespace Go.Fd
def RelaM.fits (x : RelaM) : Prop := x.off < 18446744073709551616 ∧ -9223372036854775808 ≤ x.add ∧ x.add < 9223372036854775808
end Go.Fd
namespace Go.Proofs.Ytimnbnomaajmmaa
open Go.ChangeMaps Go.ChangeShapes Go.WideShapes Go.ChangeAt Go.RowKit Go.Fd
/-- A struct of cells, each field of one cell: how each reads. -/
theorem cells_struct {H : Type} {enc : TypeId × Value → H} {P : Program} {w : World} {base : Nat} {spare : Nat → Bool} {held : Bool} {t : TypeId} {fs : Array Field} {cs : List Value} {fuel : Nat} {y : DataW H × List MemPlace}
    (hs : P.underlying t = some (.struct fs)) (hone : Go.Deep.oneCellFields P fs = true) (hC : cs.length = fs.size) (h : DataW.trod enc P w base spare held fuel t cs = some y) :
    ∃ n, ∀ (j : Nat) (f : Field), fs[j]? = some f → ∃ x y, cs[j]? = some x ∧ DataW.trod enc P w base spare held n f.type [x] = some y := by
  obtain ⟨xs, n, _, hx, _, hlen, hg⟩ := DataW.trod_struct hs h
  refine ⟨n, fun j f hj => ?_⟩
  obtain ⟨o, k⟩ := Go.Deep.hone_of hone j f hj
  have hjl : j < fs.size := (Array.getElem?_eq_some_iff.1 hj).1
  have hcl : j < cs.length := by omega
  have h1 := hg j f hj
  rw [o, k] at h1
  have h2 : (List.drop j cs).take 1 = [cs[j]] := by
    rw [List.drop_eq_getElem_cons hcl]
    rfl
  rw [h2] at h1
  exact ⟨_, xs[j]'(by omega), List.getElem?_eq_getElem hcl, h1.trans (List.getElem?_eq_getElem _)⟩
end Go.Proofs.Ytimnbnomaajmmaa
namespace Go.Proofs.Ytimnbnomaajmmaa
open Go
theorem handed_cond {H : Type} {enc : TypeId × Value → H} {a : Assume} {C : Go.Checked} {os : Os} {f : FuncId} {fn : Func} {s : OpenSpec} {k : (H : Type) → List (DataW H) → Bool} (hk : s.cond = some k) {F : Stop.Interp} {conds : List PathCond} {apart fresh handsOn again : Bool}
    (own : ownKnob C.prog.godebug = none) (started : os.Started) (noInit : C.prog.inits.idxOf? f = none) (hfn : C.prog.funcs[f]? = some fn)
    (witness : ∃ (w : World) (tape : Tape) (i : Input), w.os = os ∧ (w.forCall tape i).Shaped C.prog ∧ i.vars = [] ∧ Input.okWide C.prog (w.forCall tape i) .any w.heap.size f i ∧
      s.pre6 enc C.prog fn conds apart (w.forCall tape i).memory i.args ∧ a.holds C.prog (lone (Frame.enter C.prog f i.args .normal) [] (w.forCall tape i)))
    (contract : ∀ (W : World) (base : Nat) (args : Array Value) (ds gs : List (DataW H)) (before : List MemPlace),
      (∀ (j : Nat) t v, fn.params[j]? = some t → args[j]? = some v → Value.okWide C.prog W .any base t v) →
      DataW.Whole enc C.prog fn.params.toList s.vars apart W args.toList ds gs before →
      k H (ds ++ gs) = true →
      (DataW.weightsEach C.prog (fn.params.toList ++ s.bare.plain.varTypes C.prog) (ds ++ gs)).all (· ≤ reachBytes) = true →
      W.ShapedOpen C.prog →
      Calls C.prog f args W fun e W' => ∃ v, e = .returned v ∧ (s.at F).post enc C.prog fn apart fresh handsOn again W args v W') :
    ReturnsInHanded a C os f .any (s.pre6 enc C.prog fn conds apart) ((s.at F).post enc C.prog fn apart fresh handsOn again) := by
  refine returnsInHanded_of_calls own started noInit witness ?_
  intro w tape i _ hsh _ hok hpre _
  obtain ⟨_, _, _, fn', hfn', _, _, _, _, hval⟩ := hok
  obtain rfl : fn' = fn := Option.some.inj (hfn'.symm.trans hfn)
  obtain ⟨ds, gs, before, hw, _, hkk⟩ := (OpenSpec.pre_some hk conds apart _ _).1 hpre.1
  refine (contract (w.forCall tape i) w.heap.size i.args ds gs before hval (DataW.Whole.of_heap (w' := w.forCall tape i) (by rfl) hw) hkk (hpre.2.weights hw) hsh).mono fun e W' ⟨v, he, hp⟩ => ?_
  subst he
  exact ChangeSpec.post_blind hp
end Go.Proofs.Ytimnbnomaajmmaa
namespace Go.Proofs.Ytimnbnomaajmmaa
open Go.ChangeMaps Go.ChangeShapes Go.WideShapes Go.ChangeAt Go.RowKit Go.Fd
section
variable {H : Type}
theorem bulkAll_append (xs ys : List (DataW H)) : Rows.uptoBulkAll (xs ++ ys) = Rows.uptoBulkAll xs + Rows.uptoBulkAll ys := by
  induction xs with
  | nil => simp [Rows.uptoBulkAll]
  | cons x xs ih => rw [List.cons_append, Rows.uptoBulkAll, Rows.uptoBulkAll, ih]; omega
theorem bulk_get {xs : List (DataW H)} {i : Nat} {x : DataW H} (h : xs[i]? = some x) : Rows.uptoBulk x ≤ Rows.uptoBulkAll xs := by
  induction xs generalizing i with
  | nil => simp at h
  | cons y xs ih =>
    rw [Rows.uptoBulkAll]
    cases i with
    | zero => simp at h; subst h; omega
    | succ i => have := ih (by simpa using h); omega
theorem bulk_pair {xs : List (DataW H)} {i j : Nat} {x y : DataW H} (hij : i < j) (hx : xs[i]? = some x) (hy : xs[j]? = some y) : Rows.uptoBulk x + Rows.uptoBulk y ≤ Rows.uptoBulkAll xs := by
  induction xs generalizing i j with
  | nil => simp at hx
  | cons z xs ih =>
    rw [Rows.uptoBulkAll]
    cases j with
    | zero => omega
    | succ j =>
      cases i with
      | zero => simp at hx; subst hx; have := bulk_get (xs := xs) (i := j) (by simpa using hy); omega
      | succ i => have := ih (i := i) (j := j) (by omega) (by simpa using hx) (by simpa using hy); omega
end
set_option maxRecDepth 100000 in
/-- A slice of records, as it is read, with a measure of each. -/
theorem trod_recs {H : Type} {enc : TypeId × Value → H} {W : World} {v : Value} {y : DataW H × List MemPlace} {fuel : Nat} {α : Type} {k : Nat} {ec : α → List Value} {good : α → Prop} {μ : α → Nat} {t e : TypeId}
    (ht : Try.prog.underlying t = some (.slice e)) (hc : Try.prog.cellsOf e = k) (hk0 : 0 < k) (hlen : ∀ x, (ec x).length = k)
    (hstep : ∀ n cs y, DataW.trod enc Try.prog W 0 (fun _ => true) true n e cs = some y → cs.length = k → ∃ x, cs = ec x ∧ good x ∧ μ x ≤ Rows.uptoBulk y.1)
    (h : DataW.trod enc Try.prog W 0 (fun _ => true) true fuel t [v] = some y) : ∃ l : List α, RdR k ec W v l ∧ (∀ x ∈ l, good x) ∧ (l.map μ).sum + 1 ≤ Rows.uptoBulk y.1 := by
  rcases Go.Deep.open_slice ht h with ⟨hcs, hx⟩ | ⟨a, len, cap, m, n, D, Pl, hcs, _, hl, hm, hmm, hd, hel⟩
  · simp at hcs
    subst hcs hx
    exact ⟨[], RdR.nil k ec W, (fun x hx => by cases hx), by simp [Rows.uptoBulk]⟩
  · simp at hcs
    subst hcs hd
    simp only [hc] at hel
    have hall : ∀ n', n' ≤ len → ∃ l : List α, l.length = n' ∧ (l.map μ).sum ≤ Rows.uptoBulkAll ((List.range n').map D) ∧ ∀ i x, l[i]? = some x → good x ∧ ∀ c, c < k → W.cell? (a.add (i * k + c)) = (ec x)[c]? := by
      intro n'
      induction n' with
      | zero => exact fun _ => ⟨[], rfl, by simp, fun i x h => by simp at h⟩
      | succ n' ih =>
        intro hn
        obtain ⟨l, h1, hs, h2⟩ := ih (by omega)
        obtain ⟨cs', h3, h4⟩ := hel n' (by simp at hmm; omega)
        obtain ⟨-, h5, h6⟩ := World.cells?_some h3
        obtain ⟨x, rfl, hg, hμ⟩ := hstep _ _ _ h4 h5
        dsimp only at hμ
        refine ⟨l ++ [x], by simp [h1], ?_, fun i y hi => ?_⟩
        · rw [List.range_succ, List.map_append, List.map_append, List.sum_append, bulkAll_append]
          simp [Rows.uptoBulkAll]
          omega
        · rcases Nat.lt_or_ge i n' with hlt | hge
          · rw [List.getElem?_append_left (by omega)] at hi
            exact h2 i y hi
          · rw [List.getElem?_append_right (by omega)] at hi
            have hi0 : i - l.length = 0 := by
              have := (List.getElem?_eq_some_iff.1 hi).1
              simp at this
              omega
            rw [hi0] at hi
            cases hi
            obtain rfl : i = n' := by omega
            refine ⟨hg, fun c hc => ?_⟩
            have := h6 c hc
            rwa [Go.Deep.add_add] at this
    obtain ⟨l, h1, hs, h2⟩ := hall len (Nat.le_refl _)
    refine ⟨l, ⟨by rw [flat_len hlen], some a, cap, by rw [h1], by omega, (fun h => by cases h), fun j hj => ?_⟩, fun x hx => ?_, ?_⟩
    · rw [flat_len hlen] at hj
      have hjk : j = j / k * k + j % k := by rw [Nat.mul_comm]; exact (Nat.div_add_mod j k).symm
      have hi : j / k < l.length := (Nat.div_lt_iff_lt_mul hk0).2 hj
      have hx : l[j / k]? = some l[j / k] := List.getElem?_eq_getElem hi
      have h3 := (h2 _ _ hx).2 (j % k) (Nat.mod_lt _ hk0)
      rw [← hjk] at h3
      have h4 := flat_get hlen l (j / k) (j % k) _ hx (Nat.mod_lt _ hk0)
      rw [← hjk] at h4
      obtain ⟨b, off, spot⟩ := a
      have hspot : spot = none := by
        have hl0 : 0 < l.length := Nat.lt_of_le_of_lt (Nat.zero_le _) hi
        have hx0 : l[0]? = some (l[0]'hl0) := List.getElem?_eq_getElem _
        have h0 := (h2 0 _ hx0).2 0 hk0
        have h5 : (ec (l[0]'hl0))[0]? = some ((ec (l[0]'hl0))[0]'(by rw [hlen]; exact hk0)) := List.getElem?_eq_getElem _
        rw [h5, Nat.zero_mul, Nat.zero_add] at h0
        simpa [Addr.add] using World.cell?_spot h0
      subst hspot
      refine ⟨b, off, rfl, ?_⟩
      rw [add_plain] at h3
      rw [h3, h4]
    · obtain ⟨i, hi⟩ := List.mem_iff_getElem?.1 hx
      exact (h2 i x hi).1
    · rw [Rows.uptoBulk]
      omega
theorem flat_one {α β : Type} (f : α → β) (l : List α) : l.flatMap (fun c => [f c]) = l.map f := by
  induction l with
  | nil => rfl
  | cons x l ih => rw [List.flatMap_cons, ih]; rfl
set_option maxRecDepth 100000 in
theorem trod_bytes {H : Type} {enc : TypeId × Value → H} {W : World} {v : Value} {y : DataW H × List MemPlace} {fuel : Nat} (h : DataW.trod enc Try.prog W 0 (fun _ => true) true fuel 29 [v] = some y) :
    ∃ l : List UInt8, Bs W v l ∧ l.length + 1 ≤ Rows.uptoBulk y.1 := by
  obtain ⟨l, h1, -, h3⟩ := trod_recs (α := UInt8) (k := 1) (ec := fun c => [B c]) (good := fun _ => True) (μ := fun _ => 1) (e := 5) (by kernel_rfl) (by kernel_rfl) (by decide) (fun _ => rfl) (fun n cs y h hl => by
    obtain ⟨z, rfl, hy, hw⟩ := DataW.trod_int Try.underlying5 h
    refine ⟨UInt8.ofNat z.toNat, ?_, trivial, ?_⟩
    · simp [Lit.wf, IntKind.min, IntKind.max, IntKind.signed, IntKind.bits] at hw
      simp [B]
      omega
    · rw [hy]
      simp [Rows.uptoBulk]) h
  refine ⟨l, ?_, by rw [List.map_const', List.sum_replicate_nat] at h3; omega⟩
  have e := flat_one B l
  unfold RdR at h1
  rw [e] at h1
  exact h1
theorem wf_i64 {x : Int} (h : (Lit.int .i64 x).wf = true) : -9223372036854775808 ≤ x ∧ x < 9223372036854775808 := by
  simp [Lit.wf, IntKind.min, IntKind.max, IntKind.signed, IntKind.bits] at h
  omega
/-- A struct of cells, each field of one cell: how each reads, with what was read. -/
theorem cells_struct2 {H : Type} {enc : TypeId × Value → H} {P : Program} {w : World} {base : Nat} {spare : Nat → Bool} {held : Bool} {t : TypeId} {fs : Array Field} {cs : List Value} {fuel : Nat} {y : DataW H × List MemPlace}
    (hs : P.underlying t = some (.struct fs)) (hone : Go.Deep.oneCellFields P fs = true) (hC : cs.length = fs.size) (h : DataW.trod enc P w base spare held fuel t cs = some y) :
    ∃ n ds, y.1 = .agg ds ∧ ∀ (j : Nat) (f : Field), fs[j]? = some f → ∃ x z, cs[j]? = some x ∧ DataW.trod enc P w base spare held n f.type [x] = some z ∧ ds[j]? = some z.1 := by
  obtain ⟨xs, n, _, hx, _, hlen, hg⟩ := DataW.trod_struct hs h
  refine ⟨n, xs.map (·.1), by rw [hx], fun j f hj => ?_⟩
  obtain ⟨o, k⟩ := Go.Deep.hone_of hone j f hj
  have hjl : j < fs.size := (Array.getElem?_eq_some_iff.1 hj).1
  have hcl : j < cs.length := by omega
  have h1 := hg j f hj
  rw [o, k] at h1
  have h2 : (List.drop j cs).take 1 = [cs[j]] := by
    rw [List.drop_eq_getElem_cons hcl]
    rfl
  rw [h2] at h1
  exact ⟨_, xs[j]'(by omega), List.getElem?_eq_getElem hcl, h1.trans (List.getElem?_eq_getElem _), by rw [List.getElem?_map, List.getElem?_eq_getElem (by omega)]; rfl⟩
end Go.Proofs.Ytimnbnomaajmmaa
namespace Go.Proofs.Ytimnbnomaajmmaa
open Go.ChangeMaps Go.ChangeShapes Go.WideShapes Go.ChangeAt Go.RowKit Go.Fd
set_option maxRecDepth 100000 in
theorem trod_relasB {H : Type} {enc : TypeId × Value → H} {W : World} {v : Value} {y : DataW H × List MemPlace} {fuel : Nat} (h : DataW.trod enc Try.prog W 0 (fun _ => true) true fuel 41 [v] = some y) :
    ∃ l : List RelaM, RdR 4 encRela W v l ∧ (∀ x ∈ l, x.fits) ∧ l.length + 1 ≤ Rows.uptoBulk y.1 := by
  obtain ⟨l, h1, h2, h3⟩ := trod_recs (α := RelaM) (k := 4) (ec := encRela) (good := RelaM.fits) (μ := fun _ => 1) (e := 65) (by kernel_rfl) (by kernel_rfl) (by decide) (fun _ => rfl) (fun n cs y h hl => by
    obtain ⟨xs, n', -, rfl, -, -, -⟩ := DataW.trod_struct Try.underlying65 h
    obtain ⟨m, hf⟩ := cells_struct Try.underlying65 (by kernel_rfl) hl h
    obtain ⟨c0, c1, c2, c3, rfl⟩ := len_4 hl
    obtain ⟨x0, y0, e0, t0⟩ := hf 0 _ rfl
    obtain ⟨x1, y1, e1, t1⟩ := hf 1 _ rfl
    obtain ⟨x2, y2, e2, t2⟩ := hf 2 _ rfl
    obtain ⟨x3, y3, e3, t3⟩ := hf 3 _ rfl
    cases e0; cases e1; cases e2; cases e3
    obtain ⟨n0, q0, -, w0⟩ := DataW.trod_int Try.underlying44 t0
    obtain ⟨n1, q1, -, -⟩ := DataW.trod_int Try.underlying3 t1
    obtain ⟨n2, q2, -, -⟩ := DataW.trod_int Try.underlying3 t2
    obtain ⟨n3, q3, -, w3⟩ := DataW.trod_int Try.underlying2 t3
    cases q0; cases q1; cases q2; cases q3
    have h0 := wf_u64 w0
    refine ⟨⟨n0.toNat, n1, n2, n3⟩, ?_, ⟨by show n0.toNat < _; omega, wf_i64' w3⟩, by simp [Rows.uptoBulk]⟩
    have i0 : ((n0.toNat : Nat) : Int) = n0 := by omega
    unfold encRela
    rw [i0]) h
  exact ⟨l, h1, h2, by rw [List.map_const', List.sum_replicate_nat] at h3; omega⟩
set_option maxRecDepth 100000 in
theorem trod_symsB {H : Type} {enc : TypeId × Value → H} {W : World} {v : Value} {y : DataW H × List MemPlace} {fuel : Nat} (h : DataW.trod enc Try.prog W 0 (fun _ => true) true fuel 23 [v] = some y) :
    ∃ l : List SymM, RdR 6 encSym W v l ∧ (∀ x ∈ l, x.name.length ≤ 9223372036854775807 ∧ x.value < 18446744073709551616 ∧ x.size < 18446744073709551616) := by
  obtain ⟨l, h1, h2, -⟩ := trod_recs (α := SymM) (k := 6) (ec := encSym) (good := fun x => x.name.length ≤ 9223372036854775807 ∧ x.value < 18446744073709551616 ∧ x.size < 18446744073709551616) (μ := fun _ => 0) (e := 46) (by kernel_rfl) (by kernel_rfl) (by decide) (fun _ => rfl) (fun n cs y h hl => by
    obtain ⟨m, hf⟩ := cells_struct Try.underlying46 (by kernel_rfl) hl h
    obtain ⟨c0, c1, c2, c3, c4, c5, rfl⟩ := len_6 hl
    obtain ⟨x0, y0, e0, t0⟩ := hf 0 _ rfl
    obtain ⟨x1, y1, e1, t1⟩ := hf 1 _ rfl
    obtain ⟨x2, y2, e2, t2⟩ := hf 2 _ rfl
    obtain ⟨x3, y3, e3, t3⟩ := hf 3 _ rfl
    obtain ⟨x4, y4, e4, t4⟩ := hf 4 _ rfl
    obtain ⟨x5, y5, e5, t5⟩ := hf 5 _ rfl
    cases e0; cases e1; cases e2; cases e3; cases e4; cases e5
    obtain ⟨s, q0, -, hs⟩ := DataW.trod_string Try.underlying9 t0
    obtain ⟨n1, q1, -, -⟩ := DataW.trod_int Try.underlying3 t1
    obtain ⟨n2, q2, -, -⟩ := DataW.trod_int Try.underlying3 t2
    obtain ⟨n3, q3, -, -⟩ := DataW.trod_int Try.underlying3 t3
    obtain ⟨n4, q4, -, w4⟩ := DataW.trod_int Try.underlying44 t4
    obtain ⟨n5, q5, -, w5⟩ := DataW.trod_int Try.underlying44 t5
    cases q0; cases q1; cases q2; cases q3; cases q4; cases q5
    have h4 := wf_u64 w4
    have h5 := wf_u64 w5
    unfold maxLen at hs
    have g1 : s.data.toList.length ≤ 9223372036854775807 := by simpa using hs
    refine ⟨⟨s.data.toList, n1, n2, n3, n4.toNat, n5.toNat⟩, ?_, ⟨g1, by show n4.toNat < _; omega, by show n5.toNat < _; omega⟩, Nat.zero_le _⟩
    have i4 : ((n4.toNat : Nat) : Int) = n4 := by omega
    have i5 : ((n5.toNat : Nat) : Int) = n5 := by omega
    unfold encSym
    rw [i4, i5]) h
  exact ⟨l, h1, h2⟩
/-- What is known of a part among the arguments. -/
def PartGood (W : World) (p : PartM × Value × Value) : Prop := (p.1.name.length ≤ 9223372036854775807 ∧ p.1.flags.length ≤ 9223372036854775807) ∧ ((-9223372036854775808 ≤ p.1.align ∧ p.1.align < 9223372036854775808) ∧ (-9223372036854775808 ≤ p.1.size ∧ p.1.size < 9223372036854775808)) ∧ Bs W p.2.1 p.1.data ∧ RdR 4 encRela W p.2.2 p.1.relas ∧ ∀ x ∈ p.1.relas, x.fits
set_option maxRecDepth 100000 in
theorem trod_parts {H : Type} {enc : TypeId × Value → H} {W : World} {v : Value} {y : DataW H × List MemPlace} {fuel : Nat} (h : DataW.trod enc Try.prog W 0 (fun _ => true) true fuel 22 [v] = some y) :
    ∃ l : List (PartM × Value × Value), RdR 6 encPart W v l ∧ (∀ p ∈ l, PartGood W p) ∧ (l.map fun p => p.1.data.length + p.1.relas.length + 1).sum + 1 ≤ Rows.uptoBulk y.1 := by
  refine trod_recs (α := PartM × Value × Value) (k := 6) (ec := encPart) (good := PartGood W) (e := 43) (by kernel_rfl) (by kernel_rfl) (by decide) (fun _ => rfl) (fun n cs y h hl => ?_) h
  obtain ⟨m, ds, hy, hf⟩ := cells_struct2 Try.underlying43 (by kernel_rfl) hl h
  obtain ⟨c0, c1, c2, c3, c4, c5, rfl⟩ := len_6 hl
  obtain ⟨x0, y0, e0, t0, -⟩ := hf 0 _ rfl
  obtain ⟨x1, y1, e1, t1, -⟩ := hf 1 _ rfl
  obtain ⟨x2, y2, e2, t2, -⟩ := hf 2 _ rfl
  obtain ⟨x3, y3, e3, t3, -⟩ := hf 3 _ rfl
  obtain ⟨x4, y4, e4, t4, d4⟩ := hf 4 _ rfl
  obtain ⟨x5, y5, e5, t5, d5⟩ := hf 5 _ rfl
  cases e0; cases e1; cases e2; cases e3; cases e4; cases e5
  obtain ⟨s, q0, -, hs⟩ := DataW.trod_string Try.underlying9 t0
  obtain ⟨f, q1, -, hff⟩ := DataW.trod_string Try.underlying9 t1
  obtain ⟨n2, q2, -, w2⟩ := DataW.trod_int Try.underlying3 t2
  obtain ⟨n3, q3, -, w3⟩ := DataW.trod_int Try.underlying3 t3
  obtain ⟨dl, hdl, hdb⟩ := trod_bytes t4
  obtain ⟨rl, hrl, hrf, hrb⟩ := trod_relasB t5
  cases q0; cases q1; cases q2; cases q3
  have h2 := wf_i64 w2
  have h3 := wf_i64 w3
  unfold maxLen at hs hff
  have g1 : s.data.toList.length ≤ 9223372036854775807 := by simpa using hs
  have g2 : f.data.toList.length ≤ 9223372036854775807 := by simpa using hff
  refine ⟨(⟨s.data.toList, f.data.toList, n2, n3, dl, rl⟩, c4, c5), rfl, ⟨⟨g1, g2⟩, ⟨h2, h3⟩, hdl, hrl, hrf⟩, ?_⟩
  rw [hy, Rows.uptoBulk]
  have := bulk_pair (by decide : 4 < 5) d4 d5
  show dl.length + rl.length + 1 ≤ _
  omega
/-- A module by value, as it is read; how great it is. -/
structure ObjRead (W : World) (v : Value) (n : Nat) (o : ObjM) (L : List (PartM × Value × Value)) (pv sv : Value) : Prop where
  val : v = objV o pv sv
  at_ : ObjAt W o L pv sv
  target : -9223372036854775808 ≤ o.target ∧ o.target < 9223372036854775808
  good : ∀ p ∈ L, PartGood W p
  texts : ∀ s ∈ o.syms, s.name.length ≤ 9223372036854775807 ∧ s.value < 18446744073709551616 ∧ s.size < 18446744073709551616
  size : (L.map fun p => p.1.data.length + p.1.relas.length + 1).sum ≤ n
set_option maxRecDepth 100000 in
theorem reads_obj {H : Type} {enc : TypeId × Value → H} {W : World} {base : Nat} {v : Value} {d : DataW H} {p : List MemPlace} (hv : Value.okWide Try.prog W .any base 25 v) (h : DataW.Trod enc Try.prog W 0 (fun _ => true) true 25 v d p) :
    ∃ o L pv sv, ObjRead W v (Rows.uptoBulk d) o L pv sv := by
  obtain ⟨cs, rfl, hsz⟩ := okWide_struct Try.underlying25 hv
  have h3 : cs.toList.length = 3 := by simp [hsz]; kernel_rfl
  obtain ⟨fuel, hf0⟩ := h
  obtain ⟨m, ds, hy, hf⟩ := cells_struct2 (cs := cs.toList) Try.underlying25 (by kernel_rfl) h3 hf0
  obtain ⟨c0, c1, c2, hcs⟩ := len_3 h3
  rw [hcs] at hf
  obtain ⟨x0, y0, e0, t0, -⟩ := hf 0 _ rfl
  obtain ⟨x1, y1, e1, t1, d1⟩ := hf 1 _ rfl
  obtain ⟨x2, y2, e2, t2, -⟩ := hf 2 _ rfl
  cases e0; cases e1; cases e2
  obtain ⟨n0, q0, -, w0⟩ := DataW.trod_int Try.underlying3 t0
  obtain ⟨L, hL, hg, hs⟩ := trod_parts t1
  obtain ⟨Y, hY, hYg⟩ := trod_symsB t2
  cases q0
  have h0 := wf_i64 w0
  refine ⟨⟨n0, L.map (·.1), Y⟩, L, c1, c2, ?_, ⟨rfl, hL, fun p hp => (hg p hp).2.2.1, fun p hp => (hg p hp).2.2.2.1, hY⟩, h0, hg, hYg, ?_⟩
  · have : cs = #[.int .i64 n0, c1, c2] := by
      rw [← Array.toList_inj, hcs]
    rw [this]
  · dsimp only at hy
    rw [hy, Rows.uptoBulk]
    have := bulk_get d1
    omega
theorem ObjRead.arg {W : World} {v : Value} {n : Nat} {o : ObjM} {L : List (PartM × Value × Value)} {pv sv : Value} (h : ObjRead W v n o L pv sv) (hn : n ≤ 1048576) : ObjArg o := by
  have h1 := h.size
  have hs : psum o.parts ≤ 24 * (L.map fun p => p.1.data.length + p.1.relas.length + 1).sum ∧ o.parts.length ≤ (L.map fun p => p.1.data.length + p.1.relas.length + 1).sum := by
    rw [h.at_.parts]
    clear h h1
    induction L with
    | nil => exact ⟨Nat.zero_le _, Nat.zero_le _⟩
    | cons p L ih =>
      unfold psum at *
      simp only [List.map_cons, List.sum_cons, List.length_cons, List.length_map] at *
      omega
  have hp : ∀ p ∈ o.parts, ∃ q ∈ L, q.1 = p := fun p hp => by
    rw [h.at_.parts] at hp
    obtain ⟨q, hq, rfl⟩ := List.mem_map.1 hp
    exact ⟨q, hq, rfl⟩
  refine ⟨h.target, fun p hm => ?_, fun p hm x hx => ?_, fun s hs => (h.texts s hs).2, by omega, by omega, fun p hm => ?_, fun s hs => (h.texts s hs).1⟩
  · obtain ⟨q, hq, rfl⟩ := hp p hm
    exact (h.good q hq).2.1
  · obtain ⟨q, hq, rfl⟩ := hp p hm
    exact (h.good q hq).2.2.2.2 x hx
  · obtain ⟨q, hq, rfl⟩ := hp p hm
    exact (h.good q hq).1
end Go.Proofs.Ytimnbnomaajmmaa
namespace Go.Proofs.Ytimnbnomaajmmaa
open Go.ChangeShapes Go.WideShapes Go.ChangeAt Go.RowKit Go.Fd
set_option maxRecDepth 100000 in
theorem objectBackUpto_lifted (os : Os) (started : os.Started) (H : Type) (enc : TypeId × Value → H) (F : Stop.Interp) :
    ReturnsInHanded {} Try.checked os 4 .any ((Rows.OpenSpec.upto Rows.objectBackSpec).pre6 enc Try.prog Try.f4 Rows.objectBackUptoRow.domain false) (((Rows.OpenSpec.upto Rows.objectBackSpec).at F).post enc Try.prog Try.f4 false true false false) := by
  refine handed_cond (C := Try.checked) (s := (Rows.OpenSpec.upto Rows.objectBackSpec)) (k := Rows.uptoSmall) rfl Try.own started (by kernel_rfl) Try.func4
    (OpenSpec.witness (enc := enc) (C := Try.checked) (s := (Rows.OpenSpec.upto Rows.objectBackSpec)) (k := Rows.uptoSmall) rfl false ⟨#[], #[.agg #[.int .i64 0, .slice none 0 0, .slice none 0 0]], []⟩ 8 (by kernel_rfl) (by kernel_rfl) (by kernel_rfl)
      (x := ([.agg [.lit (.int .i64 0), .nil, .nil]], [], [])) (by kernel_rfl) rfl (by kernel_rfl)) ?_
  intro W base args ds gs before hval0 hW hk hz hsh
  have hval : ∀ (j : Nat) t v, Try.f4.params[j]? = some t → args[j]? = some v → Value.okWide Try.prog W .any base t v := hval0
  have hW' := hW
  obtain ⟨p, q, hA0, hV, rfl, hfz, hnd⟩ := hW
  have hA : DataW.TrodAll enc Try.prog W 0 (fun _ => true) true Try.f4.params.toList args.toList ds p := hA0
  have hlt : ∀ x ∈ p, x.block < W.heap.size := fun x hx => hW'.lt x (by simp [hx])
  have hback : ∀ W', Below W.heap.size W W' → DataW.TrodAll enc Try.prog W' 0 (fun b => decide (b < W.heap.size)) true Try.f4.params.toList args.toList ds p :=
    fun W' hb => belowAllB (by kernel_rfl) hb hA hlt
  rw [Try.params4] at hA hval
  obtain ⟨v0, vs0, d0, ds0, p0, q0, hargs, rfl, rfl, h0, r0⟩ := trodAll_cons hA
  obtain ⟨rfl, rfl, rfl⟩ := trodAll_nil r0
  obtain rfl : args = #[v0] := by
    cases args
    simp at hargs
    simp [hargs]
  clear hargs
  obtain ⟨rfl, rfl⟩ := trodVars_none hV
  have fin : ∀ (e : Ending) (W' : World), (e = .returned (.bool true) ∧ Below W.heap.size W W') → ∃ v, e = Ending.returned v ∧ ((Rows.OpenSpec.upto Rows.objectBackSpec).at F).post enc Try.checked.prog Try.f4 false true false false W #[v0] v W' := by
    rintro e W' ⟨rfl, hb⟩
    exact ⟨_, rfl, _, _, _, [], _, [], hW', trodAll_mk1 (shut_bool Try.underlying4 true), hback W' hb, rfl, hb.frame _, fun h => by cases h⟩
  obtain ⟨o, L, pv, sv, hr0⟩ := reads_obj (hval 0 25 v0 rfl rfl) h0
  have hb : Rows.uptoBulk d0 ≤ 1048576 := by
    have := of_decide_eq_true hk
    simp [Rows.uptoBulkAll] at this
    omega
  obtain rfl := hr0.val
  exact (objectBack_any o L pv sv W hr0.at_ (hr0.arg hb)).mono fin
theorem objectBackUpto_holds : Rows.ObjectBackUptoSaid :=
  OpenClaim.holds_of_cond 4 Try.f4 rfl rfl rfl rfl rfl rfl rfl ⟨rfl, rfl, rfl, rfl, rfl⟩ rfl rfl rfl rfl rfl (by kernel_rfl) Try.func4 (by kernel_rfl)
    (of_decide_eq_true (by kernel_rfl)) (by unfold Func.isWrapper; rw [if_neg (of_decide_eq_false (by kernel_rfl))]; exact ⟨rfl, rfl⟩)
    (fun os started H enc _ F => objectBackUpto_lifted os started H enc F)
end Go.Proofs.Ytimnbnomaajmmaa
#print axioms Go.Proofs.Ytimnbnomaajmmaa.objectBackUpto_holds
